/- Reference 19: requests and answers as bytes. Condition: bounds on lengths. -/
import Derived.Test.YtlplemdmegpoeaaGreatDoorB6
import Derived.SizedLaws
import GoSem.Instr.MapEntry
import Derived.Test.YtlplemdmegpoeaaGreatDoorB5
set_option linter.unusedVariables false
set_option linter.unusedSimpArgs false
set_option maxHeartbeats 8000000
namespace Go.Proofs.YtlplemdmegpoeaaGreatDoor
section
open Go Go.VC Tryz
open Classical
variable {R:Cx} {Hs Rest:List HP} {w:World}
theorem ZjW {q:Rq} {s:Sl} (hs:s.len=q.cmd.length) (hw:Sat R Hs w):
  Zm prog 84 #[.agg #[nI q.kind,nI q.client,nI q.seq,nI q.token,.slice s.a s.len s.cap]] w λ v w'=>v=.bool (decide (ZaK q))/\Sat R Hs w':=by
 apply ZA2;refine Za hw λ b w hw=>?_;have hw:Sat R (rqC b q s::Hs) w:=hw;refine ⟨q.client,oA hw,q.seq,oA hw,q.token,oA hw,?_⟩;refine Za hw λ b2 w hw=>?_;have hw:Sat R (Own ⟨some ⟨b2,0,none⟩,3,3⟩ 3 (Ze [q.client,q.seq,q.token])::rqC b q s::Hs) w:=ZbH hw;obtain ⟨L,hL⟩:∃ L,L=[q.client,q.seq,q.token]:=⟨_,rfl⟩;have hLl:L.length=3:=by rw [hL];rfl
 rw [<-hL] at hw;have no:¬ ZaK q->∀ {w},Sat R (Own ⟨some ⟨b2,0,none⟩,3,3⟩ 3 (Ze L)::rqC b q s::Hs) w->(Value.bool false=.bool (decide (ZaK q))/\Sat R Hs w):=λ h w hw=>⟨by rw [decide_eq_false h],hw.drop.drop⟩;have bad:∀ n∈L,¬ inI n->¬ ZaK q:=λ n hn h hq=>by
  rw [hL] at hn;simp only [List.mem_cons,List.not_mem_nil,or_false] at hn;rcases hn with rfl|rfl|rfl
  ·exact h hq.client
  ·exact h hq.seq
  ·exact h hq.token
 refine ⟨λ i w=>∃ k:Nat,i=k/\k<=3/\(∀ n∈L.take k,inI n)/\Sat R (Own ⟨some ⟨b2,0,none⟩,3,3⟩ 3 (Ze L)::rqC b q s::Hs) w,λ i _=>3 - i.toNat,⟨0,rfl,by omega,by simp,hw⟩,?_⟩;clear hw;rintro _ _ w ⟨k,rfl,hk,hok,hw⟩;refine Br.d (λ h=>?_) (λ h=>?_)
 ·have hkx:k<L.length:=by omega
  refine Own.ix (s:=⟨some ⟨b2,0,none⟩,3,3⟩) hw (eqS hw) k rfl hkx ?_;refine Br.d (λ h2=>no (bad _ (List.getElem_mem hkx) (by unfold inI;omega)) hw) (λ h2=>?_);refine Own.ix (s:=⟨some ⟨b2,0,none⟩,3,3⟩) hw (eqS hw) k rfl hkx ?_;refine Br.d (λ h3=>no (bad _ (List.getElem_mem hkx) (by unfold inI;omega)) hw) (λ h3=>?_);rw [Zf];refine ⟨⟨k + 1,by omega,by omega,λ n hn=>?_,hw⟩,by dsimp only;omega⟩;rw [List.take_add_one,List.getElem?_eq_getElem hkx] at hn;rcases List.mem_append.1 hn with hn|hn
  ·exact hok n hn
  ·rw [show n=L[k] by simpa using hn]
   exact ⟨by omega,by omega⟩
 rw [List.take_of_length_le (by omega)] at hok;have h1:inI q.client:=hok _ (by rw [hL];simp);have h2:inI q.seq:=hok _ (by rw [hL];simp);have h3:inI q.token:=hok _ (by rw [hL];simp);refine ⟨s,oA hw,Br.d (λ h4=>no (λ hq=>by have:=hq.cmd;omega) hw) (λ h4=>?_)⟩;have fin:∀ {p:Prop} {i:Decidable p},(p↔ZaK q)->(Value.bool (@decide p i)=.bool (decide (ZaK q))/\Sat R Hs w):=λ h=>⟨by congr 1;exact decide_eq_decide.2 h,hw.drop.drop⟩;have mk:∀ (hk:(q.kind=1/\q.client=0/\q.seq=0/\q.cmd.length=0)\/(q.kind=2/\q.token=0)\/(q.kind=3/\q.token=0/\q.seq=0/\q.cmd.length=0)\/(q.kind=4/\q.client=0/\q.seq=0/\q.token=0)),ZaK q:=λ hk=>⟨h1,h2,h3,by omega,hk⟩;refine ⟨q.kind,oA hw,Br.e (λ k=>?_) (λ k1=>?_)⟩
 ·refine ⟨q.client,oA hw,Br.e (λ h5=>?_) (λ h5=>no (λ hq=>by have:=hq.kind;omega) hw)⟩
  refine ⟨q.seq,oA hw,Br.e (λ h6=>?_) (λ h6=>no (λ hq=>by have:=hq.kind;omega) hw)⟩;refine ⟨s,oA hw,fin (p:=(s.len:Int)=0) ?_⟩;exact ⟨λ h7=>mk (by omega),λ hq=>by have:=hq.kind;omega⟩
 refine Br.e (λ k=>?_) (λ k2=>?_)
 ·refine ⟨q.token,oA hw,fin (p:=q.token=0) ?_⟩
  exact ⟨λ h6=>mk (by omega),λ hq=>by have:=hq.kind;omega⟩
 refine Br.e (λ k=>?_) (λ k3=>?_)
 ·refine ⟨q.seq,oA hw,Br.e (λ h5=>?_) (λ h5=>no (λ hq=>by have:=hq.kind;omega) hw)⟩
  refine ⟨q.token,oA hw,Br.e (λ h6=>?_) (λ h6=>no (λ hq=>by have:=hq.kind;omega) hw)⟩;refine ⟨s,oA hw,fin (p:=(s.len:Int)=0) ?_⟩;exact ⟨λ h7=>mk (by omega),λ hq=>by have:=hq.kind;omega⟩
 refine Br.e (λ k=>?_) (λ k4=>no (λ hq=>by have:=hq.kind;omega) hw);refine ⟨q.client,oA hw,Br.e (λ h5=>?_) (λ h5=>no (λ hq=>by have:=hq.kind;omega) hw)⟩;refine ⟨q.seq,oA hw,Br.e (λ h6=>?_) (λ h6=>no (λ hq=>by have:=hq.kind;omega) hw)⟩;refine ⟨q.token,oA hw,fin (p:=q.token=0) ?_⟩;exact ⟨λ h7=>mk (by omega),λ hq=>by have:=hq.kind;omega⟩
theorem Zm3 {s:Sl} {bs:List Int} (hb:Zr bs) (hl:bs.length<=1099511627776) (hs:SlR R.m s (b8 bs)) (hw:Sat R Hs w):
  Zm prog 27 #[.slice s.a s.len s.cap] w λ v w'=>∃ t:Sl,v=.tuple #[.agg (rqV (Zad mI bs).1 t).toArray,nI (Zad mI bs).2]/\Sat R (Own t 5 (b8 (Zad mI bs).1.cmd)::Hs) w':=by
 rw [<-ZwV];apply ZBw;have bb0:Zr (⟨bs,false⟩:Rd).bs:=hb;obtain ⟨rd0,e0⟩:∃ rd:Rd,rd=⟨bs,false⟩:=⟨_,rfl⟩;rw [<-e0] at bb0;refine Za hw λ b2 w hw=>?_;have hw:Sat R (Zct b2::Hs) w:=hw;refine Za hw λ p w hw=>?_;have hw:Sat R (pts p (Z4 s 0 false)::Zct b2::Hs) w:=hw;have hw:Sat R (ZB p s bs ⟨bs,false⟩::Zct b2::Hs) w:=Sat.rrd.2 ⟨0,⟨by omega,rfl⟩,hw⟩;rw [<-e0] at hw;have bb1:=Zd (most:=4) bb0;have v1:=Zn (most:=4) bb0 (by decide);obtain ⟨k,rd1,e1⟩:∃ y rd,Zb 4 rd0=(y,rd):=⟨_,_,rfl⟩;refine (Zt (most:=4) hl hb hs hw).u λ w hw=>?_;rw [e1] at bb1 v1 hw ⊢;dsimp only at bb1 v1 hw ⊢;refine ⟨_,rfl,?_⟩;have bb2:=Zd (most:=mI) bb1;have v2:=Zn (most:=mI) bb1 (by decide);obtain ⟨c,rd2,e2⟩:∃ y rd,Zb mI rd1=(y,rd):=⟨_,_,rfl⟩;refine (Zt (most:=mI) hl hb hs hw).u λ w hw=>?_;rw [e2] at bb2 v2 hw ⊢;dsimp only at bb2 v2 hw ⊢;refine ⟨_,rfl,?_⟩;have bb3:=Zd (most:=mI) bb2;have v3:=Zn (most:=mI) bb2 (by decide);obtain ⟨q,rd3,e3⟩:∃ y rd,Zb mI rd2=(y,rd):=⟨_,_,rfl⟩;refine (Zt (most:=mI) hl hb hs hw).u λ w hw=>?_;rw [e3] at bb3 v3 hw ⊢;dsimp only at bb3 v3 hw ⊢;refine ⟨_,rfl,?_⟩;have bb4:=Zd (most:=mI) bb3;have v4:=Zn (most:=mI) bb3 (by decide);obtain ⟨t,rd4,e4⟩:∃ y rd,Zb mI rd3=(y,rd):=⟨_,_,rfl⟩;refine (Zt (most:=mI) hl hb hs hw).u λ w hw=>?_;rw [e4] at bb4 v4 hw ⊢;dsimp only at bb4 v4 hw ⊢;refine ⟨_,rfl,?_⟩;have v2b:c<=1099511627776:=v2.2;have v3b:q<=1099511627776:=v3.2;have v4b:t<=1099511627776:=v4.2;rw [Zuj v1.1 (by omega),Zuj v2.1 (by omega),Zuj v3.1 (by omega),Zuj v4.1 (by omega)];refine Za hw λ b w hw=>?_;refine sRu hw λ w hw=>?_;have hw:Sat R (ZB p s bs rd4::rqC b ⟨k,c,q,t,[]⟩ ZbQ::Zct b2::Hs) w:=(hw.re (rqC b ⟨k,c,q,t,[]⟩ ZbQ)).swap;obtain ⟨d,rd5,e5⟩:∃ y rd,ZD 4000 rd4=(y,rd):=⟨_,_,rfl⟩;refine (ZbW (most:=4000) (by omega) hl hb hs hw).u1 λ sd w hw=>?_;rw [e5] at hw;dsimp only at hw;refine ⟨sd,rfl,?_⟩;refine sRu hw λ w hw=>?_;have hC:Zrr 4 ⟨bs,false⟩=(⟨k,c,q,t,d⟩,rd5):=by
  rw [<-e0];unfold Zrr;simp only [e1,e2,e3,e4,e5]
 obtain ⟨C,eC⟩:∃ C:Rq,C=⟨k,c,q,t,d⟩:=⟨_,rfl⟩;have hw:Sat R (rqC b C sd::Own sd 5 (b8 C.cmd)::ZB p s bs rd5::Zct b2::Hs) w:=by rw [eC];exact hw.re (rqC b ⟨k,c,q,t,d⟩ sd)
 rw [<-eC] at hC;have hdec:Zad 4 bs=if ZF rd5=true/\ZaK C then (C,0) else (ZkY,6):=by unfold Zad;rw [hC]
 clear hC eC e0 e1 e2 e3 e4 e5;have hw:Sat R (ZB p s bs rd5::rqC b C sd::Own sd 5 (b8 C.cmd)::Zct b2::Hs) w:=hw.arr;refine (Zbv hs hw).u λ w hw=>?_;have no:Zad 4 bs=(ZkY,6)->∀ {w},Sat R (Zct b2::Hs) w->∃ t:Sl,Value.tuple #[.agg (rqV ZkY ZbQ).toArray,nI 6]=.tuple #[.agg (rqV (Zad 4 bs).1 t).toArray,nI (Zad 4 bs).2]/\Sat R (Own t 5 (b8 (Zad 4 bs).1.cmd)::Hs) w:=λ e {w} hw=>by
  rw [e];exact ⟨ZbQ,rfl,Own.nil hw.drop⟩
 refine ⟨_,rfl,C.kind,C.client,C.seq,C.token,sd,oA hw,?_⟩;have hsl:sd.len=C.cmd.length:=by
  have:=Own.len (hw.arr (Hs':=Own sd 5 (b8 C.cmd)::ZB p s bs rd5::rqC b C sd::Zct b2::Hs));simpa using this
 refine (ZjW hsl hw).u λ w hw=>?_;refine ⟨_,rfl,Br.nb (λ h=>?_) (λ h=>Br.nb (λ h2=>?_) (λ h2=>?_))⟩
 ·have hw:Sat R (Zct b2::Hs) w:=hw.drop.drop.drop
  refine sRu hw λ w hw=>?_;have hw:=hw.re (Zct b2);refine ⟨_,_,_,_,ZbQ,oA hw,no ?_ hw⟩;rw [hdec,if_neg (by rintro ⟨h1,_⟩;rw [h1] at h;cases h)]
 ·have hw:Sat R (Zct b2::Hs) w:=hw.drop.drop.drop
  refine sRu hw λ w hw=>?_;have hw:=hw.re (Zct b2);refine ⟨_,_,_,_,ZbQ,oA hw,no ?_ hw⟩;rw [hdec,if_neg (by rintro ⟨_,h1⟩;rw [decide_eq_true h1] at h2;cases h2)]
 refine ⟨C.kind,C.client,C.seq,C.token,sd,oA hw,?_⟩;have hw:Sat R (Zct b2::Own sd 5 (b8 C.cmd)::ZB p s bs rd5::rqC b C sd::Hs) w:=hw.arr;refine sRu hw λ w hw=>?_;have hw:=hw.re (rqC b2 C sd);refine ⟨C.kind,C.client,C.seq,C.token,sd,oA hw,?_⟩;rw [hdec,if_pos ⟨h,of_decide_eq_true h2⟩];exact ⟨sd,rfl,hw.drop.cons λ _ h=>h.drop.drop⟩
theorem ZgR {q:Zo3} {s t:Sl} (h1:Ro R s (b8 q.reply)) (h2:Ro R t (b8 q.reply)) (hw:Sat R Hs w):
  Zm prog 28 #[.agg #[nI q.code,nI q.client,nI q.seq,.slice s.a s.len s.cap],.agg #[nI q.code,nI q.client,nI q.seq,.slice t.a t.len t.cap]] w λ v w'=>v=.bool true/\Sat R Hs w':=by
 apply ZBv;refine Za hw λ x w hw=>Za hw λ y w hw=>?_;have hw:Sat R (tdC y q t::tdC x q s::Hs) w:=hw;refine ⟨q.code,oA hw,q.code,oA hw,Br.e (λ _=>?_) (λ h=>absurd rfl h)⟩;refine ⟨q.client,oA hw,q.client,oA hw,Br.e (λ _=>?_) (λ h=>absurd rfl h)⟩;refine ⟨q.seq,oA hw,q.seq,oA hw,Br.e (λ _=>?_) (λ h=>absurd rfl h)⟩;refine ⟨s,oA hw,VC.strOf q.reply,λ w' e=>?_,t,oA hw,VC.strOf q.reply,λ w' e=>?_,?_,hw.drop.drop⟩
 ·rw [show w'=w from e]
  exact Zdc underlying47 underlying5 underlying9 hw h1
 ·rw [show w'=w from e]
  exact Zdc underlying47 underlying5 underlying9 hw h2
 ·rw [Zq6,decide_eq_true rfl]
def ZmB (tok:Int):Rq:=⟨1,0,0,tok,[]⟩
theorem ZcB {tok:Int} (h:inI tok):ZaK (ZmB tok):=⟨⟨Int.le_refl 0,by show (0:Int)<=1099511627776;omega⟩,⟨Int.le_refl 0,by show (0:Int)<=1099511627776;omega⟩,h,by show 0<=4000;omega,.inl ⟨rfl,rfl,rfl,rfl⟩⟩
theorem ZfG {q:Rq} (h:ZaK q) (hc:Zr q.cmd):Zr (rqB q):=by
 have h1:=h.k4;obtain ⟨a1,a2⟩:=h.client;obtain ⟨a3,a4⟩:=h.seq;obtain ⟨a5,a6⟩:=h.token;have h2:=h.cmd;intro y hy;unfold rqB at hy;rcases List.mem_append.1 hy with hy|hy
 ·refine Zb3 (l:=[q.kind,q.client,q.seq,q.token]) (λ x hx=>?_) y hy
  simp only [List.mem_cons,List.not_mem_nil,or_false] at hx;rcases hx with rfl|rfl|rfl|rfl<;>omega
 ·unfold ZaZ at hy
  rcases List.mem_append.1 hy with hy|hy
  ·exact Zj4 (n:=q.cmd.length) (by omega) y hy
  ·exact hc y hy
theorem Zel {q:Rq} {s:Sl} (hs:Ro R s (b8 q.cmd)) (hw:Sat R Hs w):
  Zm prog 24 #[.agg #[nI q.kind,nI q.client,nI q.seq,nI q.token,.slice s.a s.len s.cap]] w λ v w'=>∃ t:Sl,v=.slice t.a t.len t.cap/\Sat R (Own t 5 (b8 (ZqE q).1)::Hs) w':=by
 apply ZBz;refine Za hw λ b w hw=>?_;have hw:Sat R (rqC b q s::Hs) w:=hw;refine ⟨q.kind,q.client,q.seq,q.token,s,oA hw,?_⟩;refine (Zrj hs hw).u1 λ t w hw=>?_;exact ⟨t,_,rfl,t,rfl,hw.cons λ _ h=>h.drop⟩
theorem beg9:ZBV.applyT (rqB (ZmB 9))=(⟨0,1,0,[]⟩,⟨2,[⟨1,9,0,[]⟩],Zfm⟩):=by
 unfold Tb.applyT;rw [Zgp (ZcB ⟨by omega,by omega⟩),if_neg (by simp)];rfl
theorem ZtS (hw:Sat R Hs w):Zm prog 20 #[] w λ v w'=>v=.bool true/\Sat R Hs w':=by
 apply ZBD;refine (Zlg hw).u1 λ p w hw=>?_;refine ⟨_,rfl,Br.f rfl ?_⟩;have h9:inI 9:=⟨by omega,by omega⟩;refine (Zel (q:=ZmB 9) (s:=ZbQ) ⟨rfl,by show 0<=9223372036854775807;omega,λ h=>absurd rfl h⟩ hw).u1 λ t w hw=>?_;have he:(ZqE (ZmB 9)).1=rqB (ZmB 9):=by unfold ZqE;rw [if_pos (ZcB h9)]
 rw [he] at hw;have hlen:=ZjP (ZcB h9);obtain ⟨R1,e1,g1,hw⟩:=Own.leak hw;refine ⟨t,rfl,?_⟩;refine (ZbV Zsj (by show (1:Int)<1000000;omega) (ZfG (ZcB h9) (λ _ h=>by cases h)) (by omega) (g1.ro) hw).u1 λ x w hw=>?_;rw [beg9] at hw ⊢;refine ⟨0,1,0,x,rfl,?_⟩;refine Za hw λ b w hw=>?_;refine sRu hw λ w hw=>?_;have hw:=hw.re (tdC b ⟨0,1,0,[]⟩ x);refine ⟨0,oA hw,Br.e (λ _=>?_) (λ h=>absurd rfl h)⟩;exact ⟨1,oA hw,rfl,e1.back hw.drop.drop.drop⟩
abbrev sls (ps:List (Sl × List Int)):List Sl:=ps.map (·.1)
structure ZAg (R:Cx) (s:Sl) (ps:List (Sl × List Int)):Prop where
 rows:Ro R s ((sls ps).map Sl.v)
 each:∀ e∈ps,SlR R.m e.1 (b8 e.2)
 by':∀ e∈ps,Zr e.2
theorem ZAg.len {s:Sl} {ps:List (Sl × List Int)} (h:ZAg R s ps):s.len=ps.length:=by have:=h.rows.len;simpa using this
theorem ZhU {s:Sl} {ps:List (Sl × List Int)} (h:ZAg R s ps) (hw:Sat R Hs w):
  Zm prog 21 #[.slice s.a s.len s.cap] w λ v w'=>∃ b,v=.bool b/\(b=false->∀ k (hk:k<ps.length),k<200->ps[k].2.length<=10000)/\Sat R Hs w':=by
 have hsl:=h.len;apply ZBC;refine ⟨λ i w=>∃ k:Nat,i=k/\k<=200/\(∀ j (hj:j<ps.length),j<k->ps[j].2.length<=10000)/\Sat R Hs w,λ i _=>200 - i.toNat,⟨0,rfl,by omega,λ j _ hj=>by omega,hw⟩,?_⟩;clear hw;rintro _ _ w ⟨k,rfl,hk,ha,hw⟩
 with_reducible refine Br.d (λ h1=>?_) (λ h1=>?_)
 case refine_2=>exact ⟨false,rfl,λ _ j hj _=>ha j hj (by omega),hw⟩
 with_reducible refine Br.d (λ h2=>?_) (λ h2=>?_)
 case refine_2=>exact ⟨false,rfl,λ _ j hj h3=>ha j hj (by omega),hw⟩
 have hkl:k<(sls ps).length:=by rw [List.length_map];omega
 refine h.rows.idxS (eqS hw) hkl ?_;have hkp:k<ps.length:=by omega
 have hel:(sls ps)[k].len=ps[k].2.length:=by
  rw [List.getElem_map];have:=(h.each _ (List.getElem_mem hkp)).len;rw [this,List.length_map]
 with_reducible refine Br.d (λ h3=>?_) (λ h3=>?_)
 ·exact ⟨true,rfl,λ h=>(by cases h),hw⟩
 rw [Zf];refine ⟨⟨k + 1,by omega,by omega,λ j hj hjk=>?_,hw⟩,by dsimp only;omega⟩;by_cases e:j=k
 ·subst e;omega
 ·exact ha j hj (by omega)
theorem _root_.Go.VC.At.vals {S:World->Prop} {b:Nat} {vs:List Value} {T:TypeId} {fr:Nat × Nat} (hS:∀ w,S w->Sat R Hs w)
  [t:Zd2 b Hs (.cells vs.toArray T fr) Rest] {i:Nat} (hi:i<vs.length):At S (Addr.add ⟨b,0,none⟩ i) [vs[i]]:=by
 rw [Zy];refine At.own hS ?_;rw [Nat.zero_add,List.drop_eq_getElem_cons hi];exact ⟨rfl,trivial⟩
def wtN (x:Wt):List Nat:=[x.id.toNat,x.cls.toNat,x.many.toNat,x.time.toNat,ZmI x.sc]
def ZiB (l:List Nat):List Int:=(l.map Zec).flatten
theorem ZAh (x:Wt):wtB x=ZiB (wtN x):=by
 simp [wtB,ZiB,wtN,Zl,Zwf]
theorem Zi9 {l:List Nat} {j:Nat} (hj:j<l.length):ZiB (l.take (j + 1))=ZiB (l.take j)++Zec l[j]:=by
 unfold ZiB;rw [List.take_add_one,List.getElem?_eq_getElem hj,List.map_append,List.flatten_append];simp
theorem ZlQ {l:List Nat} (h:∀ x∈l,x<18446744073709551616):(ZiB l).length<=9 * l.length:=Zbo λ x hx=>Zbn (h x hx)
theorem ZvP {x:Wt} (h:x.Ok) (hf:x.sc<18446744073709551616):∀ y∈wtN x,y<18446744073709551616:=by
 obtain ⟨h1,h2,h3,h4⟩:=h;intro y hy;simp only [wtN,List.mem_cons,List.not_mem_nil,or_false] at hy;have:=Zoz hf;omega
theorem Zf6 {α β:Type} {f:α->List β} {l:List α} {j:Nat} (hj:j<l.length):((l.take (j + 1)).map f).flatten=((l.take j).map f).flatten++f l[j]:=by
 rw [List.take_add_one,List.getElem?_eq_getElem hj,List.map_append,List.flatten_append];simp
theorem ZrP {q:Nat} {l:List Wt} (hq:QOk l) (hw:Sat R (ZR q l::Hs) w):
  Zm prog 65 #[nP q] w λ v w'=>∃ t:Sl,v=.slice t.a t.len t.cap/\Sat R (Own t 5 (b8 (qB l))::ZR q l::Hs) w':=by
 apply ZBg
 suffices H:∀ K:nK,(∀ (t:Sl) w',Sat R (Own t 5 (b8 (qB l))::ZR q l::Hs) w'->K (.slice t.a t.len t.cap) w')->B65 (some ⟨q,0,none⟩) K w from H _ λ t w' h=>⟨t,rfl,h⟩
 intro K hK;have hlen:=hq.len;obtain ⟨s,hw⟩:=Sat.qu.1 hw;have hsl:=Zs.len hw.swap;rw [List.length_map] at hsl;refine Zc.mk rfl ⟨s,oA hw,?_⟩;rw [ZP];refine (ZbY (by omega) hw).u1 λ t0 w hw=>?_;refine ⟨t0,rfl,Zc.mk rfl ⟨s,oA hw,?_⟩⟩;have e0:Zec s.len=Zl [(l.length:Int)]:=by rw [hsl];simp [Zl]
 rw [e0] at hw;refine ⟨λ t i w=>∃ k:Nat,i=k/\k<=l.length/\Sat R (Own t 5 (b8 (Zl [(l.length:Int)]++((l.take k).map wtB).flatten))::pts q (Zay s)::Zs 5 s wtT (l.map wtV)::Hs) w,
  λ _ i _=>l.length - i.toNat,⟨0,rfl,by omega,by simpa using hw⟩,?_⟩
 clear hw;rintro _ t _ w ⟨k,rfl,hk,hw⟩;refine Br.d (λ h=>?_) (λ h=>?_)
 ·have hk2:k<l.length:=by omega
  have hx:=List.getElem_mem hk2;have hok:=hq.ok _ hx;have hfl:=hq.fl _ hx;have hu:=ZvP hok hfl;obtain ⟨h1,h2,h3,h4⟩:=id hok;refine (Zs.readsM (n:=5) (s:=s) (T:=wtT) (rows:=l.map wtV) hw (eqS hw)).rngM (E:=l) (g:=wtV) hk2 λ a _ he=>?_;refine ⟨_,_,_,_,_,he.z (by exact ⟨rfl,rfl,rfl,rfl,rfl,trivial⟩),?_⟩;refine Za hw λ b2 w hw=>?_;refine sRu hw λ w hw=>?_;have hw:=hw.re (wtC b2 l[k]);refine ZaV hw λ w hw=>?_;refine ⟨l[k].id,oS,l[k].cls,oS,l[k].many,oS,l[k].time,oS,l[k].sc,oS,?_⟩;refine (Zu7 hfl hw).u λ w hw=>?_;refine ⟨_,rfl,hw,?_⟩;rw [ZP (x:=l[k].id),ZP (x:=l[k].cls),ZP (x:=l[k].many),ZP (x:=l[k].time)];refine Za hw λ b5 w hw=>⟨hw.absorb,?_⟩;obtain ⟨us,hus⟩:∃ us,us=wtN l[k]:=⟨_,rfl⟩;have hul:us.length=5:=by rw [hus];rfl
  have hw:Sat R (pts b5 (.cells (us.map λ n=>Value.int .u64 (n:Nat)).toArray 141 (0,0))::wtC b2 l[k]::Own t 5 (b8 (Zl [(l.length:Int)]++((l.take k).map wtB).flatten))::pts q (Zay s)::Zs 5 s wtT (l.map wtV)::Hs) w:=by
   have e:([.int .u64 l[k].id,.int .u64 l[k].cls,.int .u64 l[k].many,.int .u64 l[k].time,.int .u64 ((ZmI l[k].sc:Nat):Int)]:List Value)=us.map λ n=>Value.int .u64 (n:Nat):=by
    subst hus;simp only [wtN,List.map_cons,List.map_nil,Int.toNat_of_nonneg h2.1,Int.toNat_of_nonneg h4.1,Int.toNat_of_nonneg (show 0<=l[k].id by omega),Int.toNat_of_nonneg (show 0<=l[k].many by omega)]
   rw [<-e];exact hw.cons λ _ h=>h.drop
  rw [<-hus] at hu;have hblen:=Zbo (l:=l.take k) (code:=wtB) (m:=45) λ w hw=>ZmK (hq.ok w (List.mem_of_mem_take hw)) (hq.fl w (List.mem_of_mem_take hw));rw [List.length_take] at hblen;have h0:=Zu (x:=(l.length:Int)) (by omega);obtain ⟨bs,hbs⟩:∃ bs,bs=Zl [(l.length:Int)]++((l.take k).map wtB).flatten:=⟨_,rfl⟩;have hbl:bs.length<=10000:=by rw [hbs,List.length_append];omega
  rw [<-hbs] at hw;refine ⟨λ t i w=>∃ j:Nat,i=j/\j<=5/\Sat R (Own t 5 (b8 (bs++ZiB (us.take j)))::pts b5 (.cells (us.map λ n=>Value.int .u64 (n:Nat)).toArray 141 (0,0))::wtC b2 l[k]::pts q (Zay s)::Zs 5 s wtT (l.map wtV)::Hs) w,
   λ _ i _=>5 - i.toNat,⟨0,rfl,by omega,?_⟩,?_⟩
  ·have hw:Sat R (Own t 5 (b8 bs)::pts b5 (.cells (us.map λ n=>Value.int .u64 (n:Nat)).toArray 141 (0,0))::wtC b2 l[k]::pts q (Zay s)::Zs 5 s wtT (l.map wtV)::Hs) w:=hw.arr
   simpa [ZiB] using hw
  clear hw;rintro _ t _ w ⟨j,rfl,hj,hw⟩;refine Br.d (λ hj5=>?_) (λ hj5=>?_)
  ·have hj2:j<us.length:=by omega
   have hul2:=ZlQ (l:=us.take j) λ x hx=>hu x (List.mem_of_mem_take hx);rw [List.length_take] at hul2;have huj:=hu _ (List.getElem_mem hj2);refine Rng.mk (by omega) (by omega) ⟨((us[j]:Nat):Int),?_,?_⟩
   ·have hjm:j<(us.map λ n=>Value.int .u64 (n:Nat)).length:=by rw [List.length_map];exact hj2
    have:=At.vals (b:=b5) (vs:=us.map λ n=>Value.int .u64 (n:Nat)) (eqS hw) hjm;rw [List.getElem_map] at this;exact this
   refine (ZbY huj hw).u1 λ t1 w hw=>?_;refine ⟨t1,rfl,?_⟩;have hnb:=Zbn huj;refine Zde ZqG (s:=t) (n:=1099511627790) underlying47 hw.swap (by rw [List.length_append];omega) (by omega) (by omega) λ s2 w hw=>?_;have hw:=hw.cons λ _ h=>h.drop;rw [Zf (x:=(j:Int) + 1)];refine ⟨⟨j + 1,by omega,by omega,?_⟩,by dsimp only;omega⟩;rw [Zi9 hj2,<-List.append_assoc];exact hw
  ·rw [List.take_of_length_le (by omega:us.length<=j),hus,<-ZAh,hbs,List.append_assoc,<-Zf6 hk2] at hw
   rw [Zf (x:=(k:Int) + 1)];exact ⟨⟨k + 1,by omega,by omega,hw.cons λ _ h=>h.drop.drop⟩,by dsimp only;omega⟩
 ·rw [List.take_of_length_le (by omega:l.length<=k)] at hw
  exact hK t w (hw.cons λ _ h=>Sat.qu.2 ⟨s,h⟩)
theorem nn3s {a b c:Int} (h0:0<=a) (h1:0<=b) (h2:0<=c):Zl ([a,b,c].map nn)=Zl [a]++(Zl [b]++Zl [c]):=by
 show Zl [nn a,nn b,nn c]=_;rw [Zcu h0,Zcu h1,Zcu h2,Zbm a,Zbm b]
theorem nn6s {a b c d e f:Int} (h0:0<=a) (h1:0<=b) (h2:0<=c) (h3:0<=d) (h4:0<=e) (h5:0<=f):Zl ([a,b,c,d,e,f].map nn)=Zl [a]++(Zl [b]++(Zl [c]++(Zl [d]++(Zl [e]++Zl [f])))):=by
 show Zl [nn a,nn b,nn c,nn d,nn e,nn f]=_;rw [Zcu h0,Zcu h1,Zcu h2,Zcu h3,Zcu h4,Zcu h5,Zbm a,Zbm b,Zbm c,Zbm d,Zbm e]
theorem ZkZ {p:Nat} {s:Sl} {d bs:List Int} {T:TypeId} (hl:bs.length + d.length<=1099511627776) (hd:d.length<=1099511627776) (hw:Sat R (Own s T (b8 d)::WrB p bs::Hs) w):
  Zm prog 63 #[nP p,.slice s.a s.len s.cap] w λ v w'=>v=.tuple #[]/\Sat R (WrB p (bs++ZaZ d)::Hs) w':=by
 obtain ⟨R1,e1,g1,hw⟩:=Own.leak hw;refine (ZiH hl hd (g1.ro) hw).mono ?_;rintro _ w ⟨rfl,hw⟩;exact ⟨rfl,e1.back hw⟩
theorem Zqn {p:Nat} {b:ZU} (k:Core b) (hw:Sat R (Zk p b::Hs) w):
  Zm prog 18 #[nP p] w λ v w'=>∃ t:Sl,v=.slice t.a t.len t.cap/\Sat R (Own t 5 (b8 (Zdi b))::Zk p b::Hs) w':=by
 apply ZBE
 suffices H:∀ K:nK,(∀ (t:Sl) w',Sat R (Own t 5 (b8 (Zdi b))::Zk p b::Hs) w'->K (.slice t.a t.len t.cap) w')->B18 (some ⟨p,0,none⟩) K w from H _ λ t w' h=>⟨t,rfl,h⟩
 intro K hK;have k1:=k.now;have k2:=k.next;have k3:=k.few;have k4:=k.many;have a1:=Zu (x:=b.now) (by omega);have a2:=Zu (x:=b.next) (by omega);have a3:=Zu (x:=(b.fl.length:Int)) (by omega);have a4:=Zu (x:=(b.L.length:Int)) (by omega);have a5:∀ j,(((b.fl.take j).map plB).flatten).length<=304000:=λ j=>by
  have:=Zbo (l:=b.fl.take j) (code:=plB) (m:=38000) λ p hp=>Zr4 (k.good p (List.mem_of_mem_take hp)) (k.qok p (List.mem_of_mem_take hp));rw [List.length_take] at this;omega
 have a6:∀ j,(((b.L.take j).map bkB).flatten).length<=16200:=λ j=>by
  have:=Zbo (l:=b.L.take j) (code:=bkB) (m:=54) λ x hx=>ZtI k2.2 (k.each x (List.mem_of_mem_take hx));rw [List.length_take] at this;omega
 obtain ⟨m1,m2,fs,xs,hl,hw⟩:=Sat.book.1 hw;have hfl:=ZsZ hl;have hbl:=ZoZ hl;refine Za hw λ pw w hw=>?_;have hw:Sat R (WrB pw []::pts p (Zh b m1 m2)::MapAt m1 (fs.map flV)::MapAt m2 (xs.map bkV)::Zi fs::Zj xs::Hs) w:=Sat.wrB.2 ⟨ZE,(Own.nil hw).swap⟩;have toS:∀ {A:List HP} {R:Cx} {w:World},Sat R (pts p (Zh b m1 m2)::MapAt m1 (fs.map flV)::A) w->Sat R [pts p (Zh b m1 m2),MapAt m1 (fs.map flV),VC.tru] w:=λ h=>h.cons λ _ h=>h.restTru2;refine ZC (Sat R [pts p (Zh b m1 m2),MapAt m1 (fs.map flV),VC.tru]) hw (λ w hw=>?_) λ w hw=>?_
 ·exact toS (hw.arr (Hs':=pts p (Zh b m1 m2)::MapAt m1 (fs.map flV)::WrB pw []::MapAt m2 (xs.map bkV)::Zi fs::Zj xs::Hs))
 refine Zc.mk rfl ⟨b.now,oS,Zc.mk rfl ⟨b.next,oS,Zc.mk rfl ⟨some m1,oS,((fs.map flV).length:Int),λ w' h=>MapAt.len (by kernel_rfl) h.swap,?_⟩⟩⟩;rw [List.length_map,hfl];refine Za hw λ b26 w hw=>⟨?_,?_⟩
 ·exact toS (hw.arr (Hs':=pts p (Zh b m1 m2)::MapAt m1 (fs.map flV)::pts b26 (.cells #[nI b.now,nI b.next,nI (b.fl.length:Int)] 3 (0,0))::WrB pw []::MapAt m2 (xs.map bkV)::Zi fs::Zj xs::Hs))
 refine (ZcD (xs:=[b.now,b.next,(b.fl.length:Int)]) rfl (by simp;omega) (by simp) hw).u λ w hw=>?_;refine ⟨rfl,?_,?_⟩
 ·exact toS (hw.arr (Hs':=pts p (Zh b m1 m2)::MapAt m1 (fs.map flV)::WrB pw ([]++Zl ([b.now,b.next,(b.fl.length:Int)].map nn))::MapAt m2 (xs.map bkV)::Zi fs::Zj xs::Hs))
 rw [nn3s (by omega) (by omega) (by omega),List.nil_append] at hw;obtain ⟨h0,hh0⟩:∃ h,h=Zl [b.now]++(Zl [b.next]++Zl [(b.fl.length:Int)]):=⟨_,rfl⟩;have hl0:h0.length<=27:=by rw [hh0];simp only [List.length_append];omega
 rw [<-hh0] at hw;have hw:Sat R (pts p (Zh b m1 m2)::MapAt m1 (fs.map flV)::WrB pw h0::MapAt m2 (xs.map bkV)::Zi fs::Zj xs::Hs) w:=hw.arr;refine Zc.mk rfl ⟨some m1,oA hw,?_⟩;refine ZiO k hl hw.swap ?_;clear hw;intro s w hw;have hsl:=Own.len hw;rw [List.length_map,List.length_map] at hsl;obtain ⟨MF,hMF⟩:∃ M,M=fs.map flV:=⟨_,rfl⟩;obtain ⟨MB,hMB⟩:∃ M,M=xs.map bkV:=⟨_,rfl⟩;obtain ⟨nums,hnums⟩:∃ n,n=b.fl.map Pl.n:=⟨_,rfl⟩;have hnl:nums.length=b.fl.length:=by rw [hnums,List.length_map]
 rw [<-hMF,<-hMB,<-hnums] at hw;have hw:Sat R (WrB pw h0::Own s 3 (Ze nums)::pts p (Zh b m1 m2)::MapAt m1 MF::MapAt m2 MB::Zi fs::Zj xs::Hs) w:=hw.arr;refine ⟨λ i w=>∃ j:Nat,i=j/\j<=b.fl.length/\Sat R (WrB pw (h0++((b.fl.take j).map plB).flatten)::Own s 3 (Ze nums)::pts p (Zh b m1 m2)::MapAt m1 MF::MapAt m2 MB::Zi fs::Zj xs::Hs) w,
  λ i _=>b.fl.length - i.toNat,⟨0,rfl,by omega,by simpa using hw⟩,?_⟩
 clear hw;rintro _ _ w ⟨j,rfl,hj,hw⟩;have hla:=a5 j;refine Br.d (λ h=>?_) (λ h=>?_)
 ·have hj2:j<b.fl.length:=by omega
  obtain ⟨pl,hpl⟩:∃ pl,pl=b.fl[j]:=⟨_,rfl⟩;have hmem:pl∈b.fl:=by rw [hpl];exact List.getElem_mem _
  have hat:b.at pl.n=some pl:=(Zip k).2 ⟨hmem,rfl⟩;have hnj:nums[j]'(by omega)=pl.n:=by subst hnums;rw [List.getElem_map,hpl]
  have hg:=k.good pl hmem;have hq:=k.qok pl hmem;have e1:=Zez hg;have e2:=ZlL hq;have hw2:Sat R (Own s 3 (Ze nums)::WrB pw (h0++((b.fl.take j).map plB).flatten)::pts p (Zh b m1 m2)::MapAt m1 MF::MapAt m2 MB::Zi fs::Zj xs::Hs) w:=hw.swap;refine Own.ix hw2 (eqS hw2) j rfl (by omega) ?_;rw [hnj];refine Zc.mk rfl ⟨some m1,oA hw,?_⟩;obtain ⟨A,f,q,C,hfs,hm⟩:=ZdS hl k.nums hat;have hgm:ZO pl.n MF=some (.agg #[nP f,nP q]):=by rw [hMF,hfs];exact Zjo hm
  refine ⟨some ⟨f,0,none⟩,some ⟨q,0,none⟩,λ w' e=>?_,?_⟩
  ·rw [show w'=w from e]
   have hm1:Sat R (MapAt m1 MF::WrB pw (h0++((b.fl.take j).map plB).flatten)::Own s 3 (Ze nums)::pts p (Zh b m1 m2)::MapAt m2 MB::Zi fs::Zj xs::Hs) w:=hw.arr;have:=MapAt.look Zv5 hm1 pl.n false;rw [hgm] at this;exact this
  clear hw2;refine Za hw λ b6 w hw=>?_;refine sRu hw λ w hw=>?_;have hw:=hw.re (fqC b6 f q);rw [hfs] at hw;have hw:Sat R (Zi (A++(f,q,pl)::C)::fqC b6 f q::WrB pw (h0++((b.fl.take j).map plB).flatten)::Own s 3 (Ze nums)::pts p (Zh b m1 m2)::MapAt m1 MF::MapAt m2 MB::Zj xs::Hs) w:=hw.arr;have hw:=ZbL.1 hw;refine ⟨some ⟨f,0,none⟩,oA hw,?_⟩;refine (Zne hw).u1 λ t1 w hw=>?_;refine ⟨t1,rfl,?_⟩;have hw:Sat R (Own t1 5 (b8 (ZbP pl.r))::WrB pw (h0++((b.fl.take j).map plB).flatten)::ZR q pl.q::Zg f pl.r::Zi (A++C)::fqC b6 f q::Own s 3 (Ze nums)::pts p (Zh b m1 m2)::MapAt m1 MF::MapAt m2 MB::Zj xs::Hs) w:=hw.arr;refine (ZkZ (by rw [List.length_append];omega) (by omega) hw).u λ w hw=>?_;refine ⟨rfl,some ⟨q,0,none⟩,oA hw,?_⟩;refine (ZrP hq hw.swap).u1 λ t2 w hw=>?_;refine ⟨t2,rfl,?_⟩;have e3:=ZaT (d:=ZbP pl.r) (by omega);have hw:Sat R (Own t2 5 (b8 (qB pl.q))::WrB pw (h0++((b.fl.take j).map plB).flatten++ZaZ (ZbP pl.r))::ZR q pl.q::Zg f pl.r::Zi (A++C)::fqC b6 f q::Own s 3 (Ze nums)::pts p (Zh b m1 m2)::MapAt m1 MF::MapAt m2 MB::Zj xs::Hs) w:=hw.arr;refine (ZkZ (by simp only [List.length_append];omega) (by omega) hw).u λ w hw=>?_;rw [Zf (x:=(j:Int) + 1)];refine ⟨rfl,⟨j + 1,by omega,by omega,?_⟩,by dsimp only;omega⟩;have ebs:h0++((b.fl.take j).map plB).flatten++ZaZ (ZbP pl.r)++ZaZ (qB pl.q)=h0++((b.fl.take (j + 1)).map plB).flatten:=by
   rw [Zf6 hj2,<-hpl];unfold plB;simp only [List.append_assoc]
  rw [ebs] at hw;have hw:Sat R (Zg f pl.r::ZR q pl.q::Zi (A++C)::WrB pw (h0++((b.fl.take (j + 1)).map plB).flatten)::fqC b6 f q::Own s 3 (Ze nums)::pts p (Zh b m1 m2)::MapAt m1 MF::MapAt m2 MB::Zj xs::Hs) w:=hw.arr;have hw:=ZbL.2 hw;rw [<-hfs] at hw;have hw:Sat R (fqC b6 f q::WrB pw (h0++((b.fl.take (j + 1)).map plB).flatten)::Own s 3 (Ze nums)::pts p (Zh b m1 m2)::MapAt m1 MF::MapAt m2 MB::Zi fs::Zj xs::Hs) w:=hw.arr;exact hw.drop
 ·have hjf:j=b.fl.length:=by omega
  rw [hjf,List.take_length] at hw;have a50:=a5 b.fl.length;rw [List.take_length] at a50;refine Zc.mk rfl ⟨some m2,oA hw,(MB.length:Int),λ w' e=>?_,?_⟩
  ·rw [show w'=w from e]
   have hm2:Sat R (MapAt m2 MB::WrB pw (h0++(b.fl.map plB).flatten)::Own s 3 (Ze nums)::pts p (Zh b m1 m2)::MapAt m1 MF::Zi fs::Zj xs::Hs) w:=hw.arr;exact MapAt.len (by kernel_rfl) hm2
  rw [show MB.length=b.L.length by rw [hMB,List.length_map,hbl]];refine Za hw λ b62 w hw=>?_;refine (ZcD (xs:=[(b.L.length:Int)]) rfl (by simp;omega) (by simp only [List.length_append,List.length_cons,List.length_nil];omega) hw).u λ w hw=>?_;rw [nn1 (by omega)] at hw;obtain ⟨h1,hh1⟩:∃ h,h=h0++(b.fl.map plB).flatten++Zl [(b.L.length:Int)]:=⟨_,rfl⟩;have hl1:h1.length<=305000:=by rw [hh1];simp only [List.length_append];omega
  rw [<-hh1] at hw;refine ⟨rfl,Zc.mk rfl ⟨some m2,oA hw,?_⟩⟩;have hw:Sat R (MapAt m2 MB::WrB pw h1::pts p (Zh b m1 m2)::MapAt m1 MF::Zi fs::Zj xs::Own s 3 (Ze nums)::Hs) w:=hw.arr;rw [hMB] at hw;refine ZiP k hl hw ?_;clear hw;intro s2 w hw;have hsl2:=Own.len hw;rw [List.length_map,List.length_map] at hsl2;obtain ⟨ids,hids⟩:∃ n,n=b.L.map Bk.id:=⟨_,rfl⟩;have hil:ids.length=b.L.length:=by rw [hids,List.length_map]
  rw [<-hMB,<-hids] at hw;have hw:Sat R (WrB pw h1::Own s2 3 (Ze ids)::pts p (Zh b m1 m2)::MapAt m1 MF::MapAt m2 MB::Zi fs::Zj xs::Hs) w:=by
   have h:Sat R (Own s 3 (Ze nums)::WrB pw h1::Own s2 3 (Ze ids)::pts p (Zh b m1 m2)::MapAt m1 MF::MapAt m2 MB::Zi fs::Zj xs::Hs) w:=hw.arr;exact h.drop
  refine ⟨λ i w=>∃ j:Nat,i=j/\j<=b.L.length/\Sat R (WrB pw (h1++((b.L.take j).map bkB).flatten)::Own s2 3 (Ze ids)::pts p (Zh b m1 m2)::MapAt m1 MF::MapAt m2 MB::Zi fs::Zj xs::Hs) w,
   λ i _=>b.L.length - i.toNat,⟨0,rfl,by omega,by simpa using hw⟩,?_⟩
  clear hw;rintro _ _ w ⟨j,rfl,hj,hw⟩;have hlb:=a6 j;refine Br.d (λ h=>?_) (λ h=>?_)
  ·have hj2:j<b.L.length:=by omega
   obtain ⟨x,hx⟩:∃ x,x=b.L[j]:=⟨_,rfl⟩;have hmem:x∈b.L:=by rw [hx];exact List.getElem_mem _
   have hnj:ids[j]'(by omega)=x.id:=by subst hids;rw [List.getElem_map,hx]
   obtain ⟨A,a,C,hxs,hm⟩:=Zge hl k.ids hmem;have hgm:ZO x.id MB=some (nP a):=by rw [hMB,hxs];exact Zmy hm
   have ke:=k.each x hmem;have x1:=ke.id;have x2:=ke.flt;have x3:=ke.cls;have x4:=ke.many;have x5:=ke.state;have x6:=ke.till;have hw2:Sat R (Own s2 3 (Ze ids)::WrB pw (h1++((b.L.take j).map bkB).flatten)::pts p (Zh b m1 m2)::MapAt m1 MF::MapAt m2 MB::Zi fs::Zj xs::Hs) w:=hw.swap;refine Own.ix hw2 (eqS hw2) j rfl (by omega) ?_;rw [hnj];refine Zc.mk rfl ⟨some m2,oA hw,?_⟩;refine ⟨some ⟨a,0,none⟩,λ w' e=>?_,?_⟩
   ·rw [show w'=w from e]
    have hm1:Sat R (MapAt m2 MB::WrB pw (h1++((b.L.take j).map bkB).flatten)::Own s2 3 (Ze ids)::pts p (Zh b m1 m2)::MapAt m1 MF::Zi fs::Zj xs::Hs) w:=hw.arr;have:=MapAt.look Zwx hm1 x.id false;rw [hgm] at this;exact this
   clear hw2;rw [hxs] at hw;have hw:Sat R (Zj (A++(a,x)::C)::WrB pw (h1++((b.L.take j).map bkB).flatten)::Own s2 3 (Ze ids)::pts p (Zh b m1 m2)::MapAt m1 MF::MapAt m2 MB::Zi fs::Hs) w:=hw.arr;have hw:=ZcX.1 hw;have toS2:∀ {A:List HP} {R:Cx} {w:World},Sat R (pts a (ZA x)::A) w->Sat R [pts a (ZA x),VC.tru] w:=λ h=>h.restTru2;refine ZC (Sat R [pts a (ZA x),VC.tru]) hw (λ w hw=>toS2 hw) λ w hw=>?_;refine Zc.mk rfl ⟨x.flt,oS,Zc.mk rfl ⟨x.cls,oS,Zc.mk rfl ⟨x.many,oS,Zc.mk rfl ⟨x.state,oS,Zc.mk rfl ⟨x.till,oS,?_⟩⟩⟩⟩⟩;have hw:Sat R (WrB pw (h1++((b.L.take j).map bkB).flatten)::pts a (ZA x)::Zj (A++C)::Own s2 3 (Ze ids)::pts p (Zh b m1 m2)::MapAt m1 MF::MapAt m2 MB::Zi fs::Hs) w:=hw.arr;refine Za hw λ b103 w hw=>?_;refine (ZcD (xs:=[x.id,x.flt,x.cls,x.many,x.state,x.till]) rfl (by simp;omega) (by simp only [List.length_append,List.length_cons,List.length_nil];omega) hw).u λ w hw=>?_;rw [nn6s (by omega) (by omega) (by omega) (by omega) (by omega) (by omega)] at hw;have ebs:h1++((b.L.take j).map bkB).flatten++(Zl [x.id]++(Zl [x.flt]++(Zl [x.cls]++(Zl [x.many]++(Zl [x.state]++Zl [x.till])))))=h1++((b.L.take (j + 1)).map bkB).flatten:=by
    rw [Zf6 hj2,<-hx,List.append_assoc];rfl
   rw [ebs] at hw;rw [Zf (x:=(j:Int) + 1)];have hw:Sat R (pts a (ZA x)::Zj (A++C)::WrB pw (h1++((b.L.take (j + 1)).map bkB).flatten)::Own s2 3 (Ze ids)::pts p (Zh b m1 m2)::MapAt m1 MF::MapAt m2 MB::Zi fs::Hs) w:=hw.arr;refine ⟨rfl,toS2 hw,⟨j + 1,by omega,by omega,?_⟩,by dsimp only;omega⟩;have hw:=ZcX.2 hw;rw [<-hxs] at hw;exact hw.arr
  ·have hjf:j=b.L.length:=by omega
   rw [hjf,List.take_length] at hw;obtain ⟨t,hw⟩:=Sat.wrB.1 hw;refine ⟨t,oA hw,hK t w ?_⟩;have e:h1++(b.L.map bkB).flatten=Zdi b:=by
    rw [hh1,hh0];unfold Zdi;simp only [List.append_assoc]
   rw [e] at hw;rw [hMF,hMB] at hw;have hw:=hw.drop;refine hw.cons λ _ h=>Sat.book.2 ⟨m1,m2,fs,xs,hl,h.drop⟩
def ZmD (t:Tb):Prop:=(t.cl.map Cl.id).Pairwise λ a b=>a<b
theorem ZmD.apply {t:Tb} (k:Zjz t) (h:ZmD t) (bs:List Int):ZmD (t.applyT bs).2:=by
 unfold Tb.applyT;split
 ·exact h
 ·unfold Tb.askT
  split
  ·exact h
  ·split
   ·unfold Tb.beginT
    split
    ·exact h
    ·split
     ·exact h
     ·show ((t.cl++[_]).map Cl.id).Pairwise _
      rw [List.map_append,List.pairwise_append];refine ⟨h,by simp,λ x hx y hy=>?_⟩;obtain ⟨c,hc,rfl⟩:=List.mem_map.1 hx;have:=(k.each c hc).id.2;simp only [List.map_cons,List.map_nil,List.mem_singleton] at hy;omega
   ·split
    ·split
     ·exact h
     ·exact h
    ·split
     ·exact List.Pairwise.sublist (List.filter_sublist.map Cl.id) h
     ·unfold Tb.doT
      split
      ·exact h
      ·split
       ·exact h
       ·split
        ·show ((Zfv _ t.cl).map Cl.id).Pairwise _
         rw [Zmu];exact h
        ·exact h
structure TbC (t:Tb):Prop where
 nx:1<=t.next
 each:∀ c∈t.cl,ZAf t.next c
 ids:(t.cl.map Cl.id).Nodup
 few:t.cl.length<=64
 core:Core t.bk
theorem Zjz.c {t:Tb} (k:Zjz t):TbC t:=⟨k.nx,k.each,k.ids,k.few,k.bk.core⟩
def clB (c:Cl):List Int:=Zl ([c.id,c.tok,c.last].map nn)++ZaZ c.rep
def Zcs (t:Tb):List Int:=Zl ([t.next,(t.cl.length:Int)].map nn)++(t.cl.map clB).flatten++ZaZ (Zdi t.bk)
theorem nnl {l:List Int} (h:∀ x∈l,x<9223372036854775808):(Zl (l.map nn)).length<=9 * l.length:=by
 have:=ZW (l:=l.map nn) λ y hy=>by
  obtain ⟨x,hx,rfl⟩:=List.mem_map.1 hy;have:=ZpO (h x hx);omega
 rwa [List.length_map] at this
theorem Zts {n:Int} {c:Cl} (h:ZAf n c) (hn:n<=1099511627776):(clB c).length<=66000:=by
 have h1:=h.id;have h2:=h.tok;have h3:=h.last;have h4:=h.rep;have l1:=nnl (l:=[c.id,c.tok,c.last]) λ x hx=>by
  simp only [List.mem_cons,List.not_mem_nil,or_false] at hx;rcases hx with rfl|rfl|rfl<;>omega
 have l2:=ZaT (d:=c.rep) (by omega);simp only [List.length_cons,List.length_nil] at l1;unfold clB;rw [List.length_append];omega
theorem Zs3 {α:Type} {l:List α} {f:α->Int} (h:(l.map f).Nodup) {c:α} (hc:c∈l):l.find? (λ d=>f d==f c)=some c:=by
 induction l with
 |nil=>cases hc
 |cons x l ih=>
  rw [List.map_cons,List.nodup_cons] at h;rw [List.find?_cons];rcases List.mem_cons.1 hc with h1|h1
  ·subst h1
   simp
  ·have:f x≠f c:=λ e=>h.1 (List.mem_map.2 ⟨c,h1,e.symm⟩)
   rw [show (f x==f c)=false by simpa using this];exact ih h.2 h1
theorem Zpi {m:Nat} {t:Tb} {E:List SE} {K:Sl->World->Prop} (k:TbC t) (hr:ZmD t) (hn:t.next<=1099511627776) (hE:E.map Prod.snd=t.cl) (hw:Sat R (MapAt m (E.map Zbd)::Hs) w)
  (kk:∀ s w',Sat R (Own s 3 (Ze (t.cl.map Cl.id))::MapAt m (E.map Zbd)::Hs) w'->K s w'):
  nC 82 #[.map (some m)] w λ e w1=>∃ t:Value,e=.returned t/\nC 61 #[t] w1 λ e w2=>∃ t:Sl,e=.returned (.slice t.a t.len t.cap)/\K t w2:=by
 have hk:(E.map Zbd).map (·.1)=t.cl.map Cl.id:=by
  rw [<-hE,List.map_map,List.map_map];rfl
 obtain ⟨l,c,hs,hst,hp⟩:=MapAt.iff.1 hw;obtain ⟨D0,hown,hsz,hperm⟩:=Zl6 hs hst (by rw [hk];exact k.ids) (λ i hi=>by
  rw [hk] at hi;obtain ⟨x,hx,rfl⟩:=List.mem_map.1 hi;have:=(k.each x hx).id;omega) (by have:=k.few;rw [<-hE,List.length_map] at this;rw [List.length_map];omega) hp.at
 refine (callsIn_wide.1 (Tryz.maps_Keys_82 (some m) w)).mono ?_;rintro _ _ ⟨rfl,rfl⟩;refine ⟨_,rfl,?_⟩;refine (callsIn_wide.1 (Tryz.slices_Sorted_keys_61_82 m _ D0 _ w hown (by unfold maxLen;omega) (by omega))).mono ?_;rintro _ w' ⟨v,ss,rfl,hS,hrow,hnil,hb⟩;have hw1:Sat R (MapAt m (E.map Zbd)::Hs) (w.alloc (.cells #[.map (some m)] 126)):=(Sat.alloc _ hw).drop;obtain ⟨s,rfl,h3⟩:=Sat.ownsRow hw1 hb hrow;refine ⟨s,rfl,kk s _ ?_⟩;have e:=ZjM (List.Perm.of_eq hk) hr;rw [<-Zds (hperm ss hS)] at e;rw [<-e];exact h3
theorem Zx0 {j:Nat} {l:List Cl} (h:j<l.length):((l.take (j + 1)).map clB).flatten=((l.take j).map clB).flatten++clB l[j]:=by
 rw [List.take_add_one,List.getElem?_eq_getElem h,List.map_append,List.flatten_append];simp
theorem ZhD {t:Tb} (k:TbC t) (hn:t.next<=1099511627776):(Zcs t).length<=5000000:=by
 have knx:=k.nx;have kfew:=k.few;have a5:=Zbo (l:=t.cl) (code:=clB) (m:=66000) λ c hc=>Zts (k.each c hc) hn;have h2:=Nat.mul_le_mul_left 66000 kfew;have l1:=nnl (l:=[t.next,(t.cl.length:Int)]) λ x hx=>by
  simp only [List.mem_cons,List.not_mem_nil,or_false] at hx;rcases hx with rfl|rfl<;>omega
 have h3:=ZfF k.core;have l5:=ZaT (d:=Zdi t.bk) (by omega);simp only [List.length_cons,List.length_nil] at l1;unfold Zcs;simp only [List.length_append];omega
theorem Zdr {p:Nat} {t:Tb} (k:TbC t) (hr:ZmD t) (hn:t.next<=1099511627776) (hw:Sat R (Zdf p t::Hs) w):
  Zm prog 26 #[nP p] w λ v w'=>∃ s:Sl,v=.slice s.a s.len s.cap/\Sat R (Own s 5 (b8 (Zcs t))::Zdf p t::Hs) w':=by
 apply ZBx
 suffices H:∀ K:nK,(∀ (s:Sl) w',Sat R (Own s 5 (b8 (Zcs t))::Zdf p t::Hs) w'->K (.slice s.a s.len s.cap) w')->B26 (some ⟨p,0,none⟩) K w from H _ λ t w' h=>⟨t,rfl,h⟩
 intro K hK;have knx:=k.nx;have kfew:=k.few;obtain ⟨m,bk,E,hE,hw⟩:=Sat.tb.1 hw;have hlE:E.length=t.cl.length:=by rw [<-hE,List.length_map]
 have hnE:(E.map λ e:SE=>e.2.id).Nodup:=by
  have:=k.ids;rw [<-hE,List.map_map] at this;exact this
 have a5:∀ j,(((t.cl.take j).map clB).flatten).length<=66000 * 64:=λ j=>by
  have:=Zbo (l:=t.cl.take j) (code:=clB) (m:=66000) λ c hc=>Zts (k.each c (List.mem_of_mem_take hc)) hn;rw [List.length_take] at this;have h2:min j t.cl.length<=64:=by omega
  have:=Nat.mul_le_mul_left 66000 h2;omega
 have hw:Sat R (pts p (ZbO bk t.next m)::MapAt m (E.map Zbd)::Zah (E.map ZL)::Zk bk t.bk::Hs) w:=hw;have toS:∀ {A:List HP} {R:Cx} {w:World},Sat R (pts p (ZbO bk t.next m)::MapAt m (E.map Zbd)::A) w->Sat R [pts p (ZbO bk t.next m),MapAt m (E.map Zbd),VC.tru] w:=λ h=>h.cons λ _ h=>h.restTru2;refine ZC (Sat R [pts p (ZbO bk t.next m),MapAt m (E.map Zbd),VC.tru]) hw (λ w hw=>toS hw) λ w hw=>?_;refine Zc.mk rfl ⟨t.next,oS,Zc.mk rfl ⟨some m,oS,((E.map Zbd).length:Int),λ w' h=>MapAt.len (by kernel_rfl) h.swap,?_⟩⟩;rw [List.length_map,hlE];refine Za hw λ b16 w hw=>⟨?_,?_⟩
 ·exact toS hw.drop
 refine (Zhz (xs:=[t.next,(t.cl.length:Int)]) rfl (λ x hx=>by
  simp only [List.mem_cons,List.not_mem_nil,or_false] at hx;rcases hx with rfl|rfl<;>omega) (by simp) hw).u1 λ s1 w hw=>?_
 refine ⟨s1,rfl,toS hw.drop,?_⟩;obtain ⟨h0,hh0⟩:∃ h,h=Zl ([t.next,(t.cl.length:Int)].map nn):=⟨_,rfl⟩;have hl0:h0.length<=18:=by
  rw [hh0];exact nnl (l:=[t.next,(t.cl.length:Int)]) λ x hx=>by
   simp only [List.mem_cons,List.not_mem_nil,or_false] at hx;rcases hx with rfl|rfl<;>omega
 have hsv:Zcs t=h0++(t.cl.map clB).flatten++ZaZ (Zdi t.bk):=by rw [hh0];rfl
 rw [<-hh0] at hw;refine Zc.mk rfl ⟨some m,oA hw,?_⟩;have hw:Sat R (MapAt m (E.map Zbd)::Own s1 5 (b8 h0)::pts p (ZbO bk t.next m)::Zah (E.map ZL)::Zk bk t.bk::Hs) w:=hw.arr;refine Zpi k hr hn hE hw ?_;clear hw;intro s w hw;obtain ⟨MC,hMC⟩:∃ M,M=E.map Zbd:=⟨_,rfl⟩;obtain ⟨nums,hnums⟩:∃ n,n=t.cl.map Cl.id:=⟨_,rfl⟩;have hnl:nums.length=t.cl.length:=by rw [hnums,List.length_map]
 rw [<-hMC,<-hnums] at hw;have hsl:=Own.len hw;rw [List.length_map] at hsl;have hw:Sat R (Own s1 5 (b8 h0)::Own s 3 (Ze nums)::pts p (ZbO bk t.next m)::MapAt m MC::Zah (E.map ZL)::Zk bk t.bk::Hs) w:=hw.arr;refine ⟨λ o i w=>∃ j:Nat,i=j/\j<=t.cl.length/\Sat R (Own o 5 (b8 (h0++((t.cl.take j).map clB).flatten))::Own s 3 (Ze nums)::pts p (ZbO bk t.next m)::MapAt m MC::Zah (E.map ZL)::Zk bk t.bk::Hs) w,
  λ _ i _=>t.cl.length - i.toNat,⟨0,rfl,by omega,by simpa using hw⟩,?_⟩
 clear hw;rintro _ o _ w ⟨j,rfl,hj,hw⟩;have hla:=a5 j;refine Br.d (λ h=>?_) (λ h=>?_)
 ·have hj2:j<t.cl.length:=by omega
  have hjE:j<E.length:=by omega
  obtain ⟨e,he⟩:∃ e,e=E[j]:=⟨_,rfl⟩;have hec:t.cl[j]=e.2:=by
   rw [he];have:t.cl[j]? =(E.map Prod.snd)[j]?:=by rw [hE]
   rw [List.getElem?_eq_getElem hj2,List.getElem?_eq_getElem (by rw [List.length_map];omega),List.getElem_map] at this;exact Option.some.inj this
  have hem:e∈E:=by rw [he];exact List.getElem_mem _
  have hcm:e.2∈t.cl:=by rw [<-hec];exact List.getElem_mem _
  have hnj:nums[j]'(by omega)=e.2.id:=by subst hnums;rw [List.getElem_map,hec]
  have hck:=k.each _ hcm;have c1:=hck.id;have c2:=hck.tok;have c3:=hck.last;have c4:=hck.rep;obtain ⟨A,C,hAC⟩:=List.append_of_mem hem;have hgm:ZO e.2.id MC=some (.pointer (some ⟨e.1,0,none⟩)):=by
   rw [hMC,Ztp,Zs3 (f:=λ e:SE=>e.2.id) hnE hem];rfl
  have hw2:Sat R (Own s 3 (Ze nums)::Own o 5 (b8 (h0++((t.cl.take j).map clB).flatten))::pts p (ZbO bk t.next m)::MapAt m MC::Zah (E.map ZL)::Zk bk t.bk::Hs) w:=hw.swap;refine Own.ix hw2 (eqS hw2) j rfl (by omega) ?_;rw [hnj];refine Zc.mk rfl ⟨some m,oA hw,some ⟨e.1,0,none⟩,λ w' e2=>?_,?_⟩
  ·rw [show w'=w from e2]
   have hm1:Sat R (MapAt m MC::Own s 3 (Ze nums)::Own o 5 (b8 (h0++((t.cl.take j).map clB).flatten))::pts p (ZbO bk t.next m)::Zah (E.map ZL)::Zk bk t.bk::Hs) w:=hw.arr;have:=MapAt.look ZBJ hm1 e.2.id false;rw [hgm] at this;exact this
  clear hw2;obtain ⟨sr,hw⟩:∃ sr:Sl,Sat R (pts e.1 (Z5 e.2 sr)::Own sr 5 (b8 e.2.rep)::Zah (A.map ZL++C.map ZL)::Own o 5 (b8 (h0++((t.cl.take j).map clB).flatten))::Own s 3 (Ze nums)::pts p (ZbO bk t.next m)::MapAt m MC::Zk bk t.bk::Hs) w:=by
   have h3:Sat R (Zah (E.map ZL)::Own o 5 (b8 (h0++((t.cl.take j).map clB).flatten))::Own s 3 (Ze nums)::pts p (ZbO bk t.next m)::MapAt m MC::Zk bk t.bk::Hs) w:=hw.arr;rw [hAC] at h3;exact Zeo.1 h3
  refine ZC (Sat R [pts e.1 (Z5 e.2 sr),VC.tru]) hw (λ w hw=>hw.restTru2) λ w hw=>?_;refine Zc.mk rfl ⟨e.2.tok,by rw [Zy];exact oS,Zc.mk rfl ⟨e.2.last,oS,?_⟩⟩;refine Za hw λ b45 w hw=>?_;have hb3:∀ x∈[e.2.id,e.2.tok,e.2.last],x<9223372036854775808:=λ x hx=>by
   simp only [List.mem_cons,List.not_mem_nil,or_false] at hx;rcases hx with rfl|rfl|rfl<;>omega
  refine (Zhz (xs:=[e.2.id,e.2.tok,e.2.last]) rfl hb3 (by simp) hw).u1 λ s2 w hw=>?_;refine ⟨s2,rfl,hw.drop.restTru2,?_⟩;have l3:=nnl hb3;simp only [List.length_cons,List.length_nil] at l3;have hw:Sat R (Own s2 5 (b8 (Zl ([e.2.id,e.2.tok,e.2.last].map nn)))::Own o 5 (b8 (h0++((t.cl.take j).map clB).flatten))::pts e.1 (Z5 e.2 sr)::Own sr 5 (b8 e.2.rep)::Zah (A.map ZL++C.map ZL)::Own s 3 (Ze nums)::pts p (ZbO bk t.next m)::MapAt m MC::Zk bk t.bk::Hs) w:=hw.arr;refine ZBL (by rw [List.length_append];omega) hw λ o2 w hw=>?_;have hw:Sat R (pts e.1 (Z5 e.2 sr)::Own sr 5 (b8 e.2.rep)::Own o2 5 (b8 (h0++((t.cl.take j).map clB).flatten++Zl ([e.2.id,e.2.tok,e.2.last].map nn)))::Zah (A.map ZL++C.map ZL)::Own s 3 (Ze nums)::pts p (ZbO bk t.next m)::MapAt m MC::Zk bk t.bk::Hs) w:=hw.arr;refine ⟨hw.restTru2,Zc.mk rfl ⟨sr,oA hw,?_⟩⟩;obtain ⟨R2,r2,_,hw,back⟩:=Own.lend hw.swap (by rw [List.length_map];omega);refine (ZeK r2 (by omega) hw).u1 λ s3 w hw=>?_;have hw:=back hw;have l4:=ZaT (d:=e.2.rep) (by omega);refine ⟨s3,rfl,?_⟩;have hw:Sat R (Own s3 5 (b8 (ZaZ e.2.rep))::Own o2 5 (b8 (h0++((t.cl.take j).map clB).flatten++Zl ([e.2.id,e.2.tok,e.2.last].map nn)))::pts e.1 (Z5 e.2 sr)::Own sr 5 (b8 e.2.rep)::Zah (A.map ZL++C.map ZL)::Own s 3 (Ze nums)::pts p (ZbO bk t.next m)::MapAt m MC::Zk bk t.bk::Hs) w:=hw.arr;refine ZBL (by simp only [List.length_append];omega) hw λ o3 w hw=>?_;rw [Zf (x:=(j:Int) + 1)];refine ⟨⟨j + 1,by omega,by omega,?_⟩,by dsimp only;omega⟩;have ebs:h0++((t.cl.take j).map clB).flatten++Zl ([e.2.id,e.2.tok,e.2.last].map nn)++ZaZ e.2.rep=h0++((t.cl.take (j + 1)).map clB).flatten:=by
   rw [Zx0 hj2,hec];unfold clB;simp only [List.append_assoc]
  rw [ebs] at hw;have hw:Sat R (pts e.1 (Z5 e.2 sr)::Own sr 5 (b8 e.2.rep)::Zah (A.map ZL++C.map ZL)::Own o3 5 (b8 (h0++((t.cl.take (j + 1)).map clB).flatten))::Own s 3 (Ze nums)::pts p (ZbO bk t.next m)::MapAt m MC::Zk bk t.bk::Hs) w:=hw.arr;have hw:=Zeo.2 ⟨sr,hw⟩;rw [<-hAC] at hw;exact hw.arr
 ·refine Zc.mk rfl ⟨some ⟨bk,0,none⟩,by rw [Zy];exact oA hw,?_⟩
  have hw:Sat R (Zk bk t.bk::Own o 5 (b8 (h0++((t.cl.take j).map clB).flatten))::Own s 3 (Ze nums)::pts p (ZbO bk t.next m)::MapAt m MC::Zah (E.map ZL)::Hs) w:=hw.arr;refine (Zqn k.core hw).u1 λ s4 w hw=>?_;have hsl4:=ZfF k.core;refine ⟨s4,rfl,?_⟩;obtain ⟨R2,r2,_,hw,back⟩:=Own.lend hw (by rw [List.length_map];omega);refine (ZeK r2 (by omega) hw).u1 λ s5 w hw=>?_;have hw:=(back hw).drop;have l5:=ZaT (d:=Zdi t.bk) (by omega);refine ⟨s5,rfl,?_⟩;have hw:Sat R (Own s5 5 (b8 (ZaZ (Zdi t.bk)))::Own o 5 (b8 (h0++((t.cl.take j).map clB).flatten))::Own s 3 (Ze nums)::pts p (ZbO bk t.next m)::MapAt m MC::Zah (E.map ZL)::Zk bk t.bk::Hs) w:=hw.arr;refine ZBL (by rw [List.length_append];omega) hw λ o2 w hw=>?_;rw [List.take_of_length_le (by omega),<-hsv] at hw;rw [hMC] at hw;refine hK _ _ (hw.cons λ _ h=>Sat.tb.2 ⟨m,bk,E,hE,?_⟩);have h:=h.drop;exact h
end
end Go.Proofs.YtlplemdmegpoeaaGreatDoor


namespace Go.Proofs.YtlplemdmegpoeaaGreatDoor
section
open Go Go.VC Tryz
open Classical
variable {R:Cx} {Hs Rest:List HP} {w:World}
theorem ZkI {t:Sl} {bs:List Int} {T:TypeId} (hl:bs.length<=9223372036854775807) (hw:Sat R Hs w) [tk:ZqI (Own t T (b8 bs)) Hs Rest]:∀ w',(λ w'=>w'=w) w'->(convert 47 9 (.slice t.a t.len t.cap)).run prog w'=.ok (.string (VC.strOf bs)) w':=λ w' e=>by
 rw [show w'=w from e]
 obtain ⟨_,q1,_,hw1,_⟩:=Own.lend (hw.perm tk.perm) (by rw [List.length_map];exact hl);exact Zdc underlying47 underlying5 underlying9 hw1 q1
theorem Zgs {α:Type} (one:Rd->α × Rd) (m:Nat):∀ (k:Nat) (r:Rd),(ZG one (k + m) r).1=(ZG one k r).1++(ZG one m (ZG one k r).2).1
 |0,r=>by rw [Nat.zero_add];rfl
 |k + 1,r=>by
  rw [show k + 1 + m=(k + m) + 1 by omega,Za3,Za3];dsimp only;rw [Zgs one m k];rfl
end
end Go.Proofs.YtlplemdmegpoeaaGreatDoor

namespace Go.Proofs.YtlplemdmegpoeaaGreatDoor
section
open Go Go.VC Tryz
open Classical
theorem ZuF (rd:Rd):Zdw 0 rd=some ([],rd):=rfl
theorem ZuG {m:Nat} {rd:Rd} {p:Pl} (h:(ZfO rd).1=some p):Zdw (m + 1) rd=(Zdw m (ZfO rd).2).map λ y=>(p::y.1,y.2):=by
 show (match (ZfO rd).1 with|none=>none|some p=>(Zdw m (ZfO rd).2).map λ x:List Pl × Rd=>(p::x.1,x.2))=_
 rw [h]
theorem ZuH {m:Nat} {rd:Rd} (h:(ZfO rd).1=none):Zdw (m + 1) rd=none:=by
 show (match (ZfO rd).1 with|none=>none|some p=>(Zdw m (ZfO rd).2).map λ x:List Pl × Rd=>(p::x.1,x.2))=_
 rw [h]
def Zt9 (n:Nat) (r0:Rd) (j:Nat) (rd:Rd) (pls:List Pl):Prop:=Zdw n r0=(Zdw (n - j) rd).map λ y=>(pls++y.1,y.2)
theorem Zr0 {n:Nat} {r0:Rd}:Zt9 n r0 0 r0 []:=by
 unfold Zt9;rw [Nat.sub_zero];cases Zdw n r0<;>rfl
theorem Zr1 {n j:Nat} {r0 rd:Rd} {pls:List Pl} {p:Pl} (h:Zt9 n r0 j rd pls) (hj:j<n) (hp:(ZfO rd).1=some p):Zt9 n r0 (j + 1) (ZfO rd).2 (pls++[p]):=by
 unfold Zt9 at h ⊢;rw [h,show n - j=(n - (j + 1)) + 1 by omega,ZuG hp];cases Zdw (n - (j + 1)) (ZfO rd).2 with
 |none=>rfl
 |some y=>simp
theorem Zr2 {n j:Nat} {r0 rd:Rd} {pls:List Pl} (h:Zt9 n r0 j rd pls) (hj:j<n) (hp:(ZfO rd).1=none):Zdw n r0=none:=by
 unfold Zt9 at h;rw [h,show n - j=(n - (j + 1)) + 1 by omega,ZuH hp];rfl
theorem ZuI {n:Nat} {r0 rd:Rd} {pls:List Pl} (h:Zt9 n r0 n rd pls):Zdw n r0=some (pls,rd):=by
 unfold Zt9 at h;rw [h,Nat.sub_self,ZuF];simp
def Zh1 (bs:List Int):Int × Rd:=Zb 1099511627776 ⟨bs,false⟩
def ZcR (bs:List Int):Int × Rd:=Zb 28629151 (Zh1 bs).2
def Zdx (bs:List Int):Int × Rd:=Zb 8 (ZcR bs).2
def Zni (r1:Rd):List Bk × Rd:=ZG Zo1 (Zb 300 r1).1.toNat (Zb 300 r1).2
theorem Zv0 {bs:List Int}:ZBU bs=match Zdw (Zdx bs).1.toNat (Zdx bs).2 with
  |none=>none
  |some y=>some (⟨(Zh1 bs).1,(ZcR bs).1,y.1,(Zni y.2).1⟩,(Zni y.2).2):=rfl
theorem Zu3 {bs:List Int} (h:Zdw (Zdx bs).1.toNat (Zdx bs).2=none):ZeZ bs=none:=by
 unfold ZeZ;rw [Zv0,h]
theorem Zxo {bs:List Int} {pls:List Pl} {r1:Rd} (h:Zdw (Zdx bs).1.toNat (Zdx bs).2=some (pls,r1)):
  ZeZ bs=if ZF (Zni r1).2=true/\ZAe ⟨(Zh1 bs).1,(ZcR bs).1,pls,(Zni r1).1⟩ then some ⟨(Zh1 bs).1,(ZcR bs).1,pls,(Zni r1).1⟩ else none:=by
 unfold ZeZ;rw [Zv0,h]
theorem Zrw {α:Type} {k:α->Int} {l:List α} {x:α} (h:ZaO k l) (hx:x∈l):∃ y,l.getLast? =some y/\k x<=k y:=by
 have hne:l≠[]:=by rintro rfl;cases hx
 refine ⟨l.getLast hne,List.getLast?_eq_some_getLast hne,?_⟩;obtain ⟨m,y,rfl⟩:∃ m y,l=m++[y]:=⟨l.dropLast,l.getLast hne,(List.dropLast_concat_getLast hne).symm⟩;rw [List.getLast_concat];rcases List.mem_append.1 hx with h1|h1
 ·have:=(List.pairwise_append.1 h).2.2 x h1 y (by simp)
  omega
 ·rw [List.mem_singleton.1 h1];omega
theorem ZzX {r:Rd} (hb:Zr r.bs):Zr (Zo1 r).2.bs:=Zd (Zd (Zd (Zd (Zd (Zd hb)))))
structure BkIn (x:Bk):Prop where
 id:0<=x.id/\x.id<=28629151
 flt:0<=x.flt/\x.flt<=9999
 cls:0<=x.cls/\x.cls<=9999
 many:0<=x.many/\x.many<=9999
 state:0<=x.state/\x.state<=3
 till:0<=x.till/\x.till<=1099511627776
theorem ZzW {r:Rd} (hb:Zr r.bs):BkIn (Zo1 r).1:=
 ⟨Zn hb (by omega),Zn (Zd hb) (by omega),Zn (Zd (Zd hb)) (by omega),Zn (Zd (Zd (Zd hb))) (by omega),Zn (Zd (Zd (Zd (Zd hb)))) (by omega),Zn (Zd (Zd (Zd (Zd (Zd hb))))) (by omega)⟩
def ZC3 (L:List Bk):Int:=(L.getLast?.map Bk.id).getD 0
structure Chk (b:ZU) (L:List Bk) (x:Bk):Prop where
 last:ZC3 L<x.id
 next:x.id<b.next
 state:1<=x.state
 held:x.state=1↔b.now<x.till
 free:x.state=1\/x.till=0
 has:∃ p,b.at x.flt=some p/\ZiG p x
end
end Go.Proofs.YtlplemdmegpoeaaGreatDoor


namespace Go.Proofs.YtlplemdmegpoeaaGreatDoor
section
open Go Go.VC Tryz
open Classical
variable {R:Cx} {Hs Rest:List HP} {w:World}
theorem Zql {l:List Int} (h:∀ x∈l,0<=x/\x<18446744073709551616):Zr (Zl l):=Zb3 h
theorem Zqk {r:RF} (g:ZaM r):Zr (ZbP r):=by
 have s:=ZeI g;obtain ⟨l1,l2,l3⟩:=Zaa.1 g.lay;obtain ⟨m1,m2,m3⟩:=ZdA g;have hlen:=g.len.1;unfold ZbP Zwh;refine Zw (Zw (Zw (Zw (Zql λ x hx=>?_) (ZfQ s.grps (by omega))) (ZfQ s.lims (by omega))) (ZH (by omega))) λ x hx=>?_
 ·have:=s.num
  have:=s.rows;simp only [List.mem_cons,List.not_mem_nil,or_false] at hx;omega
 ·exact Zh6 (λ h hh=>s.hs h hh) x hx
theorem ZvE {x:Wt} (h:x.Ok) (hf:x.sc<18446744073709551616):Zr (wtB x):=by
 obtain ⟨h1,h2,h3,h4⟩:=h;exact Zw (ZH (by omega)) (Zw (ZH (by omega)) (Zw (ZH (by omega)) (Zw (ZH (by omega)) (ZtB hf))))
theorem Ztz {q:List Wt} (h:QOk q):Zr (qB q):=Zw (ZH (by have:=h.len;omega)) (ZdG λ x hx=>ZvE (h.ok x hx) (h.fl x hx))
theorem ZvF {p:Pl} (g:ZaM p.r) (h:QOk p.q):Zr (plB p):=
 Zw (ZdF (Zqk g) (by have:=Zez g;omega)) (ZdF (Ztz h) (by have:=ZlL h;omega))
theorem ZvH {n:Int} {x:Bk} (hn:n<=28629151) (h:Zua n x):Zr (bkB x):=by
 have:=h.id;have:=h.flt;have:=h.cls;have:=h.many;have:=h.state;have:=h.till;exact Zw (ZH (by omega)) (Zw (ZH (by omega)) (Zw (ZH (by omega)) (Zw (ZH (by omega)) (Zw (ZH (by omega)) (ZH (by omega))))))
theorem Zqj {b:ZU} (k:Core b):Zr (Zdi b):=by
 have h1:=k.now;have h2:=k.next;have h3:=k.few;have h4:=k.many;exact Zw (ZH (by omega)) (Zw (ZH (by omega)) (Zw (ZH (by omega)) (Zw (ZdG λ p hp=>ZvF (k.good p hp) (k.qok p hp)) (Zw (ZH (by omega)) (ZdG λ x hx=>ZvH h2.2 (k.each x hx))))))
def ZqA (t:Tb):Prop:=∀ c∈t.cl,0<c.last\/c.rep=[]
theorem ZqA.apply {t:Tb} (k:Zjz t) (h:ZqA t) (bs:List Int):ZqA (t.applyT bs).2:=by
 unfold Tb.applyT;split
 ·exact h
 ·unfold Tb.askT
  split
  ·exact h
  ·split
   ·unfold Tb.beginT
    split
    ·exact h
    ·split
     ·exact h
     ·intro c hc
      rcases List.mem_append.1 hc with hc|hc
      ·exact h c hc
      ·rw [List.mem_singleton] at hc
       subst hc;exact .inr rfl
   ·split
    ·split
     ·exact h
     ·exact h
    ·rename_i c hc
     obtain ⟨hm,_⟩:=Zf8 hc;split
     ·exact λ d hd=>h d (List.mem_filter.1 hd).1
     ·unfold Tb.doT
      split
      ·exact h
      ·split
       ·exact h
       ·split
        ·rename_i h9
         intro d hd;obtain ⟨x,hx,rfl⟩:=List.mem_map.1 hd;have:=(k.each c hm).last;dsimp only;split
         ·exact .inl (by show 0<((Zad mI bs).1).seq;omega)
         ·exact h x hx
        ·exact h
theorem Zwu {n:Int} {c:Cl} (h:ZAf n c):clB c=Zl [c.id]++(Zl [c.tok]++(Zl [c.last]++ZaZ c.rep)):=by
 have h1:=h.id;have h2:=h.tok;have h3:=h.last;unfold clB;rw [nn3s (by omega) h2.1 h3.1];simp only [List.append_assoc]
theorem Zn7 {t:Tb} (k:TbC t):Zcs t=Zl [t.next]++(Zl [(t.cl.length:Int)]++((t.cl.map clB).flatten++ZaZ (Zdi t.bk))):=by
 have h1:=k.nx;unfold Zcs;show Zl [nn t.next,nn (t.cl.length:Int)]++_++_=_;rw [Zcu (by omega),Zcu (by omega),Zbm t.next];simp only [List.append_assoc]
theorem ZvG {n:Int} {c:Cl} (h:ZAf n c) (hn:n<=1099511627776):Zr (clB c):=by
 have h1:=h.id;have h2:=h.tok;have h3:=h.last;have h4:=h.rep;rw [Zwu h];exact Zw (ZH (by omega)) (Zw (ZH (by omega)) (Zw (ZH (by omega)) (ZdF h.by' (by omega))))
theorem ZnI {t:Tb} (k:TbC t) (hn:t.next<=1099511627776):Zr (Zcs t):=by
 have h1:=k.nx;have h2:=k.few;have h3:=ZfF k.core;rw [Zn7 k];exact Zw (ZH (by omega)) (Zw (ZH (by omega)) (Zw (ZdG λ c hc=>ZvG (k.each c hc) hn) (ZdF (Zqj k.core) (by omega))))
def doQ (id seq:Int) (cmd:List Int):Rq:=⟨2,id,seq,0,cmd⟩
theorem Zif {id seq:Int} {cmd:List Int} (h:inI id) (h2:inI seq) (h3:cmd.length<=4000):ZaK (doQ id seq cmd):=⟨h,h2,⟨Int.le_refl 0,by show (0:Int)<=1099511627776;omega⟩,h3,.inr (.inl ⟨rfl,rfl⟩)⟩
end
section
open Go Go.VC Tryz
open Classical
theorem ZvM {t:Tb} (k:Zjz t) {tok:Int} (h:inI tok):
  (t.applyT (rqB (ZmB tok))).1.code=3\/((t.applyT (rqB (ZmB tok))).1.code=0/\∃ c∈(t.applyT (rqB (ZmB tok))).2.cl,c.id=(t.applyT (rqB (ZmB tok))).1.client):=by
 have e:t.applyT (rqB (ZmB tok))=t.beginT tok:=by
  unfold Tb.applyT;rw [Zgp (ZcB h),if_neg (by simp)];show t.askT (ZmB tok)=_;unfold Tb.askT;rw [if_neg (by show ¬ (1:Int)=4;omega),if_pos (by rfl)];rfl
 rw [e];unfold Tb.beginT;split
 ·rename_i c hc
  exact .inr ⟨rfl,c,(Zf8 hc).1,rfl⟩
 ·split
  ·exact .inl rfl
  ·exact .inr ⟨rfl,⟨t.next,tok,0,[]⟩,List.mem_append_right _ (List.mem_singleton.2 rfl),rfl⟩
theorem Znz {t:Tb} (k:Zjz t) {c:Cl} (hc:c∈t.cl):t.cl.find? (λ d=>d.id==c.id)=some c:=Zhm (f:=Cl.id) k.ids hc
theorem Zwi {t:Tb} (k:Zjz t) {c:Cl} {n:Int} {cmd:List Int} (hc:c∈t.cl) (hi:inI c.id) (hn:inI n) (hl:cmd.length<=4000):t.applyT (rqB (doQ c.id n cmd))=t.doT c (doQ c.id n cmd):=by
 unfold Tb.applyT;rw [Zgp (Zif hi hn hl),if_neg (by simp)];show t.askT (doQ c.id n cmd)=_;unfold Tb.askT;rw [if_neg (by show ¬ (2:Int)=4;omega),if_neg (by show ¬ (2:Int)=1;omega)];have h:t.cl.find? (λ d=>d.id==(doQ c.id n cmd).client)=some c:=Znz k hc;rw [h];dsimp only;rw [if_neg (by show ¬ (2:Int)=3;omega)]
theorem Zvo {t:Tb} (k:Zjz t) {c:Cl} {cmd:List Int} (hc:c∈t.cl) (hi:inI c.id) (hn:c.last<1099511627776) (hl:cmd.length<=4000):
  ∃ rep,(t.applyT (rqB (doQ c.id (c.last + 1) cmd))).1=⟨0,c.id,c.last + 1,rep⟩/\(⟨c.id,c.tok,c.last + 1,rep⟩:Cl)∈(t.applyT (rqB (doQ c.id (c.last + 1) cmd))).2.cl:=by
 have h0:=(k.each c hc).last;rw [Zwi k hc hi ⟨by omega,by omega⟩ hl];unfold Tb.doT;rw [if_neg (by show ¬ c.last + 1>c.last + 1;omega),if_neg (by show ¬ (c.last + 1<c.last\/c.last + 1=0);omega),if_pos (by show c.last + 1>c.last;omega)];refine ⟨_,rfl,List.mem_map.2 ⟨c,hc,?_⟩⟩;rw [if_pos (by simp)];rfl
theorem Zvp {t:Tb} (k:Zjz t) {c:Cl} {cmd:List Int} (hc:c∈t.cl) (hi:inI c.id) (hn:1<=c.last/\c.last<=1099511627776) (hl:cmd.length<=4000):
  t.applyT (rqB (doQ c.id c.last cmd))=(⟨0,c.id,c.last,c.rep⟩,t):=by
 rw [Zwi k hc hi ⟨by omega,by omega⟩ hl];unfold Tb.doT;rw [if_neg (by show ¬ c.last>c.last + 1;omega),if_neg (by show ¬ (c.last<c.last\/c.last=0);omega),if_neg (by show ¬ c.last>c.last;omega)];rfl
theorem Zvn {t:Tb} {c:Cl} {bs:List Int} (hc:c∈t.cl) (h:¬ ((Zad mI bs).2=0/\(Zad mI bs).1.client=c.id)):c∈(t.applyT bs).2.cl:=by
 unfold Tb.applyT;split
 ·exact hc
 ·rename_i h0
  have hne:(Zad mI bs).1.client≠c.id:=λ e=>h ⟨by simpa using h0,e⟩;generalize (Zad mI bs).1=q at hne;unfold Tb.askT;split
  ·exact hc
  ·split
   ·unfold Tb.beginT
    split
    ·exact hc
    ·split
     ·exact hc
     ·exact List.mem_append_left _ hc
   ·split
    ·split<;>exact hc
    ·rename_i d hd
     have hid:d.id=q.client:=beq_iff_eq.1 (Zf8 hd).2;split
     ·exact List.mem_filter.2 ⟨hc,by simpa using λ e=>hne e.symm⟩
     ·unfold Tb.doT
      split
      ·exact hc
      ·split
       ·exact hc
       ·split
        ·refine List.mem_map.2 ⟨c,hc,?_⟩
         rw [if_neg];simp only [beq_iff_eq];rw [hid];exact λ e=>hne e.symm
        ·exact hc
def ZkX (r:Rd):Cl × Rd:=
 let a:=Zb mI r
 let k:=Zb mI a.2
 let l:=Zb mI k.2
 let d:=ZD 65536 l.2
 (⟨a.1,k.1,l.1,d.1⟩,d.2)
structure ZkR (next:Int) (l:List Cl):Prop where
 rise:(l.map Cl.id).Pairwise λ a b=>a<b
 ids:∀ c∈l,1<=c.id/\c.id<next
 toks:(l.map Cl.tok).Nodup
 live:∀ c∈l,0<c.last\/c.rep=[]
abbrev tN (bs:List Int):=Zb mI ⟨bs,false⟩
abbrev tM (bs:List Int):=Zb 64 (tN bs).2
abbrev tZ (bs:List Int):=ZG ZkX (tM bs).1.toNat (tM bs).2
abbrev tD (bs:List Int):=ZD 1048576 (tZ bs).2
noncomputable def Zg6 (bs:List Int):Option Tb:=match ZeZ (tD bs).1 with
 |none=>none
 |some b=>if ZF (tD bs).2=true/\1<=(tN bs).1/\ZkR (tN bs).1 (tZ bs).1 then some ⟨(tN bs).1,(tZ bs).1,b⟩ else none
theorem Ztq {n:Int} {c:Cl} (h:ZAf n c) (hn:n<=1099511627776) (more:List Int):ZkX ⟨clB c++more,false⟩=(c,⟨more,false⟩):=by
 have h1:=h.id;have h2:=h.tok;have h3:=h.last;have h4:=h.rep;rw [Zwu h];simp only [List.append_assoc];unfold ZkX;rw [Zv (by omega) (by show c.id<=1099511627776;omega) (by omega)];dsimp only;rw [Zv h2.1 (by show c.tok<=1099511627776;omega) (by omega)];dsimp only;rw [Zv h3.1 (by show c.last<=1099511627776;omega) (by omega)];dsimp only;rw [ZcI (by omega) (by omega)]
theorem ZC2 {t:Tb} (k:Zjz t) (hr:ZmD t) (hl:ZqA t):ZkR t.next t.cl:=⟨hr,λ c hc=>(k.each c hc).id,k.toks,hl⟩
theorem ZpT {t:Tb} (k:Zjz t) (hr:ZmD t) (hl:ZqA t) (hn:t.next<=1099511627776):Zg6 (Zcs t)=some t:=by
 have h1:=k.nx;have h2:=k.few;have h3:=ZfF k.bk.core;have e1:tN (Zcs t)=(t.next,⟨Zl [(t.cl.length:Int)]++((t.cl.map clB).flatten++ZaZ (Zdi t.bk)),false⟩):=by
  show Zb mI ⟨Zcs t,false⟩=_;rw [Zn7 k.c];exact Zv (by omega) (by show t.next<=1099511627776;omega) (by omega)
 have e2:tM (Zcs t)=((t.cl.length:Int),⟨(t.cl.map clB).flatten++ZaZ (Zdi t.bk),false⟩):=by
  show Zb 64 (tN (Zcs t)).2=_;rw [e1];exact Zv (by omega) (by omega) (by omega)
 have e3:tZ (Zcs t)=(t.cl,⟨ZaZ (Zdi t.bk),false⟩):=by
  show ZG ZkX (tM (Zcs t)).1.toNat (tM (Zcs t)).2=_;rw [e2];dsimp only;rw [Int.toNat_natCast];exact ZdO λ c hc more=>Ztq (k.each c hc) hn more
 have e4:tD (Zcs t)=(Zdi t.bk,⟨[],false⟩):=by
  show ZD 1048576 (tZ (Zcs t)).2=_;rw [e3];have:=ZcI (d:=Zdi t.bk) (rest:=[]) (most:=1048576) (by omega) (by omega);rw [List.append_nil] at this;exact this
 unfold Zg6;rw [e4];dsimp only;rw [Zst k.bk];dsimp only;rw [e3,e1];dsimp only;rw [if_pos ⟨rfl,h1,ZC2 k hr hl⟩]
def Znk (l:List Cl):Int:=(l.getLast?.map Cl.id).getD 0
theorem ZkR.nil {n:Int}:ZkR n []:=⟨List.Pairwise.nil,λ _ h=>(by cases h),List.nodup_nil,λ _ h=>(by cases h)⟩
theorem ZkR.pre {n:Int} {l m:List Cl} (h:ZkR n (l++m)):ZkR n l:=by
 refine ⟨?_,λ c hc=>h.ids c (List.mem_append_left _ hc),?_,λ c hc=>h.live c (List.mem_append_left _ hc)⟩
 ·have:=h.rise
  rw [List.map_append,List.pairwise_append] at this;exact this.1
 ·have:=h.toks
  rw [List.map_append,List.nodup_append] at this;exact this.1
theorem Zow {n:Int} {l:List Cl} (h:ZkR n l):0<=Znk l/\∀ c∈l,c.id<=Znk l:=by
 constructor
 ·unfold Znk
  cases hz:l.getLast? with
  |none=>simp
  |some z=>have:=h.ids z (List.mem_of_getLast? hz);simp;omega
 ·intro c hc
  obtain ⟨z,hz,hle⟩:=Zrw (k:=Cl.id) (List.pairwise_map.1 h.rise) hc;unfold Znk;rw [hz];simpa using hle
theorem Zkf {n:Int} {l:List Cl} {c:Cl}:ZkR n (l++[c])↔ZkR n l/\Znk l<c.id/\c.id<n/\c.tok ∉ l.map Cl.tok/\(0<c.last\/c.rep=[]):=by
 constructor
 ·intro h
  have hl:=h.pre;refine ⟨hl,?_,(h.ids c (by simp)).2,?_,h.live c (by simp)⟩
  ·unfold Znk
   cases hz:l.getLast? with
   |none=>have:=(h.ids c (by simp)).1;simp;omega
   |some z=>
    have:=h.rise;rw [List.map_append,List.pairwise_append] at this;have:=this.2.2 z.id (List.mem_map.2 ⟨z,List.mem_of_getLast? hz,rfl⟩) c.id (by simp);simpa using this
  ·have:=h.toks
   rw [List.map_append,List.nodup_append] at this;exact λ h2=>this.2.2 _ h2 c.tok (by simp) rfl
 ·rintro ⟨h,h1,h2,h3,h4⟩
  obtain ⟨g1,g2⟩:=Zow h;refine ⟨?_,λ d hd=>?_,?_,λ d hd=>?_⟩
  ·rw [List.map_append,List.pairwise_append]
   refine ⟨h.rise,by simp,λ x hx y hy=>?_⟩;obtain ⟨d,hd,rfl⟩:=List.mem_map.1 hx;have:=g2 d hd;simp only [List.map_cons,List.map_nil,List.mem_singleton] at hy;omega
  ·rcases List.mem_append.1 hd with hd|hd
   ·exact h.ids d hd
   ·rw [List.mem_singleton.1 hd];omega
  ·rw [List.map_append,List.nodup_append]
   refine ⟨h.toks,by simp,λ x hx y hy e=>?_⟩;simp only [List.map_cons,List.map_nil,List.mem_singleton] at hy;rw [e,hy] at hx;exact h3 hx
  ·rcases List.mem_append.1 hd with hd|hd
   ·exact h.live d hd
   ·rw [List.mem_singleton.1 hd];exact h4
theorem Zx3 {r:Rd} (hb:Zr r.bs):Zr (ZkX r).2.bs:=(ZcJ (Zd (Zd (Zd hb)))).2
structure ClIn (c:Cl):Prop where
 id:0<=c.id/\c.id<=1099511627776
 tok:0<=c.tok/\c.tok<=1099511627776
 last:0<=c.last/\c.last<=1099511627776
 rep:c.rep.length<=65536
 by':Zr c.rep
theorem Zx2 {r:Rd} (hb:Zr r.bs):ClIn (ZkX r).1:=
 ⟨Zn hb (by show (0:Int)<=1099511627776;omega),Zn (Zd hb) (by show (0:Int)<=1099511627776;omega),Zn (Zd (Zd hb)) (by show (0:Int)<=1099511627776;omega),(by have:=ZhJ (most:=65536) (Zd (most:=mI) (Zd (most:=mI) (Zd (most:=mI) hb)));exact this),(ZcJ (Zd (Zd (Zd hb)))).1⟩
theorem Zou {bs:List Int} {n:Nat} {l:List Cl} {r0 rd:Rd} (hn:(tM bs).1.toNat=n) (h0:(tM bs).2=r0) (h:ZG ZkX n r0=(l,rd)):
  Zg6 bs=match ZeZ (ZD 1048576 rd).1 with
   |none=>none
   |some b=>if ZF (ZD 1048576 rd).2=true/\1<=(tN bs).1/\ZkR (tN bs).1 l then some ⟨(tN bs).1,l,b⟩ else none:=by
 have e:tZ bs=(l,rd):=by show ZG ZkX (tM bs).1.toNat (tM bs).2=_;rw [hn,h0,h]
 unfold Zg6;show (match ZeZ (ZD 1048576 (tZ bs).2).1 with|none=>none|some b=>if ZF (ZD 1048576 (tZ bs).2).2=true/\1<=(tN bs).1/\ZkR (tN bs).1 (tZ bs).1 then some (⟨(tN bs).1,(tZ bs).1,b⟩:Tb) else none)=_
 rw [e]
end
end Go.Proofs.YtlplemdmegpoeaaGreatDoor

namespace Go.Proofs.YtlplemdmegpoeaaGreatDoor
section
open Go Go.VC Tryz
open Classical
variable {R:Cx} {Hs Rest:List HP} {w:World}
theorem Zsu {bs:List Int} {n:Nat} {l:List Cl} {r0 rd:Rd} (hn:(tM bs).1.toNat=n) (h0:(tM bs).2=r0) (h:ZG ZkX n r0=(l,rd)) (hm:¬ (1<=(tN bs).1/\ZkR (tN bs).1 l)):Zg6 bs=none:=by
 rw [Zou hn h0 h];cases ZeZ (ZD 1048576 rd).1 with
 |none=>rfl
 |some b=>exact if_neg λ h=>hm h.2
end
section
open Go Go.VC Tryz
set_option maxRecDepth 10000
def B4 (o:Sl) (Z:Sl) (k:Sl) (K:nK) (w : nW):Prop:=
 nC 20 #[] w λ cu dl=>
 ∃ F,(cu=.returned (.bool F))/\
 nC 21 #[o.v] dl λ cv ds=>
 ∃ b7,(cv=.returned (.bool b7))/\
 nC 21 #[k.v] ds λ c6 T=>
 ∃ b8,(c6=.returned (.bool b8))/\
 ∃ (ar:World->Prop),(Br (!F)
 (K (.bool F) T)
 (Br b7
 (K (.bool F) T)
 (Br b8
 (K (.bool F) T)
 (Br (decide ((↑Z.len:Int)>4000))
 (K (.bool F) T)
 (ar  T)))))/\
 ∀ (d7:Env)  (cl:World),ar  cl->
 nC 22 #[] cl λ c8 d4=>
 ∃ f,(c8=.returned (.pointer f))/\
 ∃ (ai:World->Prop),(∃ (ah:Int->World->Prop) (cp:Int->World->Nat),(ah 0 d4)/\∀ (d8:Env) (j:Int) (M:World),ah j M->
 Br (decide (j<(↑o.len:Int)))
 (Br (decide (j<60))
 (Rng j o.len (Zc o.a λ cs=>
 ∃ G:Sl,(Aw M (Addr.add cs j.toNat) [G.v])/\
 nC 23 #[.pointer f,G.v] M λ c9 cn=>
 ∃ di dj dk,∃ an:Sl,(c9=.returned (.agg #[nI di,nI dj,nI dk,an.v]))/\
 (ah (wI (j + 1)) cn)/\cp (wI (j + 1)) cn<cp j M))
 (ai  M))
 (ai  M))/\
 ∀ (d9:Env)  (co:World),ai  co->
 nC 24 #[.agg #[nI 1,nI 0,nI 0,nI 549755813888,.slice none 0 0]] co λ da d5=>
 ∃ H:Sl,(da=.returned (H.v))/\
 nC 23 #[.pointer f,H.v] d5 λ db dm=>
 ∃ b9 ca cb,∃ I:Sl,(db=.returned (.agg #[nI b9,nI ca,nI cb,I.v]))/\
 New (.cells #[nI 0,nI 0,nI 0,.slice none 0 0] 54 (0,0)) (λ n dn=>
 ∃ Q,(St 54 ⟨n,0,none⟩ (.agg #[nI b9,nI ca,nI cb,I.v]) dn Q)/\
 ∃ cc,(Aw Q ⟨n,0,none⟩ [nI cc])/\
 Br (cc !=0)
 (∃ cd,(Aw Q ⟨n,0,none⟩ [nI cd])/\
 K (.bool (cd==3)) Q)
 (nC 26 #[.pointer f] Q λ dc dp=>
 ∃ J:Sl,(dc=.returned (J.v))/\
 nC 25 #[J.v] dp λ dd cg=>
 ∃ aa ce,(dd=.returned (.tuple #[.pointer aa,nI ce]))/\
 Br (ce !=0)
 (K (.bool false) cg)
 (∃ (V:Int->Int->World->Prop) (af:Int->Int->World->Nat),(V ((-1)) 0 cg)/\∀ (ea:Env) (g:Int) (c:Int) (l:World),V g c l->
 Zc aa λ a0=>
 ∃ ab:Sl,(Aw l (nO a0 1) [ab.v])/\
 Br (decide (c<(↑ab.len:Int)))
 (Drw l λ d6 i=>
 Zc aa λ a1=>
 ∃ O:Sl,(Aw i (nO a1 1) [O.v])/\
 Rng c O.len (Zc O.a λ ct=>
 ∃ cf,(Aw i (Addr.add (Addr.add ct (Zcp c.toNat 4)) 0) [nI cf])/\
 ∃ a5,(Aw i ⟨n,0 + 1,none⟩ [nI a5])/\
 Br (cf==a5)
 (Zc aa λ ay=>
 ∃ N:Sl,(Aw i (nO ay 1) [N.v])/\
 Rng c N.len (Zc N.a λ az=>
 ∃ al,(Aw i (nO (az.add (Zcp c.toNat 4)) 2) [nI al])/\
 (V al (wI (c + 1)) i)/\af al (wI (c + 1)) i<af g c l))
 ((V g (wI (c + 1)) i)/\af g (wI (c + 1)) i<af g c l)))
 (∃ (au:World->Prop),(Br (decide (g<0))
 (K (.bool (decide (g>0))) l)
 (Br (decide (g >= 1099511627776))
 (K (.bool (decide (g>0))) l)
 (au  l)))/\
 ∀ (eb:Env)  (ao:World),au  ao->
 ∃ a6,(Aw ao ⟨n,0 + 1,none⟩ [nI a6])/\
 nC 24 #[.agg #[nI 2,nI a6,nI (wI (g + 1)),nI 0,Z.v]] ao λ de dq=>
 ∃ e:Sl,(de=.returned (e.v))/\
 nC 23 #[.pointer f,e.v] dq λ cw dr=>
 ∃ a7 a8 a9,∃ p:Sl,(cw=.returned (.agg #[nI a7,nI a8,nI a9,p.v]))/\
 New (.cells #[nI 0,nI 0,nI 0,.slice none 0 0] 54 (0,0)) (λ Y dt=>
 ∃ ac,(St 54 ⟨Y,0,none⟩ (.agg #[nI a7,nI a8,nI a9,p.v]) dt ac)/\
 ∃ ba,(Aw ac ⟨Y,0,none⟩ [nI ba])/\
 Br (ba !=0)
 (K (.bool false) ac)
 (∃ (aj:World->Prop),(∃ (X:Int->World->Prop) (ag:Int->World->Nat),(X 0 ac)/\∀ (ec:Env) (d:Int) (L:World),X d L->
 ∃ (av:World->Prop),(Br (decide (d<(↑k.len:Int)))
 (Br (decide (d<60))
 (av  L)
 (aj  L))
 (aj  L))/\
 ∀ (ed:Env)  (ap:World),av  ap->
 Rng d k.len (Zc k.a λ cq=>
 ∃ q:Sl,(Aw ap (Addr.add cq d.toNat) [q.v])/\
 nC 27 #[q.v] ap λ cx du=>
 ∃ bb bc bd be,∃ r:Sl,∃ bf,(cx=.returned (.tuple #[.agg #[nI bb,nI bc,nI bd,nI be,r.v],nI bf]))/\
 New (.cells #[nI 0,nI 0,nI 0,nI 0,.slice none 0 0] 58 (0,0)) (λ a2 dv=>
 ∃ m,(St 58 ⟨a2,0,none⟩ (.agg #[nI bb,nI bc,nI bd,nI be,r.v]) dv m)/\
 ∃ (ak:World->Prop),(Br (bf==0)
 (∃ bg,(Aw m ⟨a2,0 + 1,none⟩ [nI bg])/\
 ∃ bh,(Aw m ⟨n,0 + 1,none⟩ [nI bh])/\
 Br (bg==bh)
 ((X (wI (d + 1)) m)/\ag (wI (d + 1)) m<ag d L)
 (ak  m))
 (ak  m))/\
 ∀ (ee:Env)  (ch:World),ak  ch->
 nC 26 #[.pointer f] ch λ cy dw=>
 ∃ s:Sl,(cy=.returned (s.v))/\
 nC 23 #[.pointer f,e.v] dw λ cz dx=>
 ∃ bi bj bk,∃ t:Sl,(cz=.returned (.agg #[nI bi,nI bj,nI bk,t.v]))/\
 New (.cells #[nI 0,nI 0,nI 0,.slice none 0 0] 54 (0,0)) (λ a3 dy=>
 ∃ ad,(St 54 ⟨a3,0,none⟩ (.agg #[nI bi,nI bj,nI bk,t.v]) dy ad)/\
 ∃ bl bm bn,∃ u:Sl,(Aw ad ⟨Y,0,none⟩ [nI bl,nI bm,nI bn,u.v])/\
 ∃ bo bp bq,∃ v:Sl,(Aw ad ⟨a3,0,none⟩ [nI bo,nI bp,nI bq,v.v])/\
 nC 28 #[.agg #[nI bl,nI bm,nI bn,u.v],.agg #[nI bo,nI bp,nI bq,v.v]] ad λ c0 dz=>
 ∃ br,(c0=.returned (.bool br))/\
 Drw dz λ aw ci=>
 Br (!br)
 (K (.bool false) ci)
 (∃ bt:ByteArray,(∀ b,aw b->((convert 47 9 (s.v))).run prog b=.ok (.string bt) b)/\
 nC 26 #[.pointer f] ci λ c1 U=>
 ∃ x:Sl,(c1=.returned (x.v))/\
 (aw U)/\
 ∃ bs:ByteArray,(∀ b,(λ b=>b=U) b->((convert 47 9 (x.v))).run prog b=.ok (.string bs) b)/\
 Br (!bs.toList==bt.toList)
 (K (.bool false) U)
 (Rng d k.len (Zc k.a λ cr=>
 ∃ y:Sl,(Aw U (Addr.add cr d.toNat) [y.v])/\
 nC 23 #[.pointer f,y.v] U λ c2 cj=>
 ∃ df dg dh,∃ am:Sl,(c2=.returned (.agg #[nI df,nI dg,nI dh,am.v]))/\
 (X (wI (d + 1)) cj)/\ag (wI (d + 1)) cj<ag d L)))) dx) du))/\
 ∀ (ef:Env)  (ck:World),aj  ck->
 nC 26 #[.pointer f] ck λ c3 d0=>
 ∃ z:Sl,(c3=.returned (z.v))/\
 nC 23 #[.pointer f,e.v] d0 λ c4 d1=>
 ∃ bu bv bw,∃ A:Sl,(c4=.returned (.agg #[nI bu,nI bv,nI bw,A.v]))/\
 New (.cells #[nI 0,nI 0,nI 0,.slice none 0 0] 54 (0,0)) (λ a4 d2=>
 ∃ ae,(St 54 ⟨a4,0,none⟩ (.agg #[nI bu,nI bv,nI bw,A.v]) d2 ae)/\
 ∃ bx bz b0,∃ C:Sl,(Aw ae ⟨Y,0,none⟩ [nI bx,nI bz,nI b0,C.v])/\
 ∃ b1 b2 b3,∃ D:Sl,(Aw ae ⟨a4,0,none⟩ [nI b1,nI b2,nI b3,D.v])/\
 nC 28 #[.agg #[nI bx,nI bz,nI b0,C.v],.agg #[nI b1,nI b2,nI b3,D.v]] ae λ c5 d3=>
 ∃ b4,(c5=.returned (.bool b4))/\
 Drw d3 λ ax cm=>
 Br b4
 (∃ b6:ByteArray,(∀ b,ax b->((convert 47 9 (z.v))).run prog b=.ok (.string b6) b)/\
 nC 26 #[.pointer f] cm λ c7 aq=>
 ∃ E:Sl,(c7=.returned (E.v))/\
 (ax aq)/\
 ∃ b5:ByteArray,(∀ b,(λ b=>b=aq) b->((convert 47 9 (E.v))).run prog b=.ok (.string b5) b)/\
 K (.bool (b5.toList==b6.toList)) aq)
 (K (.bool false) cm)) d1)) dr)))) dm
def sk4:Sk:=(.seq .leaf (.seq .leaf (.seq .leaf (.seq .leaf (.cut [] [] [6,33,34,35,36,37,38,39,40,41,42,43,44,45,46] .leaf (.seq .leaf (.cut [] [] [11,48,49,50,51,52,53,54,55,56,57,58,59,60,61,62,63] (.seq .leaf (.block (.loop [11] [(.int .i64)] [11,48,49,50,51,52,53,54,55,56,57,58,59,60,61,62,63] .leaf))) (.seq .leaf (.seq .leaf (.seq .leaf (.seq .leaf (.seq .leaf (.seq (.seq .leaf (.block (.loop [15,16] [(.int .i64),(.int .i64)] [15,16,82,83,84,85,86,87,88,89,90,91,92,93,94,95,96,97,98,99,100,101,102,103,104,105,106,107,108,109] (.seq .leaf (.seq (.block (.seq (.block .leaf) .leaf)) .leaf))))) (.cut [] [] [6,110,111,112,113,114,115,116,117] .leaf (.seq .leaf (.seq .leaf (.seq .leaf (.cut [] [] [6,19,20,21,22,23,24,131,132,133,134,135,136,137,138,139,140,141,142,143,144,145,146,147,148,149,150,151,152,153,154,155,156,157,158,159,160,161,162,163,164,165,166,167,168,169,170,171,172,173,174,175,176,177,178,179,180,181] (.seq .leaf (.block (.loop [19] [(.int .i64)] [6,19,20,21,22,23,24,131,132,133,134,135,136,137,138,139,140,141,142,143,144,145,146,147,148,149,150,151,152,153,154,155,156,157,158,159,160,161,162,163,164,165,166,167,168,169,170,171,172,173,174,175,176,177,178,179,180,181] (.cut [] [] [131,132,133,134,135,136,137,138] .leaf (.seq (.block (.seq .leaf (.cut [] [] [149,150,151,152,153,154,155,156,157] .leaf (.seq .leaf (.seq .leaf (.seq .leaf (.seq (.seq (.block .leaf) .leaf) .leaf))))))) .leaf))))) (.seq .leaf (.seq .leaf (.seq .leaf (.seq (.block .leaf) .leaf))))))))))))))))))))))
theorem ZDe (c:Sl) (b:Sl) (d:Sl) (K:nK) (w : nW) (h:B4 c b d K w):Zm prog 4 #[c.v,b.v,d.v] w K:=cq (sk:=sk4) h func4
def sk5:Sk:=(.seq .leaf (.seq .leaf (.seq .leaf (.cut [] [] [2,15,16,17,18,19,20] .leaf (.seq .leaf (.seq .leaf (.seq (.seq .leaf (.block (.loop [7] [(.int .i64)] [2,7,8,9,10,23,24,25,26,27,28,29,30,31,32,33,34,35,36,37,38,39,40,41,42,43,44,45,46,47,48,49,50,51,52,53,54,55,56,57,58,59,60,61,62,63,64] (.cut [] [] [23,24,25,26,27,28,29,30] .leaf (.seq (.block (.seq .leaf (.seq (.block .leaf) (.seq .leaf (.seq .leaf (.seq (.block .leaf) .leaf)))))) .leaf))))) (.seq .leaf (.seq (.block .leaf) .leaf)))))))))
end
section
open Go Go.VC Tryz
open Classical
variable {R:Cx} {Hs Rest:List HP} {w:World}
structure TbL (t:Tb):Prop where
 ok:Zjz t
 rise:ZmD t
 live:ZqA t
theorem TbL.new:TbL ZBV:=⟨Zsj,List.Pairwise.nil,λ _ h=>(by cases h)⟩
theorem TbL.apply {t:Tb} (h:TbL t) (hn:t.next<1000000) {bs:List Int} (hb:Zr bs):TbL (t.applyT bs).2/\ZB1 (t.applyT bs).1/\(t.applyT bs).2.next<=t.next + 1:=by
 obtain ⟨k1,k2,k3,_⟩:=h.ok.apply hn hb (λ q hq=>by rw [<-hq];exact Zn8 hb);exact ⟨⟨k1,h.rise.apply h.ok bs,h.live.apply h.ok bs⟩,k2,k3⟩
abbrev Zbw (s:Sl):Obj:=.cells [.slice s.a s.len s.cap].toArray 109 (0,0)
abbrev waT:TypeId:=168
def ZaB (q:Nat) (l:List Wt):HP:=exs λ s:Sl=>Zah [pts q (Zbw s),Zs 5 s waT (l.map wtV)]
theorem Sat.rqu {q:Nat} {l:List Wt}:Sat R (ZaB q l::Hs) w↔∃ s:Sl,Sat R (pts q (Zbw s)::Zs 5 s waT (l.map wtV)::Hs) w:=by
 unfold ZaB;rw [Sat.exs];exact ⟨λ⟨s,h⟩=>⟨s,Sat.star.1 h⟩,λ⟨s,h⟩=>⟨s,Sat.star.2 h⟩⟩
theorem Zln {x:Wt} (hw:Sat R Hs w):Zm prog 189 #[wtA x] w λ v w'=>v=.bool (decide x.Ok)/\Sat R Hs w':=by
 apply ZyY
 suffices H:∀ K:nK,(∀ w',Sat R Hs w'->K (.bool (decide x.Ok)) w')->B189 x.id x.cls x.many x.time x.sc K w from H _ λ w' h=>⟨rfl,h⟩
 intro K hK;refine Za hw λ b w hw=>?_;have hw:Sat R (wtD b x::Hs) w:=hw;have no:¬ x.Ok->K (.bool false) w:=λ h=>by have:=hK w hw.drop;rwa [decide_eq_false h] at this
 unfold Wt.Ok at no;refine ⟨x.id,oA hw,Br.d (λ h1=>?_) (λ h=>no λ h2=>h (by omega))⟩;refine ⟨x.id,oA hw,Br.d (λ h3=>?_) (λ h=>no λ h2=>h (by omega))⟩;refine ⟨x.cls,oA hw,Br.d (λ h4=>?_) (λ h=>no λ h2=>h (by omega))⟩;refine ⟨x.cls,oA hw,Br.d (λ h5=>?_) (λ h=>no λ h2=>h (by omega))⟩;refine ⟨x.many,oA hw,Br.d (λ h6=>?_) (λ h=>no λ h2=>h (by omega))⟩;refine ⟨x.many,oA hw,Br.d (λ h7=>?_) (λ h=>no λ h2=>h (by omega))⟩;refine ⟨x.time,oA hw,Br.d (λ h8=>?_) (λ h=>no λ h2=>h (by omega))⟩;refine ⟨x.time,oA hw,?_⟩;have:=hK w hw.drop;have e:decide x.Ok=decide (x.time<=1099511627776):=by
  refine decide_eq_decide.2 ?_;unfold Wt.Ok;omega
 rwa [e] at this
theorem Zlp {a b:Wt} (hw:Sat R Hs w):Zm prog 191 #[wtA a,wtA b] w λ v w'=>v=.bool (a.ahead b)/\Sat R Hs w':=by
 apply ZyW
 suffices H:∀ K:nK,(∀ w',Sat R Hs w'->K (.bool (a.ahead b)) w')->B191 a.id a.cls a.many a.time a.sc b.id b.cls b.many b.time b.sc K w from H _ λ w' h=>⟨rfl,h⟩
 intro K hK;refine Za hw λ p w hw=>Za hw λ q w hw=>?_;have hw:Sat R (wtD q b::wtD p a::Hs) w:=hw;refine ⟨a.sc,oA hw,b.sc,oA hw,?_⟩;refine (Zpr hw).u λ w hw=>?_;have hk:=λ {v:Bool} (h:a.ahead b=v)=>(show K (.bool v) w by rw [<-h];exact hK w hw.drop.drop);refine ⟨_,rfl,Br.ne (λ h0=>?_) (λ h0=>?_)⟩
 ·refine hk ?_
  have hne:¬ kvF a.sc=kvF b.sc:=λ e=>h0 (by unfold Zfi;rw [if_neg (by omega),if_pos e]);unfold Wt.ahead;rw [if_neg hne];refine decide_eq_decide.2 ?_;unfold Zfi;rw [if_neg hne];split<;>omega
 ·have he:kvF a.sc=kvF b.sc:=by
   unfold Zfi at h0;split at h0
   ·omega
   ·split at h0
    ·assumption
    ·omega
  unfold Wt.ahead at hk;rw [if_pos he] at hk;refine ⟨a.time,oA hw,b.time,oA hw,Br.ne (λ h1=>?_) (λ h1=>?_)⟩
  ·exact ⟨a.time,oA hw,b.time,oA hw,hk (by rw [if_neg h1])⟩
  ·exact ⟨a.id,oA hw,b.id,oA hw,hk (by rw [if_pos h1])⟩
theorem Zlo {q:Nat} {l:List Wt} {id:Int} (hl:l.length<=1000000000) (hw:Sat R (ZaB q l::Hs) w):
  Zm prog 190 #[nP q,nI id] w λ v w'=>(∃ i:Int,v=nI i/\((i=-1/\Ze7 id l=false)\/∃ k:Nat,i=k/\∃ (hk:k<l.length),l[k].id=id/\Ze7 id (l.take k)=false))/\Sat R (ZaB q l::Hs) w':=by
 obtain ⟨s,hw⟩:=Sat.rqu.1 hw;have hlen:=Zs.len hw.swap;rw [List.length_map] at hlen;apply ZyX;refine ⟨λ i w=>∃ j:Nat,i=j/\j<=l.length/\Ze7 id (l.take j)=false/\Sat R (pts q (Zbw s)::Zs 5 s waT (l.map wtV)::Hs) w,λ i _=>l.length - i.toNat,⟨0,rfl,by omega,by simp [Ze7],hw⟩,?_⟩;clear hw;rintro _ _ w ⟨j,rfl,hj,hn,hw⟩;refine Zc.mk rfl ⟨s,oA hw,Br.d (λ h=>?_) (λ h=>?_)⟩
 ·have hj2:j<l.length:=by omega
  refine Zc.mk rfl ⟨s,oA hw,?_⟩;have hw2:=hw.swap;refine (Zs.reads hw2 (S:=λ w'=>w'=w) (Hs':=pts q (Zbw s)::Hs) (λ w' e=>by rw [e];exact hw2)).rngM (E:=l) (g:=wtV) hj2 λ a _ he=>⟨l[j].id,he.zz (by exact ⟨rfl,trivial⟩),?_⟩;refine Br.e (λ h1=>⟨⟨j,rfl,.inr ⟨j,rfl,hj2,h1,hn⟩⟩,Sat.rqu.2 ⟨s,hw⟩⟩) (λ h1=>?_);rw [Zf (x:=(j:Int) + 1)];refine ⟨⟨j + 1,by omega,by omega,?_,hw⟩,by dsimp only;omega⟩;unfold Ze7 at hn ⊢;rw [List.take_add_one,List.getElem?_eq_getElem hj2,List.any_append,hn];simp [h1]
 ·rw [List.take_of_length_le (by omega)] at hn
  exact ⟨⟨-1,rfl,.inl ⟨rfl,hn⟩⟩,Sat.rqu.2 ⟨s,hw⟩⟩
theorem Zkn {x:Wt}:∀ {l:List Wt} {k:Nat},k<=l.length->(∀ i (hi:i<l.length),i<k->l[i].ahead x=true)->(∀ h:k<l.length,l[k].ahead x=false)->ZgA x l=l.take k++x::l.drop k
 |[],k,hk,_,_=>by simp at hk;subst hk;rfl
 |a::l,0,_,_,h2=>by
  have:=h2 (by simp);rw [Zch,if_neg (by simpa using this)];rfl
 |a::l,k + 1,hk,h1,h2=>by
  have:=h1 0 (by simp) (by omega);rw [Zch,if_pos (by simpa using this),Zkn (l:=l) (k:=k) (by simpa using hk) (λ i hi hik=>h1 (i + 1) (by simpa using hi) (by omega)) (λ h=>h2 (by simpa using h))];rfl
theorem Zue (l:List Wt) (k:Nat):ZaE ((l.map wtV).take k).flatten=true:=by rw [<-List.map_take];exact ZjC _
theorem Zuf (l:List Wt) (k:Nat):ZaE ((l.map wtV).drop k).flatten=true:=by rw [<-List.map_drop];exact ZjC _
theorem Zpt {q:Nat} {l:List Wt} {x:Wt} (hq:l.length<=1000) (hw:Sat R (ZaB q l::Hs) w):
  Zm prog 112 #[nP q,wtA x] w λ v w'=>v=nI (ZcL l x).2/\Sat R (ZaB q (ZcL l x).1::Hs) w':=by
 apply ZzL
 suffices H:∀ K:nK,(∀ w',Sat R (ZaB q (ZcL l x).1::Hs) w'->K (nI (ZcL l x).2) w')->B112 (some ⟨q,0,none⟩) x.id x.cls x.many x.time x.sc K w from H _ λ w' h=>⟨rfl,h⟩
 intro K hK;refine Za hw λ b w hw=>?_;have hw:Sat R (wtD b x::ZaB q l::Hs) w:=hw;refine ⟨x.id,x.cls,x.many,x.time,x.sc,oA hw,?_⟩;refine (Zln hw).u λ w hw=>?_;refine ⟨_,rfl,Br.nd (λ h0=>?_) (λ h0=>?_)⟩
 ·rw [show ZcL l x=(l,1) by unfold ZcL;rw [if_pos h0]] at hK;exact hK w hw.drop
 have n0:¬ ¬ x.Ok:=λ h=>h h0;refine ⟨x.id,oA hw,?_⟩;refine (Zlo (by omega) hw.swap).use ?_;clear hw;rintro _ w ⟨⟨i,rfl,hi⟩,hw⟩;refine ⟨i,rfl,Br.d (λ h1=>?_) (λ h1=>?_)⟩
 ·have hh:Ze7 x.id l=true:=by
   rcases hi with ⟨rfl,_⟩|⟨k,rfl,hk,e,_⟩
   ·omega
   ·exact Zhk.2 ⟨_,List.getElem_mem hk,e⟩
  rw [show ZcL l x=(l,7) by unfold ZcL;rw [if_neg n0,if_pos hh]] at hK;exact hK w (hw.cons λ _ h=>h.drop)
 have hh:¬ Ze7 x.id l=true:=by
  rcases hi with ⟨_,h⟩|⟨k,rfl,_,_,_⟩
  ·rw [h];simp
  ·omega
 obtain ⟨s,hw⟩:=Sat.rqu.1 hw;have hlen:=Zs.len hw.swap;rw [List.length_map] at hlen;have hcap:=Zs.cap (by omega) hw.swap;refine Zc.mk rfl ⟨s,oA hw,Br.d (λ h2=>?_) (λ h2=>?_)⟩
 ·rw [show ZcL l x=(l,3) by unfold ZcL;rw [if_neg n0,if_neg hh,if_pos (by omega)]] at hK
  exact hK w (Sat.rqu.2 ⟨s,hw.cons λ _ h=>h.cons λ _ h=>h.drop⟩)
 rw [show ZcL l x=(ZgA x l,0) by unfold ZcL;rw [if_neg n0,if_neg hh,if_neg (by omega)]] at hK;have hw:Sat R (Zs 5 s waT (l.map wtV)::pts q (Zbw s)::wtD b x::Hs) w:=hw.swap;refine ⟨λ at6 w=>∃ k:Nat,at6=k/\k<=l.length/\ZgA x l=l.take k++x::l.drop k/\Sat R (Zs 5 s waT (l.map wtV)::pts q (Zbw s)::wtD b x::Hs) w,?_,?_⟩
 ·refine ⟨λ at6 w=>∃ k:Nat,at6=k/\k<=l.length/\(∀ i (hi:i<l.length),i<k->l[i].ahead x=true)/\Sat R (Zs 5 s waT (l.map wtV)::pts q (Zbw s)::wtD b x::Hs) w,λ at6 _=>l.length - at6.toNat,⟨0,rfl,by omega,λ i _ hi=>by omega,hw⟩,?_⟩
  clear hw;rintro _ _ w ⟨k,rfl,hk,hlt,hw⟩;refine Zo hw λ w hw=>?_;refine Zc.mk rfl ⟨s,oS,Br.d (λ h5=>?_) (λ h5=>⟨k,rfl,hk,Zkn hk hlt (λ h=>by omega),hw⟩)⟩;have hk2:k<l.length:=by omega
  refine Zc.mk rfl ⟨s,oS,?_⟩;refine (Zs.reads hw (S:=Sat R (Zs 5 s waT (l.map wtV)::pts q (Zbw s)::wtD b x::Hs)) (λ _ h=>h)).rngM (E:=l) (g:=wtV) hk2 λ a _ he=>?_;refine ⟨_,_,_,_,_,he.z (by exact ⟨rfl,rfl,rfl,rfl,rfl,trivial⟩),x.id,x.cls,x.many,x.time,x.sc,oS,?_⟩;refine (Zlp (a:=l[k]) (b:=x) hw).u λ w hw=>?_;refine ⟨_,rfl,hw,Br.mk (λ h6=>?_) (λ h6=>⟨k,rfl,hk,Zkn hk hlt (λ _=>h6),hw⟩)⟩;rw [Zf (x:=(k:Int) + 1)];refine ⟨⟨k + 1,by omega,by omega,λ i hi hik=>?_,hw⟩,by dsimp only;omega⟩;by_cases hik2:i=k
  ·subst hik2;exact h6
  ·exact hlt i hi (by omega)
 clear hw;rintro _ _ w ⟨k,rfl,hk,hins,hw⟩;obtain ⟨R',hro,⟨xh,hx⟩,hw,back⟩:=Zs.lend hw;have hml:(l.map wtV).length=l.length:=List.length_map ..;refine Za hw λ b5 w hw=>Zc.mk rfl ⟨s,oA hw,by omega,by omega,?_⟩;refine ZkQ (b:=b5) (ys:=(l.map wtV).take k) ZBY hw (ZvS ⟨_,underlying100⟩ hw (hro.take (h:=k) (by omega) s.cap) (Zue l k)) hro.wid.take (by rw [List.length_take];omega) (by rw [List.length_take];omega) λ s1 w hw=>?_;refine ⟨x.id,x.cls,x.many,x.time,x.sc,oA hw,?_⟩;refine Zgv (x:=wtV x) ZBY hw rfl rfl (by rw [List.length_take];omega) (by rw [List.length_take];omega) λ s2 w hw=>?_;refine Zc.mk rfl ⟨s,oA hw,by omega,by omega,?_⟩;have hsub:=hro.sub (l:=k) (h:=s.len) (m:=s.cap) (by omega) (by omega) (by omega);rw [List.take_of_length_le (show (l.map wtV).length<=s.len by omega)] at hsub;refine ZaR (ys:=(l.map wtV).drop k) ZBY hw (ZvS ⟨_,underlying100⟩ hw hsub (Zuf l k)) hro.wid.drop (by simp only [List.length_append,List.length_take,List.length_drop,List.length_singleton];omega) (by simp only [List.length_append,List.length_take,List.length_drop,List.length_singleton];omega) λ s3 w hw=>Zc.mk rfl ?_;have hw:=back hw;have hw:Sat R (pts q (Zbw s)::Zs 5 s3 waT ((l.map wtV).take k++[wtV x]++(l.map wtV).drop k)::Zs 5 s waT (l.map wtV)::wtD b x::Hs) w:=hw.arr;refine sRu hw λ w hw=>?_;have hw:=hw.re (pts q (Zbw s3));have e:(l.map wtV).take k++[wtV x]++(l.map wtV).drop k=(ZgA x l).map wtV:=by
  rw [hins,<-List.map_take,<-List.map_drop];simp
 rw [e] at hw;exact hK w (Sat.rqu.2 ⟨s3,hw.cons λ _ h=>h.cons λ _ h=>h.drop.drop⟩)
theorem Zps {q:Nat} {l:List Wt} (hlen:l.length<=1000) (hok:∀ x∈l,x.Ok) (hfls:∀ x∈l,x.sc<18446744073709551616) (hw:Sat R (ZaB q l::Hs) w):
  Zm prog 70 #[nP q] w λ v w'=>∃ t:Sl,v=.slice t.a t.len t.cap/\Sat R (Own t 5 (b8 (qB l))::ZaB q l::Hs) w':=by
 apply ZBf
 suffices H:∀ K:nK,(∀ (t:Sl) w',Sat R (Own t 5 (b8 (qB l))::ZaB q l::Hs) w'->K (.slice t.a t.len t.cap) w')->B70 (some ⟨q,0,none⟩) K w from H _ λ t w' h=>⟨t,rfl,h⟩
 intro K hK;obtain ⟨s,hw⟩:=Sat.rqu.1 hw;have hsl:=Zs.len hw.swap;rw [List.length_map] at hsl;refine Zc.mk rfl ⟨s,oA hw,?_⟩;rw [ZP];refine (ZgS (by omega) hw).u1 λ t0 w hw=>?_;refine ⟨t0,rfl,?_⟩;have e0:Zec s.len=Zl [(l.length:Int)]:=by rw [hsl];simp [Zl]
 rw [e0] at hw;refine ⟨λ t i w=>∃ k:Nat,i=k/\k<=l.length/\Sat R (Own t 5 (b8 (Zl [(l.length:Int)]++((l.take k).map wtB).flatten))::pts q (Zbw s)::Zs 5 s waT (l.map wtV)::Hs) w,
  λ _ i _=>l.length - i.toNat,⟨0,rfl,by omega,by simpa using hw⟩,?_⟩
 clear hw;rintro _ t _ w ⟨k,rfl,hk,hw⟩;refine Zc.mk rfl ⟨s,oA hw,Br.d (λ h=>?_) (λ h=>?_)⟩
 ·have hk2:k<l.length:=by omega
  have hx:=List.getElem_mem hk2;have hok1:=hok _ hx;have hfl:=hfls _ hx;have hu:=ZvP hok1 hfl;obtain ⟨h1,h2,h3,h4⟩:=id hok1;refine Zc.mk rfl ⟨s,oA hw,?_⟩;refine (Zs.readsM (n:=5) (s:=s) (T:=waT) (rows:=l.map wtV) hw (eqS hw)).rngM (E:=l) (g:=wtV) hk2 λ a _ he=>?_;refine ⟨_,_,_,_,_,he.z (by exact ⟨rfl,rfl,rfl,rfl,rfl,trivial⟩),?_⟩;refine Za hw λ b2 w hw=>?_;refine sRu hw λ w hw=>?_;have hw:=hw.re (wtD b2 l[k]);refine ZaV hw λ w hw=>?_;refine ⟨l[k].id,oS,l[k].cls,oS,l[k].many,oS,l[k].time,oS,l[k].sc,oS,?_⟩;refine (Zru hfl hw).u λ w hw=>?_;refine ⟨_,rfl,hw,?_⟩;rw [ZP (x:=l[k].id),ZP (x:=l[k].cls),ZP (x:=l[k].many),ZP (x:=l[k].time)];refine Za hw λ b5 w hw=>⟨hw.absorb,?_⟩;obtain ⟨us,hus⟩:∃ us,us=wtN l[k]:=⟨_,rfl⟩;have hul:us.length=5:=by rw [hus];rfl
  have hw:Sat R (pts b5 (.cells (us.map λ n=>Value.int .u64 (n:Nat)).toArray 141 (0,0))::wtD b2 l[k]::Own t 5 (b8 (Zl [(l.length:Int)]++((l.take k).map wtB).flatten))::pts q (Zbw s)::Zs 5 s waT (l.map wtV)::Hs) w:=by
   have e:([.int .u64 l[k].id,.int .u64 l[k].cls,.int .u64 l[k].many,.int .u64 l[k].time,.int .u64 ((ZmI l[k].sc:Nat):Int)]:List Value)=us.map λ n=>Value.int .u64 (n:Nat):=by
    subst hus;simp only [wtN,List.map_cons,List.map_nil,Int.toNat_of_nonneg h2.1,Int.toNat_of_nonneg h4.1,Int.toNat_of_nonneg (show 0<=l[k].id by omega),Int.toNat_of_nonneg (show 0<=l[k].many by omega)]
   rw [<-e];exact hw.cons λ _ h=>h.drop
  rw [<-hus] at hu;have hblen:=Zbo (l:=l.take k) (code:=wtB) (m:=45) λ w hw=>ZmK (hok w (List.mem_of_mem_take hw)) (hfls w (List.mem_of_mem_take hw));rw [List.length_take] at hblen;have h0:=Zu (x:=(l.length:Int)) (by omega);obtain ⟨bs,hbs⟩:∃ bs,bs=Zl [(l.length:Int)]++((l.take k).map wtB).flatten:=⟨_,rfl⟩;have hbl:bs.length<=100000:=by rw [hbs,List.length_append];omega
  rw [<-hbs] at hw;refine ⟨λ t i w=>∃ j:Nat,i=j/\j<=5/\Sat R (Own t 5 (b8 (bs++ZiB (us.take j)))::pts b5 (.cells (us.map λ n=>Value.int .u64 (n:Nat)).toArray 141 (0,0))::wtD b2 l[k]::pts q (Zbw s)::Zs 5 s waT (l.map wtV)::Hs) w,
   λ _ i _=>5 - i.toNat,⟨0,rfl,by omega,?_⟩,?_⟩
  ·have hw:Sat R (Own t 5 (b8 bs)::pts b5 (.cells (us.map λ n=>Value.int .u64 (n:Nat)).toArray 141 (0,0))::wtD b2 l[k]::pts q (Zbw s)::Zs 5 s waT (l.map wtV)::Hs) w:=hw.arr
   simpa [ZiB] using hw
  clear hw;rintro _ t _ w ⟨j,rfl,hj,hw⟩;refine Br.d (λ hj5=>?_) (λ hj5=>?_)
  ·have hj2:j<us.length:=by omega
   have hul2:=ZlQ (l:=us.take j) λ x hx=>hu x (List.mem_of_mem_take hx);rw [List.length_take] at hul2;have huj:=hu _ (List.getElem_mem hj2);refine Rng.mk (by omega) (by omega) ⟨((us[j]:Nat):Int),?_,?_⟩
   ·have hjm:j<(us.map λ n=>Value.int .u64 (n:Nat)).length:=by rw [List.length_map];exact hj2
    have:=At.vals (b:=b5) (vs:=us.map λ n=>Value.int .u64 (n:Nat)) (eqS hw) hjm;rw [List.getElem_map] at this;exact this
   refine (ZgS huj hw).u1 λ t1 w hw=>?_;refine ⟨t1,rfl,?_⟩;have hnb:=Zbn huj;refine Zde ZqG (s:=t) (n:=1099511627790) underlying47 hw.swap (by rw [List.length_append];omega) (by omega) (by omega) λ s2 w hw=>?_;have hw:=hw.cons λ _ h=>h.drop;rw [Zf (x:=(j:Int) + 1)];refine ⟨⟨j + 1,by omega,by omega,?_⟩,by dsimp only;omega⟩;rw [Zi9 hj2,<-List.append_assoc];exact hw
  ·rw [List.take_of_length_le (by omega:us.length<=j),hus,<-ZAh,hbs,List.append_assoc,<-Zf6 hk2] at hw
   rw [Zf (x:=(k:Int) + 1)];exact ⟨⟨k + 1,by omega,by omega,hw.cons λ _ h=>h.drop.drop⟩,by dsimp only;omega⟩
 ·rw [List.take_of_length_le (by omega:l.length<=k)] at hw
  exact hK t w (hw.cons λ _ h=>Sat.rqu.2 ⟨s,h⟩)
end
end Go.Proofs.YtlplemdmegpoeaaGreatDoor

namespace Go.Proofs.YtlplemdmegpoeaaGreatDoor
section
open Go Go.VC Tryz
open Classical
variable {R:Cx} {Hs Rest:List HP} {w:World}
abbrev plT:TypeId:=107
abbrev rkT:TypeId:=125
def Zc1 (e:FE):List Value:=[.pointer (some ⟨e.1,0,none⟩),.pointer (some ⟨e.2.1,0,none⟩)]
def rkV (x:Bk):List Value:=[nI x.id,nI x.flt,nI x.cls,nI x.many,nI x.state,nI x.till]
abbrev rkC (b:Nat) (x:Bk):HP:=pts b (.cells (rkV x).toArray rkT (0,0))
def ZCV (e:FE):HP:=Zah [ZiF e.1 e.2.2.r,ZaB e.2.1 e.2.2.q]
def ZaW (fs:List FE):HP:=Zah (fs.map ZCV)
theorem Zhc {A C:List FE} {f q:Nat} {p:Pl}:Sat R (ZaW (A++(f,q,p)::C)::Hs) w↔Sat R (ZiF f p.r::ZaB q p.q::ZaW (A++C)::Hs) w:=by
 unfold ZaW;rw [List.map_append,List.map_cons,ZjL,List.map_append];exact Sat.star
abbrev Zbb (now next:Int) (sf sb:Sl):Obj:=.cells [nI now,nI next,.slice sf.a sf.len sf.cap,.slice sb.a sb.len sb.cap].toArray 46 (0,0)
abbrev RBO (p:Nat) (now next:Int) (L:List Bk) (sf sb:Sl) (fs:List FE) (Hs:List HP):List HP:=pts p (Zbb now next sf sb)::Zs 2 sf plT (fs.map Zc1)::Zs 6 sb rkT (L.map rkV)::ZaW fs::Hs
def Zc0 (p:Nat) (b:ZU):HP:=exs λ sf:Sl=>exs λ sb:Sl=>exs λ fs:List FE=>Zah [pur ((fs.map λ e=>e.2.2)=b.fl),pts p (Zbb b.now b.next sf sb),Zs 2 sf plT (fs.map Zc1),Zs 6 sb rkT (b.L.map rkV),ZaW fs]
theorem Sat.rbook {p:Nat} {b:ZU}:Sat R (Zc0 p b::Hs) w↔∃ sf sb fs,(fs.map λ e=>e.2.2)=b.fl/\Sat R (RBO p b.now b.next b.L sf sb fs Hs) w:=by
 unfold Zc0;simp only [Sat.exs];constructor
 ·rintro ⟨sf,sb,fs,h⟩
  obtain ⟨h1,h2⟩:=Sat.pur.1 (Sat.star.1 h);exact ⟨sf,sb,fs,h1,h2⟩
 ·rintro ⟨sf,sb,fs,h1,h2⟩
  exact ⟨sf,sb,fs,Sat.star.2 (Sat.pur.2 ⟨h1,h2⟩)⟩
theorem ZvZ {q:Nat} {r:RF} (hw:Sat R Hs w) [tk:ZqI (ZiF q r) Hs Rest]:At (λ w'=>w'=w) (Addr.add ⟨q,0,none⟩ 0) [nI r.num]:=by
 obtain ⟨sg,sl,s,ts,hl,hs⟩:=Sat.rf.1 (hw.perm tk.perm);have hs:=hs.take (pts q (ZK r sg sl s));rw [Zy];exact At.own (eqS hs) (by exact ⟨rfl,trivial⟩)
theorem Zvj {fs:List FE} {j:Nat} (hj:j<fs.length):∃ f q p,fs[j]=(f,q,p)/\fs=fs.take j++(f,q,p)::fs.drop (j + 1):=by
 refine ⟨fs[j].1,fs[j].2.1,fs[j].2.2,rfl,?_⟩;have h:=List.drop_eq_getElem_cons hj;have h2:=List.take_append_drop j fs;rw [h] at h2;exact h2.symm
theorem Zlv {p:Nat} {now next n:Int} {L:List Bk} {sf sb:Sl} {fs:List FE} (hl:fs.length<=1000000) (hw:Sat R (RBO p now next L sf sb fs Hs) w):
  Zm prog 58 #[nP p,nI n] w λ v w'=>(∃ i:Int,v=nI i/\((i=-1/\∀ e∈fs,e.2.2.n≠n)\/∃ k:Nat,i=k/\∃ hk:k<fs.length,fs[k].2.2.n=n))/\Sat R (RBO p now next L sf sb fs Hs) w':=by
 have hlen:=Zs.len (Sat.swap hw);rw [List.length_map] at hlen;apply ZBk;refine ⟨λ i w=>∃ j:Nat,i=j/\j<=fs.length/\(∀ e∈fs.take j,e.2.2.n≠n)/\Sat R (RBO p now next L sf sb fs Hs) w,λ i _=>fs.length - i.toNat,⟨0,rfl,by omega,by simp,hw⟩,?_⟩;clear hw;rintro _ _ w ⟨j,rfl,hj,hn,hw⟩;refine Zc.mk rfl ⟨sf,oA hw,Br.d (λ h=>?_) (λ h=>?_)⟩
 ·have hj2:j<fs.length:=by omega
  obtain ⟨f,q,pl,he,hsp⟩:=Zvj hj2;refine Zc.mk rfl ⟨sf,oA hw,?_⟩;refine (Zs.readsM (n:=2) (s:=sf) (T:=plT) (rows:=fs.map Zc1) hw (eqS hw)).rngM (E:=fs) (g:=Zc1) hj2 λ a _ hr=>?_;refine ⟨some ⟨f,0,none⟩,hr.zz (by rw [he];exact ⟨rfl,trivial⟩),Zc.mk rfl ⟨pl.r.num,?_,?_⟩⟩
  ·have h2:Sat R (ZaW fs::pts p (Zbb now next sf sb)::Zs 2 sf plT (fs.map Zc1)::Zs 6 sb rkT (L.map rkV)::Hs) w:=hw.arr
   rw [hsp] at h2;exact ZvZ (Zhc.1 h2)
  refine Br.e (λ h1=>⟨⟨j,rfl,.inr ⟨j,rfl,hj2,by rw [he];exact h1⟩⟩,hw⟩) (λ h1=>?_);rw [Zf];refine ⟨⟨j + 1,by omega,by omega,λ e hm=>?_,hw⟩,by dsimp only;omega⟩;rw [List.take_add_one,List.getElem?_eq_getElem hj2] at hm;rcases List.mem_append.1 hm with hm|hm
  ·exact hn e hm
  ·have hm2:e=fs[j]:=by simpa using hm
   rw [hm2,he];exact h1
 ·rw [List.take_of_length_le (by omega)] at hn
  exact ⟨⟨-1,rfl,.inl ⟨rfl,hn⟩⟩,hw⟩
theorem ZAM {fs:List FE} {k:Nat} (hk:k<fs.length):fs=fs.take k++(fs[k].1,fs[k].2.1,fs[k].2.2)::fs.drop (k + 1):=by
 have h:=List.drop_eq_getElem_cons hk;have h2:=List.take_append_drop k fs;rw [h] at h2;exact h2.symm
abbrev RBR (p:Nat) (now next:Int) (L:List Bk) (sf sb:Sl) (fs:List FE) (k:Nat) (Hs:List HP):List HP:=ZaW (fs.take k++fs.drop (k + 1))::pts p (Zbb now next sf sb)::Zs 2 sf plT (fs.map Zc1)::Zs 6 sb rkT (L.map rkV)::Hs
theorem RBO.fl {p:Nat} {now next:Int} {L:List Bk} {sf sb:Sl} {fs:List FE} {k:Nat} (hk:k<fs.length):Sat R (RBO p now next L sf sb fs Hs) w↔Sat R (ZiF fs[k].1 fs[k].2.2.r::ZaB fs[k].2.1 fs[k].2.2.q::RBR p now next L sf sb fs k Hs) w:=by
 have e:ZaW fs=ZaW (fs.take k++(fs[k].1,fs[k].2.1,fs[k].2.2)::fs.drop (k + 1)):=congrArg ZaW (ZAM hk);constructor
 ·intro hw
  have h2:Sat R (ZaW fs::pts p (Zbb now next sf sb)::Zs 2 sf plT (fs.map Zc1)::Zs 6 sb rkT (L.map rkV)::Hs) w:=Sat.arr (Hs:=RBO p now next L sf sb fs Hs) hw;rw [e] at h2;exact Zhc.1 h2
 ·intro hw
  have h2:=Zhc.2 hw;rw [<-e] at h2;exact Sat.arr (Hs:=ZaW fs::pts p (Zbb now next sf sb)::Zs 2 sf plT (fs.map Zc1)::Zs 6 sb rkT (L.map rkV)::Hs) h2
theorem Zwg {S:World->Prop} {p:Nat} {now next:Int} {L:List Bk} {sf sb:Sl} {fs:List FE} {k:Nat} (hS:∀ w,S w->Sat R (RBO p now next L sf sb fs Hs) w) (hk:k<fs.length):At S (Addr.add ⟨fs[k].1,0,none⟩ 0) [nI fs[k].2.2.n]:=
 λ w' hs i v hv=>(ZvZ (r:=fs[k].2.2.r) ((RBO.fl hk).1 (hS w' hs))) w' rfl i v hv
theorem RBO.lens {p:Nat} {now next:Int} {L:List Bk} {sf sb:Sl} {fs:List FE} (hw:Sat R (RBO p now next L sf sb fs Hs) w):sf.len=fs.length/\sb.len=L.length:=by
 have h1:=Zs.len (Sat.swap hw);have h2:Sat R (Zs 6 sb rkT (L.map rkV)::pts p (Zbb now next sf sb)::Zs 2 sf plT (fs.map Zc1)::ZaW fs::Hs) w:=Sat.arr (Hs:=RBO p now next L sf sb fs Hs) hw;have h3:=Zs.len h2;rw [List.length_map] at h1 h3;exact ⟨h1,h3⟩
theorem Zgm (a b:List Pl):things (a++b)=things a + things b:=by simp [things]
theorem ZiL (p:Pl):things [p]=p.r.L.length + p.q.length:=by simp [things]
theorem ZqW {fl:List Pl} {j:Nat}:things (fl.take j)<=things fl:=by
 have h:=Zgm (fl.take j) (fl.drop j);rw [List.take_append_drop] at h;omega
structure BkSm (b:ZU):Prop where
 good:∀ p∈b.fl,ZaM p.r
 qok:∀ p∈b.fl,QOk p.q
 few:b.fl.length<=8
 many:b.L.length<=300
structure RqI (r0:Rd) (k:Nat) (l:List Wt) (rd:Rd):Prop where
 pre:ZG Zd3 k r0=(l,rd)
 ids:Zo4 l
 ok:∀ w∈l,w.Ok
 fl:∀ w∈l,w.sc<18446744073709551616
 bytes:Zr rd.bs
theorem ZmX {r0 rd:Rd} {k:Nat} {l:List Wt} (h:RqI r0 k l rd):l.length=k:=by have:=Za8 Zd3 k r0;rw [h.pre] at this;exact this
theorem Zi5 {α:Type} {one:Rd->α × Rd} (h1:∀ r:Rd,r.bad=true->(one r).2.bad=true):∀ (n:Nat) {r:Rd},r.bad=true->(ZG one n r).2.bad=true
 |0,_,h=>h
 |n + 1,_,h=>Zi5 h1 n (h1 _ h)
theorem ZhK {α:Type} (one:Rd->α × Rd) (m:Nat):∀ (k:Nat) (r:Rd),(ZG one (k + m) r).2=(ZG one m (ZG one k r).2).2
 |0,r=>by rw [Nat.zero_add];rfl
 |k + 1,r=>by
  rw [show k + 1 + m=(k + m) + 1 by omega,Za3,Za3];exact ZhK one m k _
theorem ZtQ {r:Rd} (h:r.bad=true):ZF r=false:=by unfold ZF;rw [h];rfl
theorem ZCU {bs:List Int} {n k:Nat} {r0 rd:Rd} {l:List Wt} (hn:(Zb 200 ⟨bs,false⟩).1.toNat=n) (hr0:(Zb 200 ⟨bs,false⟩).2=r0) (h:RqI r0 k l rd) (hk:k<n) (hn2:n<=200) (hb:(Zd3 rd).2.bad=true\/(ZcL (Zao l) (Zd3 rd).1).2≠0):Zmp bs=none:=by
 unfold Zmp;rw [if_neg];rintro ⟨h1,h2⟩;have hs:=Zbr Zd3 k r0;rw [h.pre] at hs;dsimp only at hs;have hq:ZlK bs=ZG Zd3 n r0:=by unfold ZlK;rw [hn,hr0]
 have hadd:=Zgs Zd3 (n - (k + 1)) (k + 1) r0;have hadd2:=ZhK Zd3 (n - (k + 1)) (k + 1) r0;rw [show k + 1 + (n - (k + 1))=n by omega,hs] at hadd hadd2;dsimp only at hadd hadd2;rw [hq] at h1 h2;rcases hb with hb|hb
 ·rw [hadd2] at h1
  rw [ZtQ (Zi5 (λ r hr=>by rw [Zuh hr];exact hr) _ hb)] at h1;cases h1
 ·rw [hadd] at h2
  obtain ⟨a1,a2,_⟩:=h2.pre.last;refine hb ?_;have hl:=ZmX h;unfold ZcL;rw [if_neg (λ e=>e a1),if_neg (by rw [Znu.2 λ x hx=>a2 x (Zbx x|>.1 hx)];simp),if_neg (by rw [Zdy];omega)]
theorem ZwT {r0 rd:Rd} {k:Nat} {l:List Wt} (h:RqI r0 k l rd) (hb:(Zd3 rd).2.bad=false) (h0:(ZcL (Zao l) (Zd3 rd).1).2=0):RqI r0 (k + 1) (l++[(Zd3 rd).1]) (Zd3 rd).2/\(ZcL (Zao l) (Zd3 rd).1).1=Zao (l++[(Zd3 rd).1]):=by
 have hs:=Zbr Zd3 k r0;rw [h.pre] at hs;unfold ZcL at h0 ⊢;split at h0
 ·exact absurd h0 (by show ¬ (1:Int)=0;decide)
 rename_i c1;split at h0
 ·exact absurd h0 (by show ¬ (7:Int)=0;decide)
 rename_i c2;split at h0
 ·exact absurd h0 (by show ¬ (3:Int)=0;decide)
 rename_i c3;rw [if_neg c1,if_neg c2,if_neg c3];have c1:(Zd3 rd).1.Ok:=Classical.byContradiction c1;have c2:=Znu.1 (by simpa using c2);refine ⟨⟨hs,List.pairwise_append.2 ⟨h.ids,List.pairwise_singleton _ _,λ a ha b hb2=>?_⟩,λ w hw=>?_,λ w hw=>?_,ZqJ h.bytes⟩,(Znq _ _).symm⟩
 ·rw [List.mem_singleton.1 hb2]
  exact c2 a (Zbx a|>.2 ha)
 ·rcases List.mem_append.1 hw with hw|hw
  ·exact h.ok w hw
  ·rw [List.mem_singleton.1 hw];exact c1
 ·rcases List.mem_append.1 hw with hw|hw
  ·exact h.fl w hw
  ·rw [List.mem_singleton.1 hw];exact ZwF h.bytes
theorem ZAl {bs:List Int} {n:Nat} {r0 rd:Rd} {l:List Wt} (hb:Zr bs) (hn:(Zb 200 ⟨bs,false⟩).1.toNat=n) (hr0:(Zb 200 ⟨bs,false⟩).2=r0) (h:RqI r0 n l rd) (hn2:n<=200):
  (ZF rd=true->qB (Zao l)=bs->Zmp bs=some (Zao l)/\QOk (Zao l))/\(ZF rd=false->Zmp bs=none)/\(ZF rd=true->qB (Zao l)≠bs->Zmp bs=none):=by
 have hq:ZlK bs=(l,rd):=by unfold ZlK;rw [hn,hr0,h.pre]
 have hl:=ZmX h;have hst:=Zh4 h.ids;have in1:(Zao l).length<=200/\(∀ w∈Zao l,w.Ok)/\∀ w∈Zao l,w.sc<18446744073709551616:=⟨by rw [Zdy];omega,λ w hw=>h.ok w (Zbx w|>.1 hw),λ w hw=>h.fl w (Zbx w|>.1 hw)⟩;refine ⟨λ h1 h2=>?_,λ h1=>?_,λ h1 h2=>?_⟩
 ·have hc:=ZlJ hb (by rw [hq];exact h1)
  rw [hq] at hc;have e:Zao l=l:=ZAn in1 ⟨by omega,h.ok,h.fl⟩ (by rw [h2];exact hc);rw [e] at hst ⊢;refine ⟨?_,hst.1,hst.2,h.ok,h.fl,by omega⟩;unfold Zmp;rw [if_pos ⟨by rw [hq];exact h1,by rw [hq];exact ⟨hst.1,hst.2,h.ok⟩⟩,hq]
 ·unfold Zmp
  rw [if_neg];rintro ⟨h3,_⟩;rw [hq,h1] at h3;cases h3
 ·unfold Zmp
  rw [if_neg];rintro ⟨_,h3⟩;rw [hq] at h3;have hc:=ZlJ hb (by rw [hq];exact h1);rw [hq] at hc;exact h2 (by rw [Zmb h3.st];exact hc.symm)
theorem ZiV {s:Sl} {bs:List Int} (hb:Zr bs) (hl:bs.length<=1099511627776) (hs:SlR R.m s (b8 bs)) (hw:Sat R Hs w):
  Zm prog 145 #[.slice s.a s.len s.cap] w λ v w'=>(Zmp bs=none/\v=.tuple #[.pointer none,nI 6]/\Sat R Hs w')\/(∃ l q,Zmp bs=some l/\QOk l/\v=.tuple #[nP q,nI 0]/\Sat R (ZaB q l::Hs) w'):=by
 apply Zzu
 suffices H:∀ K:nK,(Zmp bs=none->∀ w',Sat R Hs w'->K (.tuple #[.pointer none,nI 6]) w')->(∀ l q w',Zmp bs=some l->QOk l->Sat R (ZaB q l::Hs) w'->K (.tuple #[nP q,nI 0]) w')->B145 s K w from
  H _ (λ e w' h=>.inl ⟨e,rfl,h⟩) λ l q w' e ok h=>.inr ⟨l,q,e,ok,rfl,h⟩
 intro K hK1 hK2;have v0:=Zn (most:=200) (rd:=⟨bs,false⟩) hb (by omega);have b0:Zr (Zb 200 ⟨bs,false⟩).2.bs:=Zd (rd:=⟨bs,false⟩) hb;obtain ⟨n,hn⟩:∃ n:Nat,(Zb 200 ⟨bs,false⟩).1.toNat=n:=⟨_,rfl⟩;obtain ⟨r0,hr0⟩:∃ r,(Zb 200 ⟨bs,false⟩).2=r:=⟨_,rfl⟩;have hn3:(Zb 200 ⟨bs,false⟩).1=(n:Int):=by omega
 have hn2:n<=200:=by omega
 refine Za hw λ b w hw=>?_;have hw:Sat R (pts b (Z4 s 0 false)::Hs) w:=hw;have hw:Sat R (ZB b s bs ⟨bs,false⟩::Hs) w:=Sat.rrd.2 ⟨0,⟨by omega,rfl⟩,hw⟩;refine (Zt hl hb hs hw).use ?_;clear hw;rintro _ w ⟨rfl,hw⟩;rw [hr0] at hw b0;rw [hn3];refine ⟨_,rfl,?_⟩;refine Za hw λ q w hw=>?_;have hw:Sat R (pts q (Zbw ⟨none,0,0⟩)::ZB b s bs r0::Hs) w:=hw;have hw:Sat R (ZaB q []::ZB b s bs r0::Hs) w:=Sat.rqu.2 ⟨⟨none,0,0⟩,Sat.swap (Zs.nil hw)⟩;refine ⟨λ i w=>∃ (k:Nat) (l:List Wt) (rd:Rd),i=k/\k<=n/\RqI r0 k l rd/\Sat R (ZB b s bs rd::ZaB q (Zao l)::Hs) w,λ i _=>n - i.toNat,⟨0,[],r0,rfl,by omega,⟨rfl,List.Pairwise.nil,λ _ h=>(by cases h),λ _ h=>(by cases h),b0⟩,hw.swap⟩,?_⟩;clear hw;rintro _ _ w ⟨k,l,rd,rfl,hk,hi,hw⟩;have hll:=ZmX hi;refine Br.d (λ h=>?_) (λ h=>?_)
 ·have hk2:k<n:=by omega
  have no:=ZCU hn hr0 hi hk2 hn2;have st:=ZwT hi;have y0:=hi.bytes;have y1:Zr (Zb 28629151 rd).2.bs:=Zd y0;have y2:Zr (Zb 7 (Zb 28629151 rd).2).2.bs:=Zd y1;have y3:Zr (Zb 600 (Zb 7 (Zb 28629151 rd).2).2).2.bs:=Zd y2;have y4:Zr (Zb 1099511627776 (Zb 600 (Zb 7 (Zb 28629151 rd).2).2).2).2.bs:=Zd y3;have z1:=Zn (most:=28629151) y0 (by omega);have z2:=Zn (most:=7) y1 (by omega);have z3:=Zn (most:=600) y2 (by omega);have z4:=Zn (most:=1099511627776) y3 (by omega);have z5:=Zn (most:=18446744073709551615) y4 (by omega);refine (Zt (most:=28629151) hl hb hs hw).use ?_;clear hw;rintro _ w ⟨rfl,hw⟩;refine ⟨_,rfl,?_⟩;refine (Zt (most:=7) hl hb hs hw).use ?_;clear hw;rintro _ w ⟨rfl,hw⟩;refine ⟨_,rfl,?_⟩;refine (Zt (most:=600) hl hb hs hw).use ?_;clear hw;rintro _ w ⟨rfl,hw⟩;refine ⟨_,rfl,?_⟩;refine (Zt (most:=1099511627776) hl hb hs hw).use ?_;clear hw;rintro _ w ⟨rfl,hw⟩;refine ⟨_,rfl,?_⟩;obtain ⟨x,hx⟩:∃ x,x=(Zd3 rd).1:=⟨_,rfl⟩;obtain ⟨rd2,hrd2⟩:∃ x,x=(Zd3 rd).2:=⟨_,rfl⟩;have x1:(Zb 28629151 rd).1=x.id:=by rw [hx];rfl
  have x2:(Zb 7 (Zb 28629151 rd).2).1=x.cls:=by rw [hx];rfl
  have x3:(Zb 600 (Zb 7 (Zb 28629151 rd).2).2).1=x.many:=by rw [hx];rfl
  have x4:(Zb 1099511627776 (Zb 600 (Zb 7 (Zb 28629151 rd).2).2).2).1=x.time:=by rw [hx];rfl
  have x5:ofF (Zb 18446744073709551615 (Zb 1099511627776 (Zb 600 (Zb 7 (Zb 28629151 rd).2).2).2).2).1.toNat=x.sc:=by rw [hx];rfl
  have x6:(Zb 18446744073709551615 (Zb 1099511627776 (Zb 600 (Zb 7 (Zb 28629151 rd).2).2).2).2).2=rd2:=by rw [hrd2];rfl
  rw [x1] at z1;rw [x2] at z2;rw [x3] at z3;rw [x4] at z4;rw [x1,x2,x3,x4];refine Za hw λ bw w hw=>?_;refine sRu hw λ w hw=>?_;rw [Zf (x:=x.id),Zf (x:=x.cls),Zf (x:=x.many),Zf (x:=x.time)] at hw;have hw:=hw.re (wtD bw { x with sc:=0 });refine (Zt (most:=18446744073709551615) hl hb hs hw.swap).use ?_;clear hw;rintro _ w ⟨rfl,hw⟩;rw [x6] at hw;refine ⟨_,rfl,?_⟩;obtain ⟨m,hm⟩:∃ m:Nat,(Zb 18446744073709551615 (Zb 1099511627776 (Zb 600 (Zb 7 (Zb 28629151 rd).2).2).2).2).1=m:=⟨_,(Int.toNat_of_nonneg z5.1).symm⟩;rw [hm] at x5 z5 ⊢;rw [Int.toNat_natCast] at x5;refine (Zux (by omega) hw).use ?_;clear hw;rintro _ w ⟨rfl,hw⟩;rw [x5];refine ⟨_,rfl,?_⟩;have hw:=hw.swap;refine ZZ hw (by kernel_rfl) rfl (by simp [Value.cells,wtV]) λ w hw=>?_;have hw:=hw.re (wtD bw x);refine ⟨x.id,x.cls,x.many,x.time,x.sc,oA hw,?_⟩;have hw:Sat R (ZaB q (Zao l)::wtD bw x::ZB b s bs rd2::Hs) w:=hw.arr;refine (Zpt (by rw [Zdy];omega) hw).use ?_;clear hw;rintro _ w ⟨rfl,hw⟩;rw [<-hx,<-hrd2] at no st;generalize ZcL (Zao l) x=Z at *;refine ⟨_,rfl,?_⟩;have hw:Sat R (ZB b s bs rd2::ZaB q Z.1::wtD bw x::Hs) w:=hw.arr;obtain ⟨nn,hnn,hw2⟩:=Sat.rrd.1 hw;refine ⟨rd2.bad,At.own (eqS hw2) (by exact ⟨rfl,trivial⟩),Br.mk (λ hbd=>?_) (λ hbd=>Br.ne (λ h0=>?_) (λ h0=>?_))⟩
  ·exact hK1 (no (.inl hbd)) _ hw.drop.drop.drop
  ·exact hK1 (no (.inr h0)) _ hw.drop.drop.drop
  ·obtain ⟨s1,s2⟩:=st hbd h0
   rw [ZP];rw [s2] at hw;have hw3:Sat R (wtD bw x::ZB b s bs rd2::ZaB q (Zao (l++[x]))::Hs) w:=hw.arr;exact ⟨⟨k + 1,_,_,by omega,by omega,s1,hw3.drop⟩,by dsimp only;omega⟩
 ·have hk2:k=n:=by omega
  subst hk2;obtain ⟨n1,n2,n3⟩:=ZAl hb hn hr0 hi hn2;refine (Zbv hs hw).use ?_;clear hw;rintro _ w ⟨rfl,hw⟩;have hw:=hw.drop;refine ⟨_,rfl,?_⟩;have hro:Ro R s (b8 bs):=hs.ro;refine ZC (Sat R [ZaB q (Zao l),VC.tru]) hw (λ w hw=>hw.restTru2) λ w hw=>Br.nb (λ hwh=>?_) (λ hwh=>?_)
  ·exact hK1 (n2 hwh) _ hw.drop
  refine ⟨VC.strOf bs,λ w' hs=>Zdc u8s underlying5 underlying9 hs hro,?_⟩;refine (Zps (by rw [Zdy];omega) (λ w hw=>hi.ok w (Zbx w|>.1 hw)) (λ w hw=>hi.fl w (Zbx w|>.1 hw)) hw).use ?_;clear hw;rintro _ w ⟨t,rfl,hw⟩;have hqok:QOk (Zao l):=⟨(Zh4 hi.ids).1,(Zh4 hi.ids).2,λ w hw=>hi.ok w (Zbx w|>.1 hw),λ w hw=>hi.fl w (Zbx w|>.1 hw),by rw [Zdy];omega⟩;have hql:=ZlL hqok;refine ⟨t,rfl,hw.drop.restTru2,VC.strOf (qB (Zao l)),ZkI (t:=t) (T:=5) (bs:=qB (Zao l)) (by omega) hw,?_⟩;refine Br.sne (λ h1=>?_) (λ h1=>?_)
  ·exact hK1 (n3 hwh (λ e=>h1 (by rw [e]))) _ hw.drop.drop
  ·have e:qB (Zao l)=bs:=by
    rw [<-Zeq hb,<-h1,Zeq (Ztz hqok)]
   obtain ⟨a1,a2⟩:=n1 hwh e;exact hK2 _ _ _ a1 a2 hw.drop
theorem ZC5 {q:List Wt} {x:Bk} {n:Nat} {k:Nat} (hq:Zo4 q) (hk:k<q.length) (hid:q[k].id=x.id):((∃ w∈q,w.id=x.id/\w.cls=x.cls/\w.many=x.many)/\x.cls<n)↔(q[k].cls=x.cls/\q[k].many=x.many/\x.cls<n):=by
 constructor
 ·rintro ⟨⟨y,hy,e1,e2,e3⟩,h⟩
  obtain ⟨i,hi,rfl⟩:=List.getElem_of_mem hy;have:i=k:=by
   rcases Nat.lt_trichotomy i k with h1|h1|h1
   ·exact absurd (e1.trans hid.symm) (List.pairwise_iff_getElem.1 hq i k hi hk h1)
   ·exact h1
   ·exact absurd (hid.trans e1.symm) (List.pairwise_iff_getElem.1 hq k i hk hi h1)
  subst this;exact ⟨e2,e3,h⟩
 ·rintro ⟨e2,e3,h⟩
  exact ⟨⟨_,List.getElem_mem hk,hid,e2,e3⟩,h⟩
theorem ZC6 {L:List ZI} {x:Bk} {k:Nat} (hq:L.Pairwise λ a b=>a.owner<b.owner) (hk:k<L.length) (hid:L[k].owner=x.id):(∃ h∈L,h.owner=x.id/\h.cls=x.cls/\h.many=x.many)↔(L[k].cls=x.cls/\L[k].many=x.many):=by
 constructor
 ·rintro ⟨y,hy,e1,e2,e3⟩
  obtain ⟨i,hi,rfl⟩:=List.getElem_of_mem hy;have:i=k:=by
   rcases Nat.lt_trichotomy i k with h1|h1|h1
   ·have:=List.pairwise_iff_getElem.1 hq i k hi hk h1
    omega
   ·exact h1
   ·have:=List.pairwise_iff_getElem.1 hq k i hk hi h1
    omega
  subst this;exact ⟨e2,e3⟩
 ·rintro ⟨e2,e3⟩
  exact ⟨_,List.getElem_mem hk,hid,e2,e3⟩
theorem Zpv {f q:Nat} {p:Pl} {x:Bk} (g:ZaM p.r) (hq:Zo4 p.q) (hlq:p.q.length<=1000) (hlr:p.r.L.length<=1000000) (hw:Sat R (ZiF f p.r::ZaB q p.q::Hs) w):
  Zm prog 221 #[.agg (Zc1 (f,q,p)).toArray,.agg (rkV x).toArray] w λ v w'=>v=.bool (decide (ZiG p x))/\Sat R (ZiF f p.r::ZaB q p.q::Hs) w':=by
 apply ZyG
 suffices H:∀ K:nK,(∀ b w',(b=true↔ZiG p x)->Sat R (ZiF f p.r::ZaB q p.q::Hs) w'->K (.bool b) w')->B221 (some ⟨f,0,none⟩) (some ⟨q,0,none⟩) x.id x.flt x.cls x.many x.state x.till K w from H _ λ b w' hb h=>⟨by rw [Value.bool.injEq,Bool.eq_iff_iff,hb,decide_eq_true_iff],h⟩
 intro K hK;obtain ⟨sg,sl,s,ts,R',e,hr,hw,back,hl⟩:=Sat.rfO hw;have hsl:=hr.len;have hll:sl.len=p.r.lims.length:=by have:=hr.lims.len;rwa [List.length_map] at this
 refine Za hw λ b2 w hw=>Za hw λ bx w hw=>?_;have hw:Sat R' (rkC bx x::pts b2 (.cells (Zc1 (f,q,p)).toArray plT (0,0))::pts f (ZK p.r sg sl s)::ZaB q p.q::Hs) w:=hw;have fin:∀ {b:Bool} {w:World},(b=true↔ZiG p x)->Sat R' (rkC bx x::pts b2 (.cells (Zc1 (f,q,p)).toArray plT (0,0))::pts f (ZK p.r sg sl s)::ZaB q p.q::Hs) w->K (.bool b) w:=λ hb hw=>
  hK _ _ hb (Sat.rf.2 ⟨sg,sl,s,ts,hl,back _ _ hw.drop.drop⟩)
 refine ⟨x.state,oA hw,Br.e (λ h3=>?_) (λ h3=>?_)⟩
 ·have hdef:ZiG p x↔((∃ w∈p.q,w.id=x.id/\w.cls=x.cls/\w.many=x.many)/\x.cls<p.r.lims.length):=by unfold ZiG;rw [if_pos h3]
  refine ⟨λ i w=>∃ j:Nat,i=j/\j<=p.q.length/\(∀ k (hk:k<p.q.length),k<j->p.q[k].id≠x.id)/\Sat R' (rkC bx x::pts b2 (.cells (Zc1 (f,q,p)).toArray plT (0,0))::pts f (ZK p.r sg sl s)::ZaB q p.q::Hs) w,λ i _=>p.q.length - i.toNat,⟨0,rfl,by omega,λ k _ h=>by omega,hw⟩,?_⟩;clear hw;rintro _ _ w ⟨j,rfl,hj,hno,hw⟩;have hw:Sat R' (ZaB q p.q::rkC bx x::pts b2 (.cells (Zc1 (f,q,p)).toArray plT (0,0))::pts f (ZK p.r sg sl s)::Hs) w:=hw.arr;obtain ⟨sq,hw⟩:=Sat.rqu.1 hw;have hlen:=Zs.len hw.swap;rw [List.length_map] at hlen;have re:∀ {w:World} {A:List HP},Sat R' (pts q (Zbw sq)::Zs 5 sq waT (p.q.map wtV)::A) w->Sat R' (ZaB q p.q::A) w:=λ h=>Sat.rqu.2 ⟨sq,h⟩;refine ⟨some ⟨q,0,none⟩,oA hw,Zc.mk rfl ⟨sq,oA hw,Br.d (λ hlt=>?_) (λ hlt=>?_)⟩⟩
  rotate_left
  ·have hw:=re hw
   have hw:Sat R' (rkC bx x::pts b2 (.cells (Zc1 (f,q,p)).toArray plT (0,0))::pts f (ZK p.r sg sl s)::ZaB q p.q::Hs) w:=hw.arr;refine fin ⟨λ h=>(by cases h),λ h=>?_⟩ hw;obtain ⟨⟨y,hy,e1,_⟩,_⟩:=hdef.1 h;obtain ⟨k,hk,rfl⟩:=List.getElem_of_mem hy;exact absurd e1 (hno k hk (by omega))
  have hj2:j<p.q.length:=by omega
  refine ⟨some ⟨q,0,none⟩,oA hw,Zc.mk rfl ⟨sq,oA hw,?_⟩⟩;refine (Zs.readsM (n:=5) (s:=sq) (T:=waT) (rows:=p.q.map wtV) hw (eqS hw)).rngM (E:=p.q) (g:=wtV) hj2 λ a _ he=>?_;refine ⟨_,_,_,_,_,he.z (by exact ⟨rfl,rfl,rfl,rfl,rfl,trivial⟩),?_⟩;refine Za hw λ bw w hw=>?_;refine sRu hw λ w hw=>?_;have hw:=hw.re (wtD bw p.q[j]);have out:∀ {w:World},Sat R' (wtD bw p.q[j]::pts q (Zbw sq)::Zs 5 sq waT (p.q.map wtV)::rkC bx x::pts b2 (.cells (Zc1 (f,q,p)).toArray plT (0,0))::pts f (ZK p.r sg sl s)::Hs) w->Sat R' (rkC bx x::pts b2 (.cells (Zc1 (f,q,p)).toArray plT (0,0))::pts f (ZK p.r sg sl s)::ZaB q p.q::Hs) w:=λ hw=>by
   have hw:=re hw.drop;exact hw.arr
  have hw:Sat R' (wtD bw p.q[j]::pts q (Zbw sq)::Zs 5 sq waT (p.q.map wtV)::rkC bx x::pts b2 (.cells (Zc1 (f,q,p)).toArray plT (0,0))::pts f (ZK p.r sg sl s)::Hs) w:=hw.arr;refine ⟨p.q[j].id,oA hw,x.id,oA hw,Br.e (λ h1=>?_) (λ h1=>?_)⟩
  ·have hd:=hdef.trans (ZC5 hq hj2 h1)
   refine Zo hw λ w hw=>?_;refine ⟨p.q[j].cls,oS,x.cls,oS,Br.e (λ c1=>?_) (λ c1=>fin ⟨λ h=>(by cases h),λ h=>absurd (hd.1 h).1 c1⟩ (out hw))⟩;refine ⟨p.q[j].many,oS,x.many,oS,Br.e (λ c2=>?_) (λ c2=>fin ⟨λ h=>(by cases h),λ h=>absurd (hd.1 h).2.1 c2⟩ (out hw))⟩;refine ⟨x.cls,oS,some ⟨f,0,none⟩,oS,Zc.mk rfl ⟨sl,oS,?_⟩⟩;rw [hll];exact fin ⟨λ h=>hd.2 ⟨c1,c2,of_decide_eq_true h⟩,λ h=>decide_eq_true (hd.1 h).2.2⟩ (out hw)
  ·rw [Zf]
   refine ⟨⟨j + 1,by omega,by omega,λ k hk hkj=>?_,out hw⟩,by dsimp only;omega⟩;by_cases e2:k=j
   ·subst e2;exact h1
   ·exact hno k hk (by omega)
 ·have hdef:ZiG p x↔(∃ h∈p.r.L,h.owner=x.id/\h.cls=x.cls/\h.many=x.many):=by unfold ZiG;rw [if_neg h3]
  refine ⟨λ i w=>∃ j:Nat,i=j/\j<=p.r.L.length/\(∀ k (hk:k<p.r.L.length),k<j->p.r.L[k].owner≠x.id)/\Sat R' (rkC bx x::pts b2 (.cells (Zc1 (f,q,p)).toArray plT (0,0))::pts f (ZK p.r sg sl s)::ZaB q p.q::Hs) w,λ i _=>p.r.L.length - i.toNat,⟨0,rfl,by omega,λ k _ h=>by omega,hw⟩,?_⟩;clear hw;rintro _ _ w ⟨j,rfl,hj,hno,hw⟩;refine ⟨some ⟨f,0,none⟩,oA hw,Zc.mk rfl ⟨s,oA hw,Br.d (λ hlt=>?_) (λ hlt=>?_)⟩⟩
  rotate_left
  ·refine fin ⟨λ h=>(by cases h),λ h=>?_⟩ hw
   obtain ⟨y,hy,e1,_⟩:=hdef.1 h;obtain ⟨k,hk,rfl⟩:=List.getElem_of_mem hy;exact absurd e1 (hno k hk (by omega))
  have hj2:j<p.r.L.length:=by omega
  refine ⟨some ⟨f,0,none⟩,oA hw,Zc.mk rfl ⟨s,oA hw,?_⟩⟩;refine hr.hs.row (eqS hw) hj2 (by omega) λ a he=>?_;refine ⟨p.r.L[j].owner,p.r.L[j].cls,p.r.L[j].many,ts[j]'(by omega),he,?_⟩;refine Za hw λ bh w hw=>?_;refine sRu hw λ w hw=>?_;have hw:=hw.re (pts bh (.cells (ZkV p.r.L[j] (ts[j]'(by omega))).toArray 197 (0,0)));refine ⟨p.r.L[j].owner,oA hw,x.id,oA hw,Br.e (λ h1=>?_) (λ h1=>?_)⟩
  ·have hd:=hdef.trans (ZC6 g.rise hj2 h1)
   refine ⟨p.r.L[j].cls,oA hw,x.cls,oA hw,Br.e (λ c1=>?_) (λ c1=>fin ⟨λ h=>(by cases h),λ h=>absurd (hd.1 h).1 c1⟩ hw.drop)⟩;refine ⟨p.r.L[j].many,oA hw,x.many,oA hw,?_⟩;exact fin ⟨λ h=>hd.2 ⟨c1,by simpa using h⟩,λ h=>by simpa using (hd.1 h).2⟩ hw.drop
  ·rw [Zf]
   refine ⟨⟨j + 1,by omega,by omega,λ k hk hkj=>?_,hw.drop⟩,by dsimp only;omega⟩;by_cases e2:k=j
   ·subst e2;exact h1
   ·exact hno k hk (by omega)
theorem ZfW {α:Type} {f:α->Int} {l:List α} {j:Nat} (hj:j<l.length) (h:ZaO f (l.take j)) (h2:0<j->f (l[j - 1]'(by omega))<f l[j]):ZaO f (l.take (j + 1)):=by
 refine List.pairwise_iff_getElem.2 λ a c ha hc hac=>?_;rw [List.length_take] at ha hc;rw [List.getElem_take,List.getElem_take];have old:∀ {a c:Nat} (hc:c<j) (hac:a<c),f (l[a]'(by omega))<f (l[c]'(by omega)):=λ {a c} hc hac=>by
  have:=List.pairwise_iff_getElem.1 h a c (by rw [List.length_take];omega) (by rw [List.length_take];omega) hac;rwa [List.getElem_take,List.getElem_take] at this
 by_cases hcj:c=j
 ·subst hcj
  have h3:=h2 (by omega);by_cases haj:a=c - 1
  ·subst haj;exact h3
  ·have:=old (a:=a) (c:=c - 1) (by omega) (by omega)
   omega
 ·exact old (by omega) hac
theorem Zox {α:Type} {f:α->Int} {l:List α} {j:Nat} (hj:j<l.length) (h0:0<j) (h:¬ f (l[j - 1]'(by omega))<f l[j]):¬ ZaO f l:=λ hr=>
 h (List.pairwise_iff_getElem.1 hr (j - 1) j (by omega) hj (by omega))
theorem Zpu {p:Nat} {b:ZU} (hs:BkSm b) (hw:Sat R (Zc0 p b::Hs) w):
  Zm prog 146 #[nP p] w λ v w'=>v=.bool (decide (ZAe b))/\Sat R (Zc0 p b::Hs) w':=by
 obtain ⟨sf,sb,fs,hfl,hw⟩:=Sat.rbook.1 hw;obtain ⟨hl1,hl2⟩:=RBO.lens hw;have hfn:fs.length=b.fl.length:=by rw [<-hfl,List.length_map]
 have hget:∀ {k:Nat} (hk:k<fs.length),fs[k].2.2∈b.fl:=λ hk=>by rw [<-hfl];exact List.mem_map.2 ⟨_,List.getElem_mem hk,rfl⟩
 have hix:∀ {k:Nat} (hk:k<fs.length),b.fl[k]'(by omega)=fs[k].2.2:=λ {k} hk=>by
  have:b.fl[k]? =some fs[k].2.2:=by rw [<-hfl,List.getElem?_map,List.getElem?_eq_getElem hk];rfl
  rw [List.getElem?_eq_getElem (by omega)] at this;exact Option.some.inj this
 have hfew:=hs.few;have hmany:=hs.many;have hsz:∀ j,things (b.fl.take j)<=10000000:=λ j=>by
  have h1:=ZqW (fl:=b.fl) (j:=j);have h2:∀ l:List Pl,(∀ p∈l,ZaM p.r/\QOk p.q)->things l<=1000000 * l.length:=λ l=>by
   induction l with
   |nil=>intro _;exact Nat.le_refl _
   |cons a l ih=>
    intro h;have i1:=ih λ p hp=>h p (List.mem_cons_of_mem _ hp);obtain ⟨g1,g2⟩:=h a List.mem_cons_self;have g3:=g1.len.1;have g4:=g2.len;have e:things (a::l)=things [a] + things l:=Zgm [a] l;rw [e,ZiL,List.length_cons];omega
  have h3:=h2 b.fl λ p hp=>⟨hs.good p hp,hs.qok p hp⟩;omega
 apply Zzt
 suffices H:∀ K:nK,(∀ v w',(v=true↔ZAe b)->Sat R (RBO p b.now b.next b.L sf sb fs Hs) w'->K (.bool v) w')->B146 (some ⟨p,0,none⟩) K w from
  H _ λ v w' hv h=>⟨by rw [Value.bool.injEq,Bool.eq_iff_iff,hv,decide_eq_true_iff],Sat.rbook.2 ⟨sf,sb,fs,hfl,h⟩⟩
 intro K hK;have no:∀ {w:World},¬ ZAe b->Sat R (RBO p b.now b.next b.L sf sb fs Hs) w->K (.bool false) w:=λ h hw=>hK false _ ⟨λ h=>(by cases h),λ h2=>absurd h2 h⟩ hw;refine Zc.mk rfl ⟨b.next,oA hw,Br.d (λ h1=>no (λ h=>by have:=h.next;omega) hw) (λ hn1=>?_)⟩;refine ⟨λ t i w=>∃ j:Nat,i=j/\j<=fs.length/\t=(things (b.fl.take j):Nat)/\ZaO Pl.n (b.fl.take j)/\Sat R (RBO p b.now b.next b.L sf sb fs Hs) w,λ _ i _=>fs.length - i.toNat,⟨0,rfl,by omega,rfl,List.Pairwise.nil,hw⟩,?_⟩;clear hw;rintro _ _ _ w ⟨j,rfl,hj,rfl,hr,hw⟩;refine Zc.mk rfl ⟨sf,oA hw,Br.d (λ h=>?_) (λ h=>?_)⟩
 ·have hj2:j<fs.length:=by omega
  refine ⟨λ w=>ZaO Pl.n (b.fl.take (j + 1))/\Sat R (RBO p b.now b.next b.L sf sb fs Hs) w,?_,?_⟩
  ·refine Zo hw λ w hw=>Br.d (λ h0=>?_) (λ h0=>⟨ZfW (by omega) hr (λ h=>by omega),hw⟩)
   refine Zc.mk rfl ⟨sf,oS,?_⟩;refine (Zs.readsM (n:=2) (s:=sf) (T:=plT) (rows:=fs.map Zc1) hw Zbg).rngM (E:=fs) (g:=Zc1) hj2 λ a _ hr=>?_;refine ⟨some ⟨fs[j].1,0,none⟩,hr.zz (by exact ⟨rfl,trivial⟩),Zc.mk rfl ⟨fs[j].2.2.n,Zwg Zbg hj2,?_⟩⟩;refine Zc.mk rfl ⟨sf,oS,?_⟩;rw [Zf (x:=(j:Int) - 1),show (j:Int) - 1=((j - 1:Nat):Int) by omega];have hj3:j - 1<fs.length:=by omega
   refine (Zs.readsM (n:=2) (s:=sf) (T:=plT) (rows:=fs.map Zc1) hw Zbg).rngM (E:=fs) (g:=Zc1) hj3 λ a _ hr2=>?_;refine ⟨some ⟨fs[j - 1].1,0,none⟩,hr2.zz (by exact ⟨rfl,trivial⟩),Zc.mk rfl ⟨fs[j - 1].2.2.n,Zwg Zbg hj3,Br.d (λ h2=>?_) (λ h2=>?_)⟩⟩
   ·exact no (λ hm=>Zox (j:=j) (by omega) (by omega) (by rw [hix hj2,hix hj3];omega) hm.nums) hw
   ·exact ⟨ZfW (by omega) (by assumption) (λ _=>by rw [hix hj2,hix hj3];omega),hw⟩
  clear hw;rintro _ w ⟨hr2,hw⟩;have hw:=(RBO.fl hj2).1 hw;have e1:b.fl.take (j + 1)=b.fl.take j++[fs[j].2.2]:=by
   have:b.fl[j]? =some fs[j].2.2:=by rw [<-hfl,List.getElem?_map,List.getElem?_eq_getElem hj2];rfl
   rw [List.take_add_one,this];rfl
  have e2:things (b.fl.take (j + 1))=things (b.fl.take j) + (fs[j].2.2.r.L.length + fs[j].2.2.q.length):=by rw [e1,Zgm,ZiL]
  have e3:=hsz (j + 1);have hop:=@RBO.fl R Hs;generalize hpl:fs[j]=pl at hw e2;obtain ⟨f,q,pl⟩:=pl;dsimp only at hw e2;obtain ⟨sg,sl,s,ts,hts,hw⟩:=Sat.rf.1 hw;have hw:Sat R (ZaB q pl.q::RO f pl.r sg sl s ts (RBR p b.now b.next b.L sf sb fs j Hs)) w:=hw.arr;obtain ⟨sq,hw⟩:=Sat.rqu.1 hw;have hlq:=Zs.len hw.swap;rw [List.length_map] at hlq;have hw:Sat R (Zs 4 s 197 (Zb9 pl.r.L ts)::pts f (ZK pl.r sg sl s)::pts q (Zbw sq)::Zs 5 sq waT (pl.q.map wtV)::Zz sg (Ze pl.r.grps)::Zz sl (Ze pl.r.lims)::Zbs pl.r.L ts::RBR p b.now b.next b.L sf sb fs j Hs) w:=hw.arr;have hls:=Zs.len hw;rw [ZcF hts] at hls;refine Zo hw λ w hw=>?_;refine Zc.mk rfl ⟨sf,oS,?_⟩;refine (Zs.readsM (n:=2) (s:=sf) (T:=plT) (rows:=fs.map Zc1) hw Zbg).rngM (E:=fs) (g:=Zc1) hj2 λ a _ hr=>?_;rw [hpl] at hr;refine ⟨some ⟨f,0,none⟩,hr.zz (by exact ⟨rfl,trivial⟩),Zc.mk rfl ⟨s,oS,?_⟩⟩;refine Zc.mk rfl ⟨sf,oS,?_⟩;refine (Zs.readsM (n:=2) (s:=sf) (T:=plT) (rows:=fs.map Zc1) hw Zbg).rngM (E:=fs) (g:=Zc1) hj2 λ a _ hr=>?_;rw [hpl] at hr;refine ⟨some ⟨q,0,none⟩,hr.f 1 (by exact ⟨rfl,trivial⟩),Zc.mk rfl ⟨sq,oS,?_⟩⟩;rw [hls,hlq,Zf (x:=(things (b.fl.take j):Int) + (pl.r.L.length:Int)) (by omega) (by omega),Zf (x:=(things (b.fl.take j):Int) + (pl.r.L.length:Int) + (pl.q.length:Int)) (by omega) (by omega),Zf (x:=(j:Int) + 1)];refine ⟨⟨j + 1,by omega,by omega,by rw [e2];omega,hr2,?_⟩,by dsimp only;omega⟩;have hw:Sat R (pts q (Zbw sq)::Zs 5 sq waT (pl.q.map wtV)::RO f pl.r sg sl s ts (RBR p b.now b.next b.L sf sb fs j Hs)) w:=hw.arr;have hw:Sat R (RO f pl.r sg sl s ts (ZaB q pl.q::RBR p b.now b.next b.L sf sb fs j Hs)) w:=(Sat.rqu.2 ⟨sq,hw⟩).arr;have hw:=Sat.rf.2 ⟨sg,sl,s,ts,hts,hw⟩;refine (RBO.fl hj2).2 ?_;rw [hpl];exact hw
 ·have hj2:j=b.fl.length:=by omega
  subst hj2;rw [List.take_length] at hr;rw [List.take_length];refine ⟨λ i w=>∃ j:Nat,i=j/\j<=b.L.length/\ZaO Bk.id (b.L.take j)/\(∀ x∈b.L.take j,Zz4 b x)/\Sat R (RBO p b.now b.next b.L sf sb fs Hs) w,λ i _=>b.L.length - i.toNat,⟨0,rfl,by omega,List.Pairwise.nil,λ _ h=>(by cases h),hw⟩,?_⟩;clear hw h hj;rintro _ _ w ⟨i,rfl,hi,hri,hma,hw⟩;refine Zc.mk rfl ⟨sb,oA hw,Br.d (λ h=>?_) (λ h=>?_)⟩
  ·have hi2:i<b.L.length:=by omega
   refine Zc.mk rfl ⟨sb,oA hw,?_⟩;refine (Zs.readsM (n:=6) (s:=sb) (T:=rkT) (rows:=b.L.map rkV) hw (eqS hw)).rngM (E:=b.L) (g:=rkV) hi2 λ a _ he2=>?_;refine ⟨_,_,_,_,_,_,he2.z (by exact ⟨rfl,rfl,rfl,rfl,rfl,rfl,trivial⟩),?_⟩;refine Za hw λ bx w hw=>?_;refine sRu hw λ w hw=>?_;have hw:=hw.re (rkC bx b.L[i]);obtain ⟨x,hxe⟩:∃ x,x=b.L[i]:=⟨_,rfl⟩;have hxm:x∈b.L:=by rw [hxe];exact List.getElem_mem hi2
   rw [<-hxe] at hw;have hw:Sat R (RBO p b.now b.next b.L sf sb fs (rkC bx x::Hs)) w:=hw.arr;refine ⟨x.flt,oA hw,?_⟩;refine (Zlv (n:=x.flt) (by omega) hw).use ?_;clear hw;rintro _ w ⟨⟨fi,rfl,hfi⟩,hw⟩;have hw:Sat R (rkC bx x::RBO p b.now b.next b.L sf sb fs Hs) w:=hw.arr;have nox:∀ {w:World},¬ Zz4 b x->Sat R (rkC bx x::RBO p b.now b.next b.L sf sb fs Hs) w->K (.bool false) w:=λ h hw=>no (λ hm=>h (hm.each x hxm)) hw.drop;refine ⟨fi,rfl,λ w=>(1<=x.id/\x.id<b.next/\ZaO Bk.id (b.L.take (i + 1))/\1<=x.state/\0<=fi)/\Sat R (rkC bx x::RBO p b.now b.next b.L sf sb fs Hs) w,?_,?_⟩
   ·refine Zo hw λ w hw=>?_
    have tail:ZaO Bk.id (b.L.take (i + 1))->1<=x.id->x.id<b.next->Br (decide (fi<0)) (K (.bool false) w) (∃ t,At (Sat R (rkC bx x::RBO p b.now b.next b.L sf sb fs Hs)) ⟨bx,0 + 4,none⟩ [nI t]/\Br (decide (t<1)) (K (.bool false) w) ((1<=x.id/\x.id<b.next/\ZaO Bk.id (b.L.take (i + 1))/\1<=x.state/\0<=fi)/\Sat R (rkC bx x::RBO p b.now b.next b.L sf sb fs Hs) w)):=λ k1 k2 k3=>by
     refine Br.d (λ c4=>nox (λ hm=>?_) hw) (λ c4=>⟨x.state,oS,Br.d (λ c5=>nox (λ hm=>by have:=hm.state;omega) hw) (λ c5=>⟨⟨k2,k3,k1,by omega,by omega⟩,hw⟩)⟩);rcases hfi with ⟨_,h0⟩|⟨k,rfl,_⟩
     ·obtain ⟨pl,hpl,_⟩:=hm.has
      obtain ⟨hp1,hp2⟩:=Zax hpl;rw [<-hfl] at hp1;obtain ⟨e,he,rfl⟩:=List.mem_map.1 hp1;exact h0 e he hp2
     ·omega
    refine ⟨x.id,oS,Br.d (λ c1=>nox (λ hm=>by have:=hm.id;omega) hw) (λ c1=>⟨x.id,oS,Zc.mk rfl ⟨b.next,oS,Br.d (λ c2=>nox (λ hm=>by have:=hm.id;omega) hw) (λ c2=>Br.d (λ h0=>?_) (λ h0=>?_))⟩⟩)⟩
    ·refine ⟨x.id,oS,Zc.mk rfl ⟨sb,oS,?_⟩⟩
     rw [Zf (x:=(i:Int) - 1),show (i:Int) - 1=((i - 1:Nat):Int) by omega];have hi3:i - 1<b.L.length:=by omega
     refine (Zs.readsM (n:=6) (s:=sb) (T:=rkT) (rows:=b.L.map rkV) hw Zbg).rngM (E:=b.L) (g:=rkV) hi3 λ a _ hr=>?_;refine ⟨b.L[i - 1].id,hr.zz (by exact ⟨rfl,trivial⟩),Br.d (λ c3=>?_) (λ c3=>?_)⟩
     ·exact no (λ hm=>Zox (j:=i) hi2 (by omega) (by rw [<-hxe];omega) hm.ids) hw.drop
     ·exact tail (ZfW hi2 hri (λ _=>by rw [<-hxe];omega)) (by omega) (by omega)
    ·exact tail (ZfW hi2 hri (λ h=>by omega)) (by omega) (by omega)
   clear hw;rintro _ w ⟨⟨c1,c2,c3,c4,c5⟩,hw⟩;obtain ⟨k,rfl,hk,hkn⟩:∃ k:Nat,fi=k/\∃ hk:k<fs.length,fs[k].2.2.n=x.flt:=by
    rcases hfi with ⟨h0,_⟩|h0
    ·omega
    ·exact h0
   have hat:b.at x.flt=some fs[k].2.2:=(Zhi hr).2 ⟨hget hk,hkn⟩;refine ⟨λ w=>((x.state=1->b.now<x.till)/\(x.state≠1->x.till=0))/\Sat R (rkC bx x::RBO p b.now b.next b.L sf sb fs Hs) w,?_,?_⟩
   ·refine Zo hw λ w hw=>?_
    refine ⟨x.state,oS,Br.e (λ h1=>?_) (λ h1=>?_)⟩
    ·refine ⟨x.till,oS,Zc.mk rfl ⟨b.now,oS,Br.d (λ c6=>nox (λ hm=>by have:=hm.held h1;omega) hw) (λ c6=>⟨x.state,oS,Br.f (by simp [h1]) ⟨⟨λ _=>by omega,λ h=>absurd h1 h⟩,hw⟩⟩)⟩⟩
    ·exact ⟨x.state,oS,Br.t (by simp [h1]) ⟨x.till,oS,Br.ne (λ c6=>nox (λ hm=>c6 (hm.free h1)) hw) (λ c6=>⟨⟨λ h=>absurd h h1,λ _=>c6⟩,hw⟩)⟩⟩
   clear hw;rintro _ w ⟨⟨c6,c7⟩,hw⟩;refine Zo hw λ w hw=>?_;refine Zc.mk rfl ⟨sf,oS,?_⟩;refine (Zs.readsM (n:=2) (s:=sf) (T:=plT) (rows:=fs.map Zc1) hw Zbg).rngM (E:=fs) (g:=Zc1) hk λ a _ hr=>?_;refine ⟨some ⟨fs[k].1,0,none⟩,some ⟨fs[k].2.1,0,none⟩,hr.z (by exact ⟨rfl,rfl,trivial⟩),x.id,x.flt,x.cls,x.many,x.state,x.till,oS,?_⟩;have hw2:Sat R (RBO p b.now b.next b.L sf sb fs (rkC bx x::Hs)) w:=hw.arr;have hw2:=(RBO.fl hk).1 hw2;have hgp:=hs.good _ (hget hk);have hqp:=hs.qok _ (hget hk);refine (Zpv (x:=x) hgp hqp.ids (by have:=hqp.len;omega) (by have:=hgp.len.1;omega) hw2).use ?_;clear hw hw2;rintro _ w ⟨rfl,hw⟩;have hw:=(RBO.fl hk).2 hw;have hw:Sat R (rkC bx x::RBO p b.now b.next b.L sf sb fs Hs) w:=hw.arr;refine ⟨_,rfl,hw,Br.nd (λ h8=>?_) (λ h8=>?_)⟩
   ·refine nox (λ hm=>?_) hw
    obtain ⟨pl,hpl,hh⟩:=hm.has;rw [hat] at hpl;obtain rfl:=Option.some.inj hpl;exact h8 hh
   ·rw [Zf (x:=(i:Int) + 1)]
    refine ⟨⟨i + 1,by omega,by omega,c3,λ y hy=>?_,hw.drop⟩,by dsimp only;omega⟩;rw [List.take_add_one,List.getElem?_eq_getElem hi2,<-hxe] at hy;rcases List.mem_append.1 hy with hy|hy
    ·exact hma y hy
    ·have:y=x:=by simpa using hy
     rw [this];exact ⟨⟨c1,c2⟩,c4,c6,c7,_,hat,h8⟩
  ·have hi2:i=b.L.length:=by omega
   subst hi2;rw [List.take_length] at hri hma;refine Zc.mk rfl ⟨sb,oA hw,?_⟩;rw [hl2];refine hK _ _ ⟨λ h=>⟨by omega,hr,hri,hma,?_⟩,λ h=>?_⟩ hw
   ·have:=beq_iff_eq.1 h
    omega
   ·have:=h.things
    exact beq_iff_eq.2 (by omega)
theorem elPl:ElN prog 43 43 plT 2 16:=⟨underlying43,⟨_,underlying43⟩,by kernel_rfl⟩
theorem elRk:ElN prog 44 44 rkT 6 48:=⟨underlying44,⟨_,underlying44⟩,by kernel_rfl⟩
theorem Zlr {s:Sl} {bs:List Int} (hb:Zr bs) (hl:bs.length<=1099511627776) (hs:SlR R.m s (b8 bs)) (hw:Sat R Hs w):
  Zm prog 144 #[.slice s.a s.len s.cap] w λ v w'=>(Zvu bs=none/\v=.tuple #[.pointer none,nI 6]/\Sat R Hs w')\/
   (∃ r p,Zvu bs=some r/\ZaM r/\v=.tuple #[nP p,nI 0]/\Sat R (ZiF p r::Hs) w'):=by
 refine (ZjT hb hs hl hw).mono ?_;rintro v w' (⟨h,rfl,hw⟩|⟨h1,h2,p,rfl,hw⟩)
 ·exact .inl ⟨by unfold Zvu;rw [if_neg h],rfl,hw⟩
 ·have hd:Zvu bs=some (ZeC bs).rf:=by unfold Zvu;rw [if_pos ⟨h1,h2⟩]
  rcases ZxX hb with ⟨_,d2⟩|⟨f,_,_,_,_,d5⟩
  ·exact absurd ⟨h1,h2⟩ d2
  ·exact .inr ⟨_,p,hd,d5,rfl,hw⟩
theorem Zm1 {most:Int} {r:Rd} (h:(ZD most r).2.bad=true):(ZD most r).1=[]:=by
 unfold ZD at *;split
 ·rfl
 ·rename_i hr
  rw [if_neg hr] at h;split at h
  ·rename_i n neg k hp
   split at h
   ·cases h
   ·rename_i hc
    rw [if_neg hc]
  ·rfl
theorem Zvv:Zmp []=none:=by
 unfold Zmp;rw [if_neg];rintro ⟨h,_⟩;have e:ZlK []=([],⟨[],true⟩):=rfl;rw [e] at h;cases h
theorem ZAp {rd:Rd} (h:(ZfO rd).2.bad=true):(ZfO rd).1=none:=by
 have h2:(ZD 65536 (ZD 65536 rd).2).1=[]:=Zm1 h;show Zmq _ _=none;unfold Zmq;rw [h2,Zvv];cases Zvu (ZD 65536 rd).1<;>rfl
structure RlI (n:Nat) (r0:Rd) (j:Nat) (rd:Rd) (pls:List Pl) (fs:List FE):Prop where
 pre:Zt9 n r0 j rd pls
 ok:∀ p∈pls,ZaM p.r/\QOk p.q
 fl:fs.map (λ e=>e.2.2)=pls
 bytes:Zr rd.bs
 len:rd.bs.length<=1099511627776
 few:pls.length=j
theorem ZjX {s:Sl} {bs:List Int} (hb:Zr bs) (hl:bs.length<=1099511627776) (hs:SlR R.m s (b8 bs)) (hw:Sat R Hs w):
  Zm prog 79 #[.slice s.a s.len s.cap] w λ v w'=>(ZeZ bs=none/\v=.tuple #[.pointer none,nI 6]/\Sat R Hs w')\/
   (∃ b p,ZeZ bs=some b/\v=.tuple #[nP p,nI 0]/\Sat R (Zc0 p b::Hs) w'):=by
 apply ZA6
 suffices H:∀ K:nK,(ZeZ bs=none->∀ w',Sat R Hs w'->K (.tuple #[.pointer none,nI 6]) w')->(∀ b p w',ZeZ bs=some b->Sat R (Zc0 p b::Hs) w'->K (.tuple #[nP p,nI 0]) w')->B79 s K w from
  H _ (λ e w' h=>.inl ⟨e,rfl,h⟩) λ b p w' e h=>.inr ⟨b,p,e,rfl,h⟩
 intro K hK1 hK2;have v1:0<=(Zh1 bs).1/\(Zh1 bs).1<=1099511627776:=Zn hb (by omega);have hb1:Zr (Zh1 bs).2.bs:=Zd hb;have l1:(Zh1 bs).2.bs.length<=1099511627776:=Nat.le_trans Zal hl;have v2:0<=(ZcR bs).1/\(ZcR bs).1<=28629151:=Zn hb1 (by omega);have hb2:Zr (ZcR bs).2.bs:=Zd hb1;have l2:(ZcR bs).2.bs.length<=1099511627776:=Nat.le_trans Zal l1;have v3:0<=(Zdx bs).1/\(Zdx bs).1<=8:=Zn hb2 (by omega);have hb3:Zr (Zdx bs).2.bs:=Zd hb2;have l3:(Zdx bs).2.bs.length<=1099511627776:=Nat.le_trans Zal l2;refine Za hw λ br w hw=>?_;have hw:Sat R (pts br (Z4 s 0 false)::Hs) w:=hw;have hw:Sat R (ZB br s bs ⟨bs,false⟩::Hs) w:=Sat.rrd.2 ⟨0,⟨by omega,rfl⟩,hw⟩;refine (Zt (most:=1099511627776) hl hb hs hw).use ?_;clear hw;rintro _ w ⟨rfl,hw⟩;refine ⟨_,rfl,?_⟩;refine (Zt (most:=28629151) hl hb hs hw).use ?_;clear hw;rintro _ w ⟨rfl,hw⟩;refine ⟨_,rfl,?_⟩;have hw:Sat R (ZB br s bs (ZcR bs).2::Hs) w:=hw;have e1:wI (Zb 1099511627776 ⟨bs,false⟩).1=(Zh1 bs).1:=Zf (x:=(Zh1 bs).1);have e2:wI (Zb 28629151 (Zb 1099511627776 ⟨bs,false⟩).2).1=(ZcR bs).1:=Zf (x:=(ZcR bs).1);rw [e1,e2];refine Za hw λ p w hw=>?_;obtain ⟨now,hnow⟩:∃ x,x=(Zh1 bs).1:=⟨_,rfl⟩;obtain ⟨next,hnext⟩:∃ x,x=(ZcR bs).1:=⟨_,rfl⟩;have hw:Sat R (ZB br s bs (ZcR bs).2::pts p (Zbb now next ⟨none,0,0⟩ ⟨none,0,0⟩)::Hs) w:=by rw [hnow,hnext];exact hw.swap
 refine (Zt (most:=8) hl hb hs hw).use ?_;clear hw;rintro _ w ⟨rfl,hw⟩;refine ⟨_,rfl,?_⟩;obtain ⟨n,hn⟩:∃ n:Nat,(Zdx bs).1=n:=⟨_,(Int.toNat_of_nonneg v3.1).symm⟩;obtain ⟨r0,hr0⟩:∃ x,x=(Zdx bs).2:=⟨_,rfl⟩;have hnt:(Zdx bs).1.toNat=n:=by rw [hn,Int.toNat_natCast]
 have e3:(Zb 8 (ZcR bs).2).1=n:=hn;have e4:(Zb 8 (ZcR bs).2).2=r0:=hr0.symm;rw [e4] at hw;rw [e3];rw [<-hr0] at hb3 l3;rw [hn] at v3;have no0:Zdw n r0=none->ZeZ bs=none:=λ h=>Zu3 (by rw [hnt,<-hr0];exact h);have hw:Sat R (ZB br s bs r0::RBO p now next [] ⟨none,0,0⟩ ⟨none,0,0⟩ [] Hs) w:=by
  have a1:=Zs.nil (n:=2) (T:=plT) hw;have a2:=Zs.nil (n:=6) (T:=rkT) a1;have a3:Sat R (ZaW []::Zs 6 ⟨none,0,0⟩ rkT []::Zs 2 ⟨none,0,0⟩ plT []::ZB br s bs r0::pts p (Zbb now next ⟨none,0,0⟩ ⟨none,0,0⟩)::Hs) w:=by
   unfold ZaW;exact Sat.star.2 a2
  have a4:Sat R (ZB br s bs r0::pts p (Zbb now next ⟨none,0,0⟩ ⟨none,0,0⟩)::Zs 2 ⟨none,0,0⟩ plT []::Zs 6 ⟨none,0,0⟩ rkT []::ZaW []::Hs) w:=a3.arr;exact a4
 refine ⟨λ i w=>∃ (j:Nat) (rd:Rd) (pls:List Pl) (fs:List FE) (sf:Sl),i=j/\j<=n/\RlI n r0 j rd pls fs/\Sat R (ZB br s bs rd::RBO p now next [] sf ⟨none,0,0⟩ fs Hs) w,λ i _=>n - i.toNat,
  ⟨0,r0,[],[],⟨none,0,0⟩,rfl,by omega,⟨Zr0,λ _ h=>(by cases h),rfl,hb3,l3,rfl⟩,hw⟩,?_⟩
 clear hw;rintro _ _ w ⟨j,rd,pls,fs,sf,rfl,hj,ld,hw⟩;have hfn:fs.length=j:=by rw [<-ld.few,<-ld.fl,List.length_map]
 refine Br.d (λ h=>?_) (λ h=>?_)
 ·have hj2:j<n:=by omega
  have hld:=ld.len;have tl1:=Zdv (most:=65536) (rd:=rd);have tb1:=ZcJ (most:=65536) (rd:=rd) ld.bytes;have tl2:=Zdv (most:=65536) (rd:=(ZD 65536 rd).2);have tb2:=ZcJ (most:=65536) (rd:=(ZD 65536 rd).2) tb1.2;have hbad:=ZAp (rd:=rd);have hprd:ZfO rd=(Zmq (ZD 65536 rd).1 (ZD 65536 (ZD 65536 rd).2).1,(ZD 65536 (ZD 65536 rd).2).2):=rfl;have hno:=λ h=>no0 (Zr2 ld.pre hj2 h);have hso:=λ {pl} h=>Zr1 (p:=pl) ld.pre hj2 h;refine (ZbW (most:=65536) (by omega) hl hb hs hw).use ?_;clear hw;rintro _ w ⟨u1,rfl,hw⟩;refine ⟨u1,rfl,?_⟩;obtain ⟨R1,x1,g1,hw⟩:=Own.leak hw;refine (Zlr tb1.1 (by omega) g1 hw).use ?_;clear hw;rintro _ w (⟨d1,rfl,hw⟩|⟨rr,f,d1,gd,rfl,hw⟩)
  ·have hpn:(ZfO rd).1=none:=by rw [hprd];unfold Zmq;rw [d1]
   have hload:=hno hpn;refine ⟨none,6,rfl,?_⟩;refine (ZbW (most:=65536) (by omega) hl hb (x1.slR hs) hw).use ?_;clear hw;rintro _ w ⟨u2,rfl,hw⟩;refine ⟨u2,rfl,?_⟩;obtain ⟨R2,x2,g2,hw⟩:=Own.leak hw;refine (ZiV tb2.1 (by omega) g2 hw).use ?_;clear hw;have out:∀ {w:World} {v:Option Addr} {e:Int} {A:List HP},(∀ w',Sat R A w'->Sat R Hs w')->Sat R (ZB br s bs (ZfO rd).2::A) w->∃ t:Bool,At (λ w'=>w'=w) ⟨br,0 + 2,none⟩ [.bool t]/\Br t (K (.tuple #[.pointer none,nI 6]) w) (Br ((6:Int) !=0) (K (.tuple #[.pointer none,nI 6]) w) (Br (e !=0) (K (.tuple #[.pointer none,nI 6]) w) False)):=λ {w v e A} hA hw=>by
    obtain ⟨nn,hnn,hw2⟩:=Sat.rrd.1 hw;exact ⟨_,At.own (eqS hw2) (by exact ⟨rfl,trivial⟩),Br.mk (λ _=>hK1 hload _ (hA _ hw.drop)) (λ _=>Br.t rfl (hK1 hload _ (hA _ hw.drop)))⟩
   rintro _ w (⟨_,rfl,hw⟩|⟨l,q,_,_,rfl,hw⟩)
   ·have hw:=x1.back (x2.back hw)
    exact ⟨none,6,rfl,λ _=>False,out (v:=none) (λ _ h=>h.drop.drop.drop.drop) hw,λ _ _ h=>h.elim⟩
   ·have hw:=(x1.back (x2.back hw)).swap
    exact ⟨some ⟨q,0,none⟩,0,rfl,λ _=>False,out (v:=none) (λ _ h=>h.drop.drop.drop.drop.drop) hw,λ _ _ h=>h.elim⟩
  refine ⟨some ⟨f,0,none⟩,0,rfl,?_⟩;refine (ZbW (most:=65536) (by omega) hl hb (x1.slR hs) hw.swap).use ?_;clear hw;rintro _ w ⟨u2,rfl,hw⟩;refine ⟨u2,rfl,?_⟩;obtain ⟨R2,x2,g2,hw⟩:=Own.leak hw;refine (ZiV tb2.1 (by omega) g2 hw).use ?_;clear hw;rintro _ w (⟨d2,rfl,hw⟩|⟨l,q,d2,qok,rfl,hw⟩)
  ·have hpn:(ZfO rd).1=none:=by rw [hprd];unfold Zmq;rw [d1,d2]
   have hload:=hno hpn;have hw:=x1.back (x2.back hw);have hw:Sat R (ZB br s bs (ZfO rd).2::ZiF f rr::RBO p now next [] sf ⟨none,0,0⟩ fs Hs) w:=hw;refine ⟨none,6,rfl,λ _=>False,?_,λ _ _ h=>h.elim⟩;obtain ⟨nn,hnn,hw2⟩:=Sat.rrd.1 hw;exact ⟨_,At.own (eqS hw2) (by exact ⟨rfl,trivial⟩),Br.mk (λ _=>hK1 hload _ hw.drop.drop.drop.drop.drop.drop) (λ _=>Br.f rfl (Br.t rfl (hK1 hload _ hw.drop.drop.drop.drop.drop.drop)))⟩
  have hps:(ZfO rd).1=some ⟨rr,l⟩:=by rw [hprd];unfold Zmq;rw [d1,d2]
  have hpre:=hso hps;have hgood:(ZfO rd).2.bad=false:=by
   cases h:(ZfO rd).2.bad with
   |false=>rfl
   |true=>rw [hbad h] at hps;cases hps
  have hbs2:Zr (ZfO rd).2.bs:=tb2.2;have hln2:(ZfO rd).2.bs.length<=1099511627776:=by show (ZD 65536 (ZD 65536 rd).2).2.bs.length<=_;omega
  have hw:=x1.back (x2.back hw);have hw:Sat R (ZaB q l::ZB br s bs (ZfO rd).2::ZiF f rr::RBO p now next [] sf ⟨none,0,0⟩ fs Hs) w:=hw;generalize (ZfO rd).2=rd2 at *;refine ⟨some ⟨q,0,none⟩,0,rfl,?_⟩;have hw:Sat R (ZB br s bs rd2::ZiF f rr::ZaB q l::RBO p now next [] sf ⟨none,0,0⟩ fs Hs) w:=hw.arr;refine ⟨λ w=>Sat R (ZB br s bs rd2::ZiF f rr::ZaB q l::RBO p now next [] sf ⟨none,0,0⟩ fs Hs) w,?_,?_⟩
  ·obtain ⟨nn,hnn,hw2⟩:=Sat.rrd.1 hw
   exact ⟨_,At.own (eqS hw2) (by exact ⟨rfl,trivial⟩),Br.f hgood (Br.f rfl (Br.f rfl hw))⟩
  clear hw;intro _ w hw;refine ⟨sf,oA hw,?_⟩;refine Za hw λ bp w hw=>?_;obtain ⟨pl,hpl⟩:∃ pl:Pl,pl=⟨rr,l⟩:=⟨_,rfl⟩;have hw:Sat R (pts bp (.cells (Zc1 (f,q,pl)).toArray plT (0,0))::ZB br s bs rd2::ZiF f pl.r::ZaB q pl.q::RBO p now next [] sf ⟨none,0,0⟩ fs Hs) w:=by rw [hpl];exact hw
  have hw:Sat R (Zs 2 sf plT (fs.map Zc1)::pts bp (.cells (Zc1 (f,q,pl)).toArray plT (0,0))::ZB br s bs rd2::ZiF f pl.r::ZaB q pl.q::pts p (Zbb now next sf ⟨none,0,0⟩)::Zs 6 ⟨none,0,0⟩ rkT (([]:List Bk).map rkV)::ZaW fs::Hs) w:=hw.arr;refine ZaR (ys:=[Zc1 (f,q,pl)]) elPl hw (ZeU ⟨_,underlying43⟩ (b:=bp) 1 hw rfl rfl) (Wid.one rfl) (by rw [List.length_singleton,List.length_map];omega) (by rw [List.length_singleton,List.length_map];omega) λ s2 w hw=>?_;have hw:Sat R (pts p (Zbb now next sf ⟨none,0,0⟩)::pts bp (.cells (Zc1 (f,q,pl)).toArray plT (0,0))::Zs 2 s2 plT (fs.map Zc1++[Zc1 (f,q,pl)])::ZB br s bs rd2::ZiF f pl.r::ZaB q pl.q::Zs 6 ⟨none,0,0⟩ rkT (([]:List Bk).map rkV)::ZaW fs::Hs) w:=hw.arr;refine sRu hw λ w hw=>?_;have hw:=hw.re (pts p (Zbb now next s2 ⟨none,0,0⟩));rw [ZP];refine ⟨⟨j + 1,rd2,pls++[pl],fs++[(f,q,pl)],s2,by omega,by omega,⟨by rw [hpl];exact hpre,λ x hx=>?_,by rw [List.map_append,ld.fl];rfl,hbs2,hln2,by rw [List.length_append,ld.few];rfl⟩,?_⟩,by dsimp only;omega⟩
  ·rcases List.mem_append.1 hx with hx|hx
   ·exact ld.ok x hx
   ·rw [List.mem_singleton.1 hx,hpl];exact ⟨gd,qok⟩
  have e5:fs.map Zc1++[Zc1 (f,q,pl)]=(fs++[(f,q,pl)]).map Zc1:=by rw [List.map_append];rfl
  rw [e5] at hw;have hw:Sat R (ZiF f pl.r::ZaB q pl.q::ZaW fs::pts bp (.cells (Zc1 (f,q,pl)).toArray plT (0,0))::ZB br s bs rd2::pts p (Zbb now next s2 ⟨none,0,0⟩)::Zs 2 s2 plT ((fs++[(f,q,pl)]).map Zc1)::Zs 6 ⟨none,0,0⟩ rkT (([]:List Bk).map rkV)::Hs) w:=hw.arr;have e6:ZaW fs=ZaW (fs++[]):=by rw [List.append_nil]
  rw [e6] at hw;have hw:=Zhc.2 hw;have hw:Sat R (pts bp (.cells (Zc1 (f,q,pl)).toArray plT (0,0))::ZB br s bs rd2::RBO p now next [] s2 ⟨none,0,0⟩ (fs++[(f,q,pl)]) Hs) w:=hw.arr;exact hw.drop
 ·have hjn:j=n:=by omega
  subst hjn;have hend:=ZuI ld.pre;have hload:=Zxo (bs:=bs) (by rw [hnt,<-hr0];exact hend);rw [<-hnow,<-hnext] at hload;have v4:0<=(Zb 300 rd).1/\(Zb 300 rd).1<=300:=Zn ld.bytes (by omega);have hb4:Zr (Zb 300 rd).2.bs:=Zd ld.bytes;refine (Zt (most:=300) hl hb hs hw).use ?_;clear hw;rintro _ w ⟨rfl,hw⟩;refine ⟨_,rfl,?_⟩;have hbks:Zni rd=ZG Zo1 (Zb 300 rd).1.toNat (Zb 300 rd).2:=rfl;obtain ⟨n2,hn2⟩:∃ n:Nat,(Zb 300 rd).1=n:=⟨_,(Int.toNat_of_nonneg v4.1).symm⟩;obtain ⟨r2,hr2⟩:∃ x,x=(Zb 300 rd).2:=⟨_,rfl⟩;rw [hn2,Int.toNat_natCast,<-hr2] at hbks;rw [<-hr2] at hw hb4;rw [hn2] at v4 ⊢;refine ⟨λ i w=>∃ (k:Nat) (L:List Bk) (rd3:Rd) (sb:Sl),i=k/\k<=n2/\ZG Zo1 k r2=(L,rd3)/\Zr rd3.bs/\Sat R (ZB br s bs rd3::RBO p now next L sf sb fs Hs) w,λ i _=>n2 - i.toNat,⟨0,[],r2,⟨none,0,0⟩,rfl,by omega,rfl,hb4,hw⟩,?_⟩;clear hw h hj;rintro _ _ w ⟨k,L,rd3,sb,rfl,hk,hpre,hb5,hw⟩;have hsn:=Zbr Zo1 k r2;rw [hpre] at hsn;dsimp only at hsn;have hLl:L.length=k:=by have:=Za8 Zo1 k r2;rw [hpre] at this;exact this
  refine Br.d (λ h=>?_) (λ h=>?_)
  ·have hk2:k<n2:=by omega
   have y1:Zr (Zb 28629151 rd3).2.bs:=Zd hb5;have y2:Zr (Zb 9999 (Zb 28629151 rd3).2).2.bs:=Zd y1;have y3:Zr (Zb 9999 (Zb 9999 (Zb 28629151 rd3).2).2).2.bs:=Zd y2;have y4:Zr (Zb 9999 (Zb 9999 (Zb 9999 (Zb 28629151 rd3).2).2).2).2.bs:=Zd y3;have y5:Zr (Zb 3 (Zb 9999 (Zb 9999 (Zb 9999 (Zb 28629151 rd3).2).2).2).2).2.bs:=Zd y4;have hin:=ZzW hb5;have hbd:=ZzX hb5;obtain ⟨x,hx⟩:∃ x,x=(Zo1 rd3).1:=⟨_,rfl⟩;obtain ⟨rd4,hrd4⟩:∃ x,x=(Zo1 rd3).2:=⟨_,rfl⟩;rw [<-hx] at hin hsn;rw [<-hrd4] at hbd hsn;have a1:=hin.id;have a2:=hin.flt;have a3:=hin.cls;have a4:=hin.many;have a5:=hin.state;have a6:=hin.till;have x1:(Zb 28629151 rd3).1=x.id:=by rw [hx];rfl
   have x2:(Zb 9999 (Zb 28629151 rd3).2).1=x.flt:=by rw [hx];rfl
   have x3:(Zb 9999 (Zb 9999 (Zb 28629151 rd3).2).2).1=x.cls:=by rw [hx];rfl
   have x4:(Zb 9999 (Zb 9999 (Zb 9999 (Zb 28629151 rd3).2).2).2).1=x.many:=by rw [hx];rfl
   have x5:(Zb 3 (Zb 9999 (Zb 9999 (Zb 9999 (Zb 28629151 rd3).2).2).2).2).1=x.state:=by rw [hx];rfl
   have x6:(Zb 1099511627776 (Zb 3 (Zb 9999 (Zb 9999 (Zb 9999 (Zb 28629151 rd3).2).2).2).2).2).1=x.till:=by rw [hx];rfl
   have x7:(Zb 1099511627776 (Zb 3 (Zb 9999 (Zb 9999 (Zb 9999 (Zb 28629151 rd3).2).2).2).2).2).2=rd4:=by rw [hrd4];rfl
   refine (Zt (most:=28629151) hl hb hs hw).use ?_;clear hw;rintro _ w ⟨rfl,hw⟩;rw [x1];refine ⟨_,rfl,?_⟩;refine (Zt (most:=9999) hl hb hs hw).use ?_;clear hw;rintro _ w ⟨rfl,hw⟩;rw [x2];refine ⟨_,rfl,?_⟩;refine (Zt (most:=9999) hl hb hs hw).use ?_;clear hw;rintro _ w ⟨rfl,hw⟩;rw [x3];refine ⟨_,rfl,?_⟩;refine (Zt (most:=9999) hl hb hs hw).use ?_;clear hw;rintro _ w ⟨rfl,hw⟩;rw [x4];refine ⟨_,rfl,?_⟩;refine Za hw λ bx w hw=>?_;refine sRu hw λ w hw=>?_;rw [Zf (x:=x.id),Zf (x:=x.flt),Zf (x:=x.cls),Zf (x:=x.many)] at hw;have hw:=hw.re (rkC bx { x with state:=0,till:=0 });refine (Zt (most:=3) hl hb hs hw.swap).use ?_;clear hw;rintro _ w ⟨rfl,hw⟩;rw [x5];refine ⟨_,rfl,?_⟩;rw [Zf (x:=x.state)];have hw:=hw.swap;refine ZZ hw (by kernel_rfl) rfl (by simp [Value.cells,rkV]) λ w hw=>?_;have hw:=hw.re (rkC bx { x with till:=0 });refine (Zt (most:=1099511627776) hl hb hs hw.swap).use ?_;clear hw;rintro _ w ⟨rfl,hw⟩;rw [x6];rw [x7] at hw;refine ⟨_,rfl,?_⟩;rw [Zf (x:=x.till)];have hw:=hw.swap;refine ZZ hw (by kernel_rfl) rfl (by simp [Value.cells,rkV]) λ w hw=>?_;have hw:=hw.re (rkC bx x);have hw:Sat R (pts p (Zbb now next sf sb)::rkC bx x::ZB br s bs rd4::Zs 2 sf plT (fs.map Zc1)::Zs 6 sb rkT (L.map rkV)::ZaW fs::Hs) w:=hw.arr;have sx:∀ {Hs':List HP} {w},Sat R (pts p (Zbb now next sf sb)::rkC bx x::Hs') w->Sat R [pts p (Zbb now next sf sb),rkC bx x,VC.tru] w:=λ hw=>hw.cons λ _ h=>h.restTru2;refine ZC (Sat R [pts p (Zbb now next sf sb),rkC bx x,VC.tru]) hw (λ w hw=>sx hw) λ w hw=>?_;refine ⟨sb,oS,x.id,x.flt,x.cls,x.many,x.state,x.till,oS,?_⟩;have hw:=hw.take (Zs 6 sb rkT (L.map rkV));refine Za hw λ b67 w hw=>?_;have hw:Sat R (Zs 6 sb rkT (L.map rkV)::rkC b67 x::pts p (Zbb now next sf sb)::rkC bx x::ZB br s bs rd4::Zs 2 sf plT (fs.map Zc1)::ZaW fs::Hs) w:=hw.swap;refine ⟨(hw.arr:Sat R (pts p (Zbb now next sf sb)::rkC bx x::rkC b67 x::Zs 6 sb rkT (L.map rkV)::ZB br s bs rd4::Zs 2 sf plT (fs.map Zc1)::ZaW fs::Hs) w)|>sx,?_⟩;refine ZaR (ys:=[rkV x]) elRk hw (ZeU ⟨_,underlying44⟩ (b:=b67) 1 hw rfl rfl) (Wid.one rfl) (by rw [List.length_singleton,List.length_map];omega) (by rw [List.length_singleton,List.length_map];omega) λ s2 w hw=>?_;have hw:Sat R (pts p (Zbb now next sf sb)::rkC bx x::rkC b67 x::Zs 6 s2 rkT (L.map rkV++[rkV x])::ZB br s bs rd4::Zs 2 sf plT (fs.map Zc1)::ZaW fs::Hs) w:=hw.arr;refine ⟨sx hw,?_⟩;refine sRu hw λ w hw=>?_;have hw:=hw.re (pts p (Zbb now next sf s2));rw [ZP];refine ⟨⟨k + 1,L++[x],rd4,s2,by omega,by omega,hsn,hbd,?_⟩,by dsimp only;omega⟩;have e5:L.map rkV++[rkV x]=(L++[x]).map rkV:=by rw [List.map_append];rfl
   rw [e5] at hw;have hw:Sat R (rkC bx x::rkC b67 x::ZB br s bs rd4::RBO p now next (L++[x]) sf s2 fs Hs) w:=hw.arr;exact hw.drop.drop
  ·have hk2:k=n2:=by omega
   subst hk2;have hall:Zni rd=(L,rd3):=by rw [hbks,hpre]
   rw [hall] at hload;dsimp only at hload;refine (Zbv hs hw).use ?_;clear hw;rintro _ w ⟨rfl,hw⟩;have hw:=hw.drop;have hw:=(Sat.rbook (b:=⟨now,next,pls,L⟩)).2 ⟨sf,sb,fs,ld.fl,hw⟩;have hsm:BkSm ⟨now,next,pls,L⟩:=⟨λ p hp=>(ld.ok p hp).1,λ p hp=>(ld.ok p hp).2,by show pls.length<=8;have:=ld.few;omega,by show L.length<=300;omega⟩;refine ⟨_,rfl,Br.mk (λ hwh=>?_) (λ hwh=>?_)⟩
   ·refine (Zpu hsm hw).use ?_
    clear hw;rintro _ w ⟨rfl,hw⟩;refine ⟨_,rfl,Br.nd (λ hm=>?_) (λ hm=>?_)⟩
    ·exact hK1 (by rw [hload,if_neg (λ h=>hm h.2)]) _ hw.drop
    ·exact hK2 _ _ _ (by rw [hload,if_pos ⟨hwh,hm⟩]) hw
   ·have hn:ZeZ bs=none:=by rw [hload,if_neg (λ h=>by rw [h.1] at hwh;cases hwh)]
    first
     |exact hK1 hn _ hw.drop
     |exact Br.t rfl (hK1 hn _ hw.drop)
abbrev seT:TypeId:=66
abbrev CE:=Cl × Sl
def seV (e:CE):List Value:=[nI e.1.id,nI e.1.tok,nI e.1.last,.slice e.2.a e.2.len e.2.cap]
abbrev ZbF (next:Int) (sl:Sl) (bp:Option Addr):Obj:=.cells [nI next,.slice sl.a sl.len sl.cap,.pointer bp].toArray 64 (0,0)
def ZeW (e:CE):HP:=Own e.2 5 (b8 e.1.rep)
abbrev RTO (p:Nat) (next:Int) (sl:Sl) (bp:Option Addr) (E:List CE) (Hs:List HP):List HP:=pts p (ZbF next sl bp)::Zs 4 sl seT (E.map seV)::Zah (E.map ZeW)::Hs
def Zt3 (p:Nat) (t:Tb):HP:=exs λ sl:Sl=>exs λ bk:Nat=>exs λ E:List CE=>Zah [pur (E.map Prod.fst=t.cl),pts p (ZbF t.next sl (some ⟨bk,0,none⟩)),Zs 4 sl seT (E.map seV),Zah (E.map ZeW),Zc0 bk t.bk]
theorem Sat.rtb {p:Nat} {t:Tb}:Sat R (Zt3 p t::Hs) w↔∃ sl bk,∃ E:List CE,E.map Prod.fst=t.cl/\Sat R (RTO p t.next sl (some ⟨bk,0,none⟩) E (Zc0 bk t.bk::Hs)) w:=by
 unfold Zt3;simp only [Sat.exs];constructor
 ·rintro ⟨sl,b,E,h⟩
  obtain ⟨h1,h2⟩:=Sat.pur.1 (Sat.star.1 h);exact ⟨sl,b,E,h1,h2⟩
 ·rintro ⟨sl,b,E,h1,h2⟩
  exact ⟨sl,b,E,Sat.star.2 (Sat.pur.2 ⟨h1,h2⟩)⟩
theorem elSe:ElN prog 62 62 seT 4 48:=⟨underlying62,⟨_,underlying62⟩,by kernel_rfl⟩
abbrev seC (b:Nat) (e:CE):HP:=pts b (.cells (seV e).toArray seT (0,0))
theorem Zq9 {A:List HP} {B:HP}:Sat R (Zah (A++[B])::Hs) w↔Sat R (B::Zah A::Hs) w:=by
 have:=Zws (R:=R) (Hs:=Hs) (w:=w) (A:=B) (B:=A) (C:=[]);rw [List.append_nil] at this;exact this
theorem Zu2 {bs:List Int} {k m:Nat} {l:List Cl} {r0 rd:Rd} (hn:(tM bs).1.toNat=k + m) (h0:(tM bs).2=r0) (h:ZG ZkX k r0=(l,rd)) (hm:¬ ZkR (tN bs).1 l):Zg6 bs=none:=by
 obtain ⟨⟨l2,rd2⟩,h2⟩:∃ x,x=ZG ZkX (k + m) r0:=⟨_,rfl⟩;have ha:=Zgs ZkX m k r0;rw [h,<-h2] at ha;dsimp only at ha;refine Zsu hn h0 h2.symm λ hx=>?_;rw [ha] at hx;exact hm hx.2.pre
theorem ZlF {s:Sl} {bs:List Int} (hb:Zr bs) (hl:bs.length<=1099511627776) (hs:SlR R.m s (b8 bs)) (hw:Sat R Hs w):
  Zm prog 25 #[.slice s.a s.len s.cap] w λ v w'=>(Zg6 bs=none/\v=.tuple #[.pointer none,nI 6]/\Sat R Hs w')\/
   (∃ t p,Zg6 bs=some t/\v=.tuple #[nP p,nI 0]/\Sat R (Zt3 p t::Hs) w'):=by
 apply ZBy
 suffices H:∀ K:nK,(Zg6 bs=none->∀ w',Sat R Hs w'->K (.tuple #[.pointer none,nI 6]) w')->(∀ t p w',Zg6 bs=some t->Sat R (Zt3 p t::Hs) w'->K (.tuple #[nP p,nI 0]) w')->B25 s K w from
  H _ (λ e w' h=>.inl ⟨e,rfl,h⟩) λ t p w' e h=>.inr ⟨t,p,e,rfl,h⟩
 intro K hK1 hK2;have b1:Zr (tN bs).2.bs:=Zd (rd:=⟨bs,false⟩) hb;have v1:0<=(tN bs).1/\(tN bs).1<=1099511627776:=Zn (rd:=⟨bs,false⟩) hb (by show (0:Int)<=1099511627776;omega);have b2:Zr (tM bs).2.bs:=Zd b1;have v2:0<=(tM bs).1/\(tM bs).1<=64:=Zn b1 (by omega);refine Za hw λ br w hw=>?_;have hw:Sat R (pts br (Z4 s 0 false)::Hs) w:=hw;have hw:Sat R (ZB br s bs ⟨bs,false⟩::Hs) w:=Sat.rrd.2 ⟨0,⟨by omega,rfl⟩,hw⟩;refine (Zt (most:=mI) hl hb hs hw).use ?_;clear hw;rintro _ w ⟨rfl,hw⟩;obtain ⟨nx,hnx⟩:∃ x,x=(tN bs).1:=⟨_,rfl⟩;have hw:Sat R (ZB br s bs (tN bs).2::Hs) w:=hw;rw [show (Zb mI ⟨bs,false⟩).1=nx from hnx.symm]
 rw [<-hnx] at v1;refine ⟨_,rfl,?_⟩;rw [Zf];refine Za hw λ p w hw=>?_;refine (Zt (most:=64) hl hb hs hw.swap).use ?_;clear hw;rintro _ w ⟨rfl,hw⟩;obtain ⟨n,hn⟩:∃ n:Nat,(tM bs).1=n:=⟨_,(Int.toNat_of_nonneg v2.1).symm⟩;obtain ⟨r0,hr0⟩:∃ x,x=(tM bs).2:=⟨_,rfl⟩;have hnt:(tM bs).1.toNat=n:=by rw [hn,Int.toNat_natCast]
 have hw:Sat R (ZB br s bs (tM bs).2::pts p (ZbF nx ZbQ none)::Hs) w:=hw;rw [<-hr0] at hw b2;refine ⟨n,by rw [<-hn],?_⟩;rw [hn] at v2;have hw:Sat R (Zs 4 ZbQ seT (([]:List CE).map seV)::ZB br s bs r0::pts p (ZbF nx ZbQ none)::Hs) w:=Zs.nil hw;have hw:Sat R (ZB br s bs r0::RTO p nx ZbQ none [] Hs) w:=by
  have h2:Sat R (Zah (([]:List CE).map ZeW)::Zs 4 ZbQ seT (([]:List CE).map seV)::ZB br s bs r0::pts p (ZbF nx ZbQ none)::Hs) w:=Sat.star.2 hw;exact h2.arr
 refine ⟨λ i w=>∃ (k:Nat) (rd:Rd) (sl:Sl) (E:List CE),i=k/\k<=n/\ZG ZkX k r0=(E.map Prod.fst,rd)/\Zr rd.bs/\ZkR nx (E.map Prod.fst)/\Sat R (ZB br s bs rd::RTO p nx sl none E Hs) w,λ i _=>n - i.toNat,
  ⟨0,r0,ZbQ,[],rfl,by omega,rfl,b2,ZkR.nil,hw⟩,?_⟩
 clear hw;rintro _ _ w ⟨k,rd,sl,E,rfl,hk,hpre,hb3,hmay,hw⟩;have hsn:=Zbr ZkX k r0;rw [hpre] at hsn;dsimp only at hsn;have hEl:E.length=k:=by have:=Za8 ZkX k r0;rw [hpre] at this;simpa using this
 refine Br.d (λ h=>?_) (λ h=>?_)
 ·have hk2:k<n:=by omega
  have y1:Zr (Zb mI rd).2.bs:=Zd hb3;have y2:Zr (Zb mI (Zb mI rd).2).2.bs:=Zd y1;have y3:Zr (Zb mI (Zb mI (Zb mI rd).2).2).2.bs:=Zd y2;have hin:=Zx2 hb3;have hbd:=Zx3 hb3;obtain ⟨c,hc⟩:∃ x,x=(ZkX rd).1:=⟨_,rfl⟩;obtain ⟨rd2,hrd2⟩:∃ x,x=(ZkX rd).2:=⟨_,rfl⟩;rw [<-hc] at hin hsn;rw [<-hrd2] at hbd hsn;have a1:=hin.id;have a2:=hin.tok;have a3:=hin.last;have a4:=hin.rep;have hno:¬ ZkR nx (E.map Prod.fst++[c])->Zg6 bs=none:=λ h=>Zu2 (k:=k + 1) (m:=n - (k + 1)) (by omega) hr0.symm hsn (by rw [<-hnx];exact h);refine (Zt (most:=mI) hl hb hs hw).use ?_;clear hw;rintro _ w ⟨rfl,hw⟩;rw [show (Zb mI rd).1=c.id by rw [hc];rfl];refine ⟨_,rfl,?_⟩;refine (Zt (most:=mI) hl hb hs hw).use ?_;clear hw;rintro _ w ⟨rfl,hw⟩;rw [show (Zb mI (Zb mI rd).2).1=c.tok by rw [hc];rfl];refine ⟨_,rfl,?_⟩;refine (Zt (most:=mI) hl hb hs hw).use ?_;clear hw;rintro _ w ⟨rfl,hw⟩;rw [show (Zb mI (Zb mI (Zb mI rd).2).2).1=c.last by rw [hc];rfl];refine ⟨_,rfl,?_⟩;refine Za hw λ bs8 w hw=>?_;refine sRu hw λ w hw=>?_;rw [Zf (x:=c.id),Zf (x:=c.tok),Zf (x:=c.last)] at hw;have hw:=hw.re (seC bs8 (c,ZbQ));have hw:Sat R (ZB br s bs (Zb mI (Zb mI (Zb mI rd).2).2).2::seC bs8 (c,ZbQ)::RTO p nx sl none E Hs) w:=hw.swap;refine (ZbW (most:=65536) (by omega) hl hb hs hw).use ?_;clear hw;rintro _ w ⟨sr,rfl,hw⟩;refine ⟨sr,rfl,?_⟩;have hw:Sat R (Own sr 5 (b8 c.rep)::ZB br s bs rd2::seC bs8 (c,ZbQ)::RTO p nx sl none E Hs) w:=by rw [hc,hrd2];rw [hc] at hw;exact hw
  have hsr:=Own.len hw;rw [List.length_map] at hsr;have hw:Sat R (seC bs8 (c,ZbQ)::Own sr 5 (b8 c.rep)::ZB br s bs rd2::RTO p nx sl none E Hs) w:=hw.arr;refine ZZ hw (by kernel_rfl) rfl (by simp [Value.cells,seV]) λ w hw=>?_;have hw:=hw.re (seC bs8 (c,sr));have out:∀ {w},Sat R (seC bs8 (c,sr)::Own sr 5 (b8 c.rep)::ZB br s bs rd2::RTO p nx sl none E Hs) w->Sat R Hs w:=λ hw=>hw.drop.drop.drop.drop.drop.drop;refine ⟨λ i w=>∃ j:Nat,i=j/\j<=E.length/\(∀ d∈(E.take j).map Prod.fst,d.tok≠c.tok/\d.id<c.id)/\Sat R (seC bs8 (c,sr)::Own sr 5 (b8 c.rep)::ZB br s bs rd2::RTO p nx sl none E Hs) w,λ i _=>E.length - i.toNat,⟨0,rfl,by omega,λ d hd=>(by cases hd),hw⟩,?_⟩;clear hw;rintro _ _ w ⟨j,rfl,hj,hd,hw⟩;have hsl:=Zs.len (hw.take (Zs 4 sl seT (E.map seV)));rw [List.length_map] at hsl;refine ⟨sl,oA hw,Br.d (λ hjl=>?_) (λ hjl=>?_)⟩
  ·have hj2:j<E.length:=by omega
   have hmem:E[j].1∈E.map Prod.fst:=List.mem_map.2 ⟨_,List.getElem_mem hj2,rfl⟩;refine Zo hw λ w hw=>?_;refine ⟨sl,oS,?_⟩;refine (Zs.readsM (n:=4) (s:=sl) (T:=seT) (rows:=E.map seV) hw Zbg).rngM (E:=E) (g:=seV) hj2 λ a _ he=>?_;refine ⟨E[j].1.tok,he.f 1 (by exact ⟨rfl,trivial⟩),c.tok,oS,Br.e (λ h1=>?_) (λ h1=>?_)⟩
   ·exact hK1 (hno λ hm=>(Zkf.1 hm).2.2.2.1 (List.mem_map.2 ⟨_,hmem,h1⟩)) _ (out hw)
   refine ⟨sl,oS,?_⟩;refine (Zs.readsM (n:=4) (s:=sl) (T:=seT) (rows:=E.map seV) hw Zbg).rngM (E:=E) (g:=seV) hj2 λ a _ he=>?_;refine ⟨E[j].1.id,he.zz (by exact ⟨rfl,trivial⟩),c.id,oS,Br.d (λ h2=>?_) (λ h2=>?_)⟩
   ·refine hK1 (hno λ hm=>?_) _ (out hw)
    have h3:=(Zkf.1 hm).2.1;have:=(Zow hmay).2 _ hmem;omega
   rw [Zf];refine ⟨⟨j + 1,by omega,by omega,λ d hd2=>?_,hw⟩,by dsimp only;omega⟩;rw [List.take_add_one,List.getElem?_eq_getElem hj2,List.map_append] at hd2;rcases List.mem_append.1 hd2 with h3|h3
   ·exact hd d h3
   ·have:d=E[j].1:=by simpa using h3
    rw [this];exact ⟨h1,by omega⟩
  rw [List.take_of_length_le (by omega)] at hd;refine Zo hw λ w hw=>?_;refine ⟨c.id,oS,Br.d (λ h1=>hK1 (hno λ hm=>by have:=(hm.ids c (by simp)).1;omega) _ (out hw)) (λ h1=>?_)⟩;refine ⟨c.id,oS,nx,oS,Br.d (λ h2=>hK1 (hno λ hm=>by have:=(hm.ids c (by simp)).2;omega) _ (out hw)) (λ h2=>?_)⟩;have good:(0<c.last\/c.rep=[])->ZkR nx (E.map Prod.fst++[c]):=λ h4=>by
   refine Zkf.2 ⟨hmay,?_,by omega,λ h5=>?_,h4⟩
   ·unfold Znk
    cases hz:(E.map Prod.fst).getLast? with
    |none=>simp;omega
    |some z=>have:=(hd z (List.mem_of_getLast? hz)).2;simpa using this
   ·obtain ⟨d,hd2,e⟩:=List.mem_map.1 h5
    exact (hd d hd2).1 e
  have fin:(0<c.last\/c.rep=[])->∀ {w},Sat R (seC bs8 (c,sr)::Own sr 5 (b8 c.rep)::ZB br s bs rd2::RTO p nx sl none E Hs) w->Drw w λ S w_20=>
      ∃ t101_1:Sl,(At S ⟨p,0 + 1,none⟩ [.slice t101_1.a t101_1.len t101_1.cap])/\
      ∃ t102_4:Int,∃ t102_5:Int,∃ t102_6:Int,∃ t102_7:Sl,(At S ⟨bs8,0,none⟩ [nI t102_4,nI t102_5,nI t102_6,.slice t102_7.a t102_7.len t102_7.cap])/\
      New (.cells #[nI t102_4,nI t102_5,nI t102_6,.slice t102_7.a t102_7.len t102_7.cap] 66 (0,0)) (λ b_t103_1 w_21=>
      (S w_21)/\
      ∃ w_22:World,∃ t104_1:Sl,((Builtin.append_ #[ 62,62 ] 62 #[.slice t101_1.a t101_1.len t101_1.cap,.slice ((some ⟨b_t103_1,0,none⟩)) 1 1]).run prog w_21=.ok (.slice t104_1.a t104_1.len t104_1.cap) w_22)/\
      (S w_22)/\
      ∃ w_23:World,((Instr.storeAt 62 (.pointer ((some ⟨p,0 + 1,none⟩))) (.slice t104_1.a t104_1.len t104_1.cap)).run prog w_22=.ok () w_23)/\
      (∃ (k':Nat) (rd:Rd) (sl:Sl) (E:List CE),IntKind.u64.wrap ((k:Int) + 1)=k'/\k'<=n/\ZG ZkX k' r0=(E.map Prod.fst,rd)/\Zr rd.bs/\ZkR nx (E.map Prod.fst)/\Sat R (ZB br s bs rd::RTO p nx sl none E Hs) w_23)/\n - (IntKind.u64.wrap ((k:Int) + 1)).toNat<n - (k:Int).toNat) w_20:=λ h4 {w} hw=>by
   have sx:∀ {A:List HP} {R:Cx} {w},Sat R (pts p (ZbF nx sl none)::seC bs8 (c,sr)::A) w->Sat R [pts p (ZbF nx sl none),seC bs8 (c,sr),VC.tru] w:=λ hw=>hw.cons λ _ h=>h.restTru2;have hw:Sat R (pts p (ZbF nx sl none)::seC bs8 (c,sr)::Zs 4 sl seT (E.map seV)::Own sr 5 (b8 c.rep)::ZB br s bs rd2::Zah (E.map ZeW)::Hs) w:=hw.arr;refine ZC (Sat R [pts p (ZbF nx sl none),seC bs8 (c,sr),VC.tru]) hw (λ w hw=>sx hw) λ w hw=>?_;refine ⟨sl,oS,c.id,c.tok,c.last,sr,oS,?_⟩;refine Za hw λ b9 w hw=>?_;have hw:Sat R (seC b9 (c,sr)::pts p (ZbF nx sl none)::seC bs8 (c,sr)::Zs 4 sl seT (E.map seV)::Own sr 5 (b8 c.rep)::ZB br s bs rd2::Zah (E.map ZeW)::Hs) w:=hw;have hw:Sat R (Zs 4 sl seT (E.map seV)::seC b9 (c,sr)::pts p (ZbF nx sl none)::seC bs8 (c,sr)::Own sr 5 (b8 c.rep)::ZB br s bs rd2::Zah (E.map ZeW)::Hs) w:=hw.arr;refine ⟨sx (hw.arr (Hs':=pts p (ZbF nx sl none)::seC bs8 (c,sr)::seC b9 (c,sr)::Zs 4 sl seT (E.map seV)::Own sr 5 (b8 c.rep)::ZB br s bs rd2::Zah (E.map ZeW)::Hs)),?_⟩;refine ZaR (ys:=[seV (c,sr)]) elSe hw (ZeU ⟨_,underlying62⟩ (b:=b9) 1 hw rfl rfl) (Wid.one rfl) (by rw [List.length_singleton,List.length_map];omega) (by rw [List.length_singleton,List.length_map];omega) λ s2 w hw=>?_;have hw:Sat R (pts p (ZbF nx sl none)::seC bs8 (c,sr)::seC b9 (c,sr)::Zs 4 s2 seT (E.map seV++[seV (c,sr)])::Own sr 5 (b8 c.rep)::ZB br s bs rd2::Zah (E.map ZeW)::Hs) w:=hw.arr;refine ⟨sx hw,?_⟩;refine sRu hw λ w hw=>?_;have hw:=hw.re (pts p (ZbF nx s2 none));rw [ZP];have e5:E.map seV++[seV (c,sr)]=(E++[(c,sr)]).map seV:=by rw [List.map_append];rfl
   rw [e5] at hw;have hw:Sat R (ZeW (c,sr)::Zah (E.map ZeW)::pts p (ZbF nx s2 none)::seC bs8 (c,sr)::seC b9 (c,sr)::Zs 4 s2 seT ((E++[(c,sr)]).map seV)::ZB br s bs rd2::Hs) w:=by
    have h2:Sat R (Own sr 5 (b8 c.rep)::Zah (E.map ZeW)::pts p (ZbF nx s2 none)::seC bs8 (c,sr)::seC b9 (c,sr)::Zs 4 s2 seT ((E++[(c,sr)]).map seV)::ZB br s bs rd2::Hs) w:=hw.arr;exact h2
   have hw:=Zq9.2 hw;rw [show E.map ZeW++[ZeW (c,sr)]=(E++[(c,sr)]).map ZeW by rw [List.map_append];rfl] at hw;have hw:Sat R (seC bs8 (c,sr)::seC b9 (c,sr)::ZB br s bs rd2::RTO p nx s2 none (E++[(c,sr)]) Hs) w:=hw.arr;refine ⟨⟨k + 1,rd2,s2,E++[(c,sr)],by omega,by omega,by rw [hsn,List.map_append];rfl,hbd,by rw [List.map_append];exact good h4,hw.drop.drop⟩,by omega⟩
  refine ⟨c.last,oS,Br.e (λ h3=>?_) (λ h3=>?_)⟩
  ·refine ⟨sr,oS,Br.d (λ h4=>hK1 (hno λ hm=>?_) _ (out hw)) (λ h4=>fin (.inr (List.length_eq_zero_iff.1 (by omega))) hw)⟩
   rcases hm.live c (by simp) with h5|h5
   ·omega
   ·rw [h5] at hsr
    have:sr.len=0:=hsr;omega
  ·exact fin (.inl (by omega)) hw
 ·have hk2:k=n:=by omega
  have hpre2:=hpre;rw [hk2] at hpre2;have heq:=Zou hnt hr0.symm hpre2;rw [<-hnx] at heq;have tb:=ZcJ (most:=1048576) hb3;have tl:=ZhJ (most:=1048576) hb3;refine (ZbW (most:=1048576) (by omega) hl hb hs hw).use ?_;clear hw;rintro _ w ⟨st,rfl,hw⟩;generalize ZD 1048576 rd=D at *;refine ⟨st,rfl,?_⟩;obtain ⟨R1,x1,g1,hw⟩:=Own.leak hw;refine (ZjX tb.1 (by have:D.1.length<=1048576:=tl;omega) g1 hw).use ?_;clear hw;rintro _ w (⟨hn0,rfl,hw⟩|⟨b,pb,hn0,rfl,hw⟩)
  ·have hnone:Zg6 bs=none:=by rw [heq,hn0]
   refine ⟨_,_,rfl,?_⟩;refine (Zbv (x1.slR hs) hw).use ?_;clear hw;rintro _ w ⟨rfl,hw⟩;have hw:Sat R Hs w:=(x1.back hw).drop.drop.drop.drop;exact ⟨_,rfl,Br.mk (λ _=>hK1 hnone _ hw) (λ _=>Br.t rfl (hK1 hnone _ hw))⟩
  ·rw [hn0] at heq
   dsimp only at heq;refine ⟨_,_,rfl,?_⟩;refine (Zbv (x1.slR hs) hw.swap).use ?_;clear hw;rintro _ w ⟨rfl,hw⟩;have hw:Sat R (pts p (ZbF nx sl none)::Zs 4 sl seT (E.map seV)::Zah (E.map ZeW)::Zc0 pb b::ZB br s bs D.2::Hs) w:=(x1.back hw).arr;have out:∀ {w},Sat R (pts p (ZbF nx sl none)::Zs 4 sl seT (E.map seV)::Zah (E.map ZeW)::Zc0 pb b::ZB br s bs D.2::Hs) w->Sat R Hs w:=λ hw=>hw.drop.drop.drop.drop.drop;refine ⟨_,rfl,Br.nb (λ h0=>hK1 (by rw [heq,if_neg λ h=>by rw [h.1] at h0;cases h0]) _ (out hw)) (λ h0=>Br.f rfl ?_)⟩;refine ⟨nx,oA hw,Br.d (λ h1=>hK1 (by rw [heq,if_neg λ h=>by have:=h.2.1;omega]) _ (out hw)) (λ h1=>?_)⟩;refine sRu hw λ w hw=>?_;have hw:=hw.re (pts p (ZbF nx sl (some ⟨pb,0,none⟩)));refine hK2 ⟨nx,E.map Prod.fst,b⟩ p _ (by rw [heq,if_pos ⟨h0,by omega,hmay⟩]) (Sat.rtb.2 ⟨sl,pb,E,rfl,?_⟩);exact hw.cons λ _ h=>h.cons λ _ h=>h.cons λ _ h=>h.cons λ _ h=>h.drop
theorem Zqy {p:Nat} {t:Tb} {c:Cl} {cmd:List Int} {s:Sl} (h:TbL t) (hn:t.next<1000000) (hc:c∈t.cl) (hl1:1<=c.last) (hl:cmd.length<=4000) (hb:Zr cmd) (hs:Ro R s (b8 (rqB (doQ c.id c.last cmd)))) (hw:Sat R (Zdf p t::Hs) w):
  Zm prog 23 #[nP p,.slice s.a s.len s.cap] w λ v w'=>∃ y:Sl,v=.agg (tdV ⟨0,c.id,c.last,c.rep⟩ y).toArray/\Sat R (Own y 5 (b8 c.rep)::Zdf p t::Hs) w':=by
 have k:=h.ok.each c hc;have k1:=k.id;have k2:=k.last;have hr:=Zif (id:=c.id) (seq:=c.last) (cmd:=cmd) ⟨by omega,by omega⟩ ⟨by omega,by omega⟩ hl;have hlen:=ZjP hr;refine (ZbV h.ok hn (ZfG hr hb) (by omega) hs hw).mono ?_;rintro v w ⟨x,rfl,hw⟩;rw [Zvp h.ok hc ⟨by omega,by omega⟩ ⟨hl1,by omega⟩ hl] at hw ⊢;exact ⟨x,rfl,hw⟩
theorem ZmR {s sc l:Sl} {ps qs:List (Sl × List Int)} {cmd:List Int} (hp:ZAg R s ps) (hc0:SlR R.m sc (b8 cmd)) (hcb:Zr cmd) (hq:ZAg R l qs) (hw:Sat R Hs w):
  Zm prog 4 #[.slice s.a s.len s.cap,.slice sc.a sc.len sc.cap,.slice l.a l.len l.cap] w λ v w'=>v=.bool true/\Sat R Hs w':=by
 have hsl:=hp.len;have hql:=hq.len;have hcl:sc.len=cmd.length:=by have:=hc0.len;simpa using this
 apply ZDe
 suffices H:∀ K:nK,(∀ w',Sat R Hs w'->K (.bool true) w')->B4 s sc l K w from H _ λ w' h=>⟨rfl,h⟩
 intro K hK;refine (ZtS hw).use ?_;clear hw;rintro _ w ⟨rfl,hw⟩;refine ⟨_,rfl,?_⟩;refine (ZhU hp hw).use ?_;clear hw;rintro _ w ⟨mb,rfl,hm,hw⟩;refine ⟨_,rfl,?_⟩;refine (ZhU hq hw).use ?_;clear hw;rintro _ w ⟨mb2,rfl,hm2,hw⟩;refine ⟨_,rfl,λ w=>(mb=false/\mb2=false/\cmd.length<=4000)/\Sat R Hs w,Br.f rfl (Br.mk (λ _=>hK _ hw) (λ h=>Br.mk (λ _=>hK _ hw) (λ h2=>Br.d (λ _=>hK _ hw) (λ h3=>⟨⟨h,h2,by omega⟩,hw⟩)))),?_⟩;clear hw;rintro _ w ⟨⟨h0,h1,hl4⟩,hw⟩;have hm:=hm h0;have hm2:=hm2 h1;have hcr:Ro R sc (b8 cmd):=hc0.ro;refine (Zlg hw).use ?_;clear hw;rintro _ w ⟨p,rfl,hw⟩;refine ⟨_,rfl,λ w=>∃ t,TbL t/\t.next<=61/\Sat R (Zdf p t::Hs) w,?_,?_⟩
 ·refine ⟨λ i w=>∃ (k:Nat) (t:Tb),i=k/\k<=60/\TbL t/\t.next<=k + 1/\Sat R (Zdf p t::Hs) w,λ i _=>60 - i.toNat,⟨0,_,rfl,by omega,.new,Int.le_refl _,hw⟩,?_⟩
  clear hw;rintro _ _ w ⟨k,t,rfl,hk,ok,hn,hw⟩
  with_reducible refine Br.d (λ h=>?_) (λ h=>?_)
  case refine_2=>exact ⟨t,ok,by omega,hw⟩
  with_reducible refine Br.d (λ h3=>?_) (λ h3=>?_)
  case refine_2=>exact ⟨t,ok,by omega,hw⟩
  rw [Zf (x:=(k:Int) + 1)];have hkp:k<ps.length:=by omega
  have hkl:k<(sls ps).length:=by rw [List.length_map];omega
  refine hp.rows.idxS (eqS hw) hkl ?_;rw [List.getElem_map];have hmem:=List.getElem_mem hkp;have hsd:=hp.each _ hmem;have hby:=hp.by' _ hmem
  have hlen:=hm k hkp (by omega);generalize ps[k]=e at *;refine (ZbV ok.ok (by omega) hby (by omega) (hsd.ro) hw).use ?_;clear hw;rintro _ w ⟨x,rfl,hw⟩;obtain ⟨ok2,_,hn2⟩:=ok.apply (by omega) hby;refine ⟨_,_,_,x,rfl,⟨k + 1,_,by omega,by omega,ok2,by omega,hw.drop⟩,by dsimp only;omega⟩
 clear hw;rintro _ w ⟨t,ok,hn,hw⟩;have hti:inI 549755813888:=⟨by omega,by omega⟩;have hrb:=ZcB hti;refine (Zel (q:=ZmB 549755813888) (s:=ZbQ) ⟨rfl,by show 0<=9223372036854775807;omega,λ h=>absurd rfl h⟩ hw).use ?_;clear hw;rintro _ w ⟨u,rfl,hw⟩;rw [show (ZqE (ZmB 549755813888)).1=rqB (ZmB 549755813888) by unfold ZqE;rw [if_pos hrb]] at hw;have hlen:=ZjP hrb;have hbb:Zr (rqB (ZmB 549755813888)):=ZfG hrb (λ _ h=>by cases h);obtain ⟨R1,e1,g1,hw⟩:=Own.leak hw;refine ⟨u,rfl,?_⟩;refine (ZbV ok.ok (by omega) hbb (by omega) (g1.ro) hw).use ?_;clear hw;rintro _ w ⟨x,rfl,hw⟩;replace hw:=(e1.back hw).drop;obtain ⟨ok2,_,hn2⟩:=ok.apply (by omega) hbb;have hbe:=ZvM ok.ok hti;generalize (t.applyT (rqB (ZmB 549755813888))).1=τ at *;generalize (t.applyT (rqB (ZmB 549755813888))).2=t' at *;have hn3:t'.next<=62:=by omega
 clear ok hn hn2;refine ⟨τ.code,τ.client,τ.seq,x,rfl,?_⟩;refine Za hw λ b12 w hw=>?_;refine sRu hw λ w hw=>?_;have hw:=hw.re (tdC b12 τ x);refine ⟨τ.code,oA hw,Br.ne (λ h3=>?_) (λ h3=>?_)⟩
 ·refine ⟨τ.code,oA hw,?_⟩
  rw [hbe.resolve_right λ h=>h3 h.1];exact hK _ hw.drop.drop
 obtain ⟨_,c,hc,hid⟩:=hbe.resolve_left λ h=>by omega
 have k:=ok2.ok.each c hc;have k1:=k.id;have k2:=k.last;have hw:Sat R (Zdf p t'::tdC b12 τ x::Hs) w:=hw.swap;refine (Zdr ok2.ok.c ok2.rise (by omega) hw).use ?_;clear hw;rintro _ w ⟨sv,rfl,hw⟩;have hsvl:=ZhD ok2.ok.c (by omega);obtain ⟨R2,e2,g2,hw⟩:=Own.leak hw;refine ⟨sv,rfl,?_⟩;refine (ZlF (ZnI ok2.ok.c (by omega)) (by omega) g2 hw).use ?_;clear hw;rw [ZpT ok2.ok ok2.rise ok2.live (by omega)];rintro _ w (⟨h,_,_⟩|⟨t2,pr,h,rfl,hw⟩)
 ·cases h
 obtain rfl:=Option.some.inj h;have hw:Sat R (Zt3 pr t'::Zdf p t'::tdC b12 τ x::Hs) w:=e2.back hw;refine ⟨_,_,rfl,Br.ne (λ h=>absurd rfl h) (λ _=>?_)⟩;obtain ⟨sl,bk,E,hE,hw⟩:=Sat.rtb.1 hw;have hEl:E.length=t'.cl.length:=by rw [<-hE,List.length_map]
 have hfew:=ok2.ok.few;have uniq:∀ d∈t'.cl,d.id=c.id->d=c:=λ d hd e=>by
  have h1:=Znz ok2.ok hc;have h2:=Znz ok2.ok hd;rw [e,h1] at h2;exact (Option.some.inj h2).symm
 refine ⟨λ last i w=>∃ j:Nat,i=j/\j<=E.length/\(((∀ d∈(E.take j).map Prod.fst,d.id≠c.id)/\last=-1)\/(last=c.last))/\Sat R (RTO pr t'.next sl (some ⟨bk,0,none⟩) E (Zc0 bk t'.bk::Zdf p t'::tdC b12 τ x::Hs)) w,λ _ i _=>E.length - i.toNat,⟨0,rfl,by omega,.inl ⟨λ d hd=>(by cases hd),rfl⟩,hw⟩,?_⟩;clear hw;rintro _ last _ w ⟨j,rfl,hj,hlast,hw⟩;have hsll:=Zs.len (hw.take (Zs 4 sl seT (E.map seV)));rw [List.length_map] at hsll;refine Zc.mk rfl ⟨sl,oA hw,Br.d (λ hjl=>?_) (λ hjl=>?_)⟩
 ·have hj2:j<E.length:=by omega
  have hmem:E[j].1∈t'.cl:=by rw [<-hE];exact List.mem_map.2 ⟨_,List.getElem_mem hj2,rfl⟩
  refine ZC (λ _=>True) hw (λ _ _=>trivial) λ w hw=>?_;refine Zc.mk rfl ⟨sl,oA hw,?_⟩;refine (Zs.readsM (n:=4) (s:=sl) (T:=seT) (rows:=E.map seV) hw (eqS hw)).rngM (E:=E) (g:=seV) hj2 λ a _ he=>?_;refine ⟨E[j].1.id,he.zz (by exact ⟨rfl,trivial⟩),τ.client,oA hw,Br.e (λ h4=>?_) (λ h4=>?_)⟩
  ·refine Zc.mk rfl ⟨sl,oA hw,?_⟩
   refine (Zs.readsM (n:=4) (s:=sl) (T:=seT) (rows:=E.map seV) hw (eqS hw)).rngM (E:=E) (g:=seV) hj2 λ a _ he=>?_;refine ⟨E[j].1.last,he.f 2 (by exact ⟨rfl,trivial⟩),?_⟩;rw [Zf];refine ⟨⟨j + 1,by omega,by omega,.inr ?_,hw⟩,by dsimp only;omega⟩;rw [uniq _ hmem (by omega)]
  ·rw [Zf]
   refine ⟨⟨j + 1,by omega,by omega,?_,hw⟩,by dsimp only;omega⟩;rcases hlast with ⟨g1,g2⟩|g
   ·refine .inl ⟨λ d hd=>?_,g2⟩
    rw [List.take_add_one,List.getElem?_eq_getElem hj2,List.map_append] at hd;rcases List.mem_append.1 hd with h5|h5
    ·exact g1 d h5
    ·have:d=E[j].1:=by simpa using h5
     rw [this];omega
   ·exact .inr g
 have hlast:last=c.last:=by
  rcases hlast with ⟨g1,_⟩|g
  ·rw [List.take_of_length_le (by omega),hE] at g1
   exact absurd rfl (g1 c hc)
  ·exact g
 subst hlast;have hw:Sat R (Zdf p t'::tdC b12 τ x::Hs) w:=hw.drop.drop.drop.drop;refine ⟨λ w=>c.last<1099511627776/\Sat R (Zdf p t'::tdC b12 τ x::Hs) w,?_,?_⟩
 ·refine Br.d (λ h=>by omega) (λ _=>?_)
  with_reducible refine Br.d (λ h=>?_) (λ h=>⟨by omega,hw⟩)
  rw [decide_eq_true (by omega)];exact hK _ hw.drop.drop
 clear hw;rintro _ w ⟨hlt,hw⟩;rw [Zf (x:=c.last + 1)];refine ⟨τ.client,oA hw,?_⟩;rw [<-hid];have hrd:=Zif (id:=c.id) (seq:=c.last + 1) (cmd:=cmd) ⟨by omega,by omega⟩ ⟨by omega,by omega⟩ hl4;refine (Zel (q:=doQ c.id (c.last + 1) cmd) (s:=sc) hcr hw).use ?_;clear hw;rintro _ w ⟨ua,rfl,hw⟩;rw [show (ZqE (doQ c.id (c.last + 1) cmd)).1=rqB (doQ c.id (c.last + 1) cmd) by unfold ZqE;rw [if_pos hrd]] at hw;have hlena:=ZjP hrd;have hba:Zr (rqB (doQ c.id (c.last + 1) cmd)):=ZfG hrd hcb;obtain ⟨R3,e3,g3,hw⟩:=Own.leak hw;have hra:Ro R3 ua (b8 (rqB (doQ c.id (c.last + 1) cmd))):=g3.ro;refine ⟨ua,rfl,?_⟩;refine (ZbV ok2.ok (by omega) hba (by omega) hra hw).use ?_;clear hw;rintro _ w ⟨x1,rfl,hw⟩;obtain ⟨rep,f1,f2⟩:=Zvo ok2.ok hc ⟨by omega,by omega⟩ hlt hl4;obtain ⟨ok3,hτ1,hn4⟩:=ok2.apply (by omega) hba;rw [f1] at hτ1 hw ⊢;generalize (t'.applyT (rqB (doQ c.id (c.last + 1) cmd))).2=t1 at *;obtain ⟨d,hd⟩:∃ d:Cl,d=⟨c.id,c.tok,c.last + 1,rep⟩:=⟨_,rfl⟩;rw [<-hd] at f2;have d1:d.id=c.id:=by rw [hd]
 have d2:d.last=c.last + 1:=by rw [hd]
 have d3:d.rep=rep:=by rw [hd]
 have hτ:(⟨0,c.id,c.last + 1,rep⟩:Zo3)=⟨0,d.id,d.last,d.rep⟩:=by rw [d1,d2,d3]
 rw [hτ] at hτ1 hw ⊢;rw [<-d1,<-d2] at hra;generalize hτe:(⟨0,d.id,d.last,d.rep⟩:Zo3)=τ1 at *;have hτe:=hτe.symm;have hrl:=hτ1.rep;have hag:∀ {R':Cx} {t:Tb} {Hs:List HP} {w:World},R3.Ext R'->TbL t->t.next<1000000->d∈t.cl->Sat R' (Zdf p t::Hs) w->Zm prog 23 #[nP p,.slice ua.a ua.len ua.cap] w λ v w'=>∃ y:Sl,v=.agg (tdV τ1 y).toArray/\Sat R' (Own y 5 (b8 τ1.reply)::Zdf p t::Hs) w':=λ {R' t Hs w} e k1 k2 k3 hw=>by
  rw [hτe];exact Zqy k1 k2 k3 (by omega) hl4 hcb (e.ro hra) hw
 have hn5:t1.next<=63:=by omega
 refine ⟨τ1.code,τ1.client,τ1.seq,x1,rfl,?_⟩;refine Za hw λ b18 w hw=>?_;refine sRu hw λ w hw=>?_;have hw:=hw.re (tdC b18 τ1 x1);refine ⟨τ1.code,oA hw,Br.ne (λ h=>absurd (by rw [hτe]) h) (λ _=>?_)⟩;have hw:Sat R3 (Own x1 5 (b8 τ1.reply)::Zdf p t1::tdC b18 τ1 x1::tdC b12 τ x::Hs) w:=hw.arr;obtain ⟨R4,e4,g4,hw⟩:=Own.leak hw;have hx1:Ro R4 x1 (b8 τ1.reply):=g4.ro;have done:∀ {t:Tb} {w:World},Sat R4 (Zdf p t::tdC b18 τ1 x1::tdC b12 τ x::Hs) w->K (.bool true) w:=λ hw=>hK _ (e3.back (e4.back hw)).drop.drop.drop;refine ⟨λ w=>∃ t,TbL t/\t.next<=124/\d∈t.cl/\Sat R4 (Zdf p t::tdC b18 τ1 x1::tdC b12 τ x::Hs) w,?_,?_⟩
 ·refine ⟨λ i w=>∃ (k:Nat) (t:Tb),i=k/\k<=60/\TbL t/\t.next<=k + 63/\d∈t.cl/\Sat R4 (Zdf p t::tdC b18 τ1 x1::tdC b12 τ x::Hs) w,λ i _=>60 - i.toNat,⟨0,_,rfl,by omega,ok3,by omega,f2,hw⟩,?_⟩
  clear hw;rintro _ _ w ⟨k,t,rfl,hk,okt,hnt,hdt,hw⟩;refine ⟨λ w=>(k<60/\k<qs.length)/\Sat R4 (Zdf p t::tdC b18 τ1 x1::tdC b12 τ x::Hs) w,?_,?_⟩
  ·with_reducible refine Br.d (λ h=>?_) (λ _=>⟨t,okt,by omega,hdt,hw⟩)
   with_reducible refine Br.d (λ h2=>?_) (λ _=>⟨t,okt,by omega,hdt,hw⟩)
   exact ⟨⟨by omega,by omega⟩,hw⟩
  clear hw;rintro _ w ⟨⟨hk2,hkq⟩,hw⟩;rw [Zf (x:=(k:Int) + 1)];have hkl:k<(sls qs).length:=by rw [List.length_map];omega
  have hmem:=List.getElem_mem hkq;have hsd:=hq.each _ hmem;have hby:=hq.by' _ hmem
  have hlen2:=hm2 k hkq (by omega);have hrows:=e4.ro (e3.ro hq.rows);have hsd:=e4.slR (e3.slR hsd);refine hrows.idxS (eqS hw) hkl ?_;rw [List.getElem_map];have hoth:=Zvn (bs:=qs[k].2) hdt;refine (Zm3 hby (by omega) hsd hw).use ?_;clear hw;rintro _ w ⟨td,rfl,hw⟩;replace hw:=hw.drop;rw [d1] at hoth;generalize (Zad mI qs[k].2).1=q at *;generalize (Zad mI qs[k].2).2=e at *;refine ⟨q.kind,q.client,q.seq,q.token,td,e,rfl,?_⟩;refine Za hw λ b20 w hw=>?_;refine sRu hw λ w hw=>?_;have hw:=hw.re (rqC b20 q td);refine ⟨λ w=>¬ (e=0/\q.client=c.id)/\Sat R4 (Zdf p t::tdC b18 τ1 x1::tdC b12 τ x::Hs) w,?_,?_⟩
  ·refine Br.e (λ h5=>?_) (λ h5=>⟨λ h=>h5 h.1,hw.drop⟩)
   refine ⟨q.client,oA hw,τ.client,oA hw,Br.e (λ h6=>?_) (λ h6=>⟨λ h=>h6 (by rw [h.2,hid]),hw.drop⟩)⟩;exact ⟨⟨k + 1,t,by omega,by omega,okt,by omega,hdt,hw.drop⟩,by dsimp only;omega⟩
  clear hw;rintro _ w ⟨hne,hw⟩;have hoth:=hoth hne;have hsl2:=ZhD okt.ok.c (by omega);refine (Zdr okt.ok.c okt.rise (by omega) hw).use ?_;clear hw;rintro _ w ⟨sv2,rfl,hw⟩;refine ⟨sv2,rfl,?_⟩;refine (hag e4 okt (by omega) hdt hw.swap).use ?_;clear hw;rintro _ w ⟨y,rfl,hw⟩;refine ⟨τ1.code,τ1.client,τ1.seq,y,rfl,?_⟩;refine Za hw λ b23 w hw=>?_;refine sRu hw λ w hw=>?_;have hw:=hw.re (tdC b23 τ1 y);refine ⟨τ1.code,τ1.client,τ1.seq,x1,oA hw,τ1.code,τ1.client,τ1.seq,y,oA hw,?_⟩;have hw:Sat R4 (Own y 5 (b8 τ1.reply)::tdC b23 τ1 y::Zdf p t::Own sv2 5 (b8 (Zcs t))::tdC b18 τ1 x1::tdC b12 τ x::Hs) w:=hw.arr;obtain ⟨R5,e5,g5,hw⟩:=Own.leak hw;refine (ZgR (q:=τ1) (e5.ro hx1) (g5.ro) hw).use ?_;clear hw;rintro _ w ⟨rfl,hw⟩;have hw:Sat R4 (Zdf p t::Own sv2 5 (b8 (Zcs t))::tdC b18 τ1 x1::tdC b12 τ x::Hs) w:=(e5.back hw).drop;refine ⟨_,rfl,?_⟩;obtain ⟨SV,hSV⟩:∃ z,z=Zcs t:=⟨_,rfl⟩;rw [<-hSV] at hw hsl2;have hw:Sat R4 (Own sv2 5 (b8 SV)::Zdf p t::tdC b18 τ1 x1::tdC b12 τ x::Hs) w:=hw.arr;refine ZC (Sat R4 [Own sv2 5 (b8 SV),VC.tru]) hw (λ w hw=>hw.restTru2) λ w hw=>Br.f rfl ?_;refine ⟨VC.strOf SV,λ w' h=>?_,?_⟩
  ·obtain ⟨_,q1,_,hw1,_⟩:=Own.lend h (by rw [List.length_map];omega)
   exact Zdc underlying47 underlying5 underlying9 hw1 q1
  refine (Zdr okt.ok.c okt.rise (by omega) hw.swap).use ?_;clear hw;rintro _ w ⟨s5,rfl,hw⟩;rw [<-hSV] at hw;have hw:Sat R4 (Own sv2 5 (b8 SV)::Own s5 5 (b8 SV)::Zdf p t::tdC b18 τ1 x1::tdC b12 τ x::Hs) w:=hw.arr;refine ⟨s5,rfl,hw.restTru2,VC.strOf SV,ZkI (t:=s5) (T:=5) (bs:=SV) (by omega) hw,?_⟩;refine Br.sne (λ h=>absurd rfl h) (λ _=>?_);have hw:Sat R4 (Zdf p t::tdC b18 τ1 x1::tdC b12 τ x::Hs) w:=hw.drop.drop;refine hrows.idxS (eqS hw) hkl ?_;rw [List.getElem_map];obtain ⟨ok5,_,hn6⟩:=okt.apply (by omega) hby;refine (ZbV okt.ok (by omega) hby (by omega) (hsd.ro) hw).use ?_;clear hw;rintro _ w ⟨z,rfl,hw⟩;refine ⟨_,_,_,z,rfl,⟨k + 1,_,by omega,by omega,ok5,by omega,hoth,hw.drop⟩,by dsimp only;omega⟩
 clear hw;rintro _ w ⟨t,okt,hnt,hdt,hw⟩;have hsl2:=ZhD okt.ok.c (by omega);refine (Zdr okt.ok.c okt.rise (by omega) hw).use ?_;clear hw;rintro _ w ⟨sv2,rfl,hw⟩;refine ⟨sv2,rfl,?_⟩;refine (hag e4 okt (by omega) hdt hw.swap).use ?_;clear hw;rintro _ w ⟨y,rfl,hw⟩;refine ⟨τ1.code,τ1.client,τ1.seq,y,rfl,?_⟩;refine Za hw λ b23 w hw=>?_;refine sRu hw λ w hw=>?_;have hw:=hw.re (tdC b23 τ1 y);refine ⟨τ1.code,τ1.client,τ1.seq,x1,oA hw,τ1.code,τ1.client,τ1.seq,y,oA hw,?_⟩;have hw:Sat R4 (Own y 5 (b8 τ1.reply)::tdC b23 τ1 y::Zdf p t::Own sv2 5 (b8 (Zcs t))::tdC b18 τ1 x1::tdC b12 τ x::Hs) w:=hw.arr;obtain ⟨R5,e5,g5,hw⟩:=Own.leak hw;refine (ZgR (q:=τ1) (e5.ro hx1) (g5.ro) hw).use ?_;clear hw;rintro _ w ⟨rfl,hw⟩;have hw:Sat R4 (Zdf p t::Own sv2 5 (b8 (Zcs t))::tdC b18 τ1 x1::tdC b12 τ x::Hs) w:=(e5.back hw).drop;refine ⟨_,rfl,?_⟩;obtain ⟨SV,hSV⟩:∃ z,z=Zcs t:=⟨_,rfl⟩;rw [<-hSV] at hw hsl2;have hw:Sat R4 (Own sv2 5 (b8 SV)::Zdf p t::tdC b18 τ1 x1::tdC b12 τ x::Hs) w:=hw.arr;refine ZC (Sat R4 [Own sv2 5 (b8 SV),VC.tru]) hw (λ w hw=>hw.restTru2) λ w hw=>Br.t rfl ?_;refine ⟨VC.strOf SV,λ w' h=>?_,?_⟩
 ·obtain ⟨_,q1,_,hw1,_⟩:=Own.lend h (by rw [List.length_map];omega)
  exact Zdc underlying47 underlying5 underlying9 hw1 q1
 refine (Zdr okt.ok.c okt.rise (by omega) hw.swap).use ?_;clear hw;rintro _ w ⟨s5,rfl,hw⟩;rw [<-hSV] at hw;have hw:Sat R4 (Own sv2 5 (b8 SV)::Own s5 5 (b8 SV)::Zdf p t::tdC b18 τ1 x1::tdC b12 τ x::Hs) w:=hw.arr;refine ⟨s5,rfl,hw.restTru2,VC.strOf SV,ZkI (t:=s5) (T:=5) (bs:=SV) (by omega) hw,?_⟩;rw [beq_self_eq_true];exact done hw.drop.drop
end
section
open Go Go.VC Go.ChangeShapes Go.WideShapes Go.ChangeAt Go.RowKit
variable {H:Type} {enc:TypeId × Value->H} {W:World} {r:Reach} {b0:Nat} {v:Value} {d:DataW H} {p:List MemPlace}
theorem ZwJ {R:Cx} {s:Sl} {xs:List Tr} (ho:Tr.Ok R (.sl (.int .u8)) (.sl s xs)):∃ bs:List Int,SlR R.m s (b8 bs)/\Zr bs:=by
 obtain ⟨bs,h1,h2,h3⟩:=Zl8 ho;refine ⟨bs,⟨h1.len,ZvT ho,h1.mem⟩,λ z hz=>?_⟩;have:=h3 z hz;simp [Lit.wf,IntKind.min,IntKind.max,IntKind.bits,IntKind.signed] at this;omega
theorem ZpH {R:Cx} {x:Tr} (h:x.Ok R (.sl (.int .u8))):∃ e:Sl × List Int,x.cells=[e.1.v]/\SlR R.m e.1 (b8 e.2)/\Zr e.2:=by
 cases x<;>simp only [Tr.Ok] at h;rename_i s xs;have h:Tr.Ok R (.sl (.int .u8)) (.sl s xs):=by unfold Tr.Ok;exact h
 obtain ⟨bl,h1,h2⟩:=ZwJ h;exact ⟨(s,bl),rfl,h1,h2⟩
set_option maxRecDepth 100000 in
theorem ZlM (hv:Value.okWide Tryz.prog W r b0 49 v) (h:DataW.Trod enc Tryz.prog W 0 (λ _=>true) true 49 v d p):
  ∃ (m:Sl) (ps:List (Sl × List Int)),v=.slice m.a m.len m.cap/\ZAg (Cx.of W) m ps:=by
 obtain ⟨a,n,c,rfl⟩:=okWide_slice Tryz.underlying49 hv;obtain ⟨x,hx,ho⟩:=ZvQ (d:=6) (u:=.sl (.sl (.int .u8))) (by kernel_rfl) h;cases x<;>simp only [Tr.Ok] at ho;rename_i s xs;obtain ⟨ps,h1,h2,h3⟩:=Zrf (λ e:Sl × List Int=>[e.1.v]) (λ e=>SlR (Cx.of W).m e.1 (b8 e.2)/\Zr e.2) (show Tr.Ok (Cx.of W) (.sl (.sl (.int .u8))) (.sl s xs) by unfold Tr.Ok;exact ho) λ x hx=>ZpH hx;have h1:RoN 1 (Cx.of W) s (((sls ps).map Sl.v).map λ v=>[v]):=by rw [List.map_map,List.map_map];exact h1
 refine ⟨s,ps,?_,⟨h1.one (by simpa using h2),λ e he=>(h3 e he).1,λ e he=>(h3 e he).2⟩⟩;have:[Value.slice s.a s.len s.cap]=[Value.slice a n c]:=by simpa [Tr.cells,Value.cells] using hx
 exact (List.cons.inj this).1.symm
end
end Go.Proofs.YtlplemdmegpoeaaGreatDoor
