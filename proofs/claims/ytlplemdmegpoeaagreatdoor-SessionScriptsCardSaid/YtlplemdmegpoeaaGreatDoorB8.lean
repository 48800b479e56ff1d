/- Reference 19: Apply. Condition: bounds. -/
import Derived.Test.YtlplemdmegpoeaaGreatDoorB7
import Derived.Test.YtlplemdmegpoeaaGreatDoorB3
import Derived.Test.YtlplemdmegpoeaaGreatDoorB2
set_option linter.unusedVariables false
set_option linter.defProp false
set_option linter.unusedSimpArgs false
set_option maxHeartbeats 8000000
namespace Go.Proofs.YtlplemdmegpoeaaGreatDoor
section
open Go Go.VC Tryz
open Classical
variable {R:Cx} {Hs Rest:List HP} {w:World} {p:Nat}
def ZoI {t:Tb} {tok:Int}:(t.beginT tok).1.reply=[]:=by
 unfold Tb.beginT;split
 ·rfl
 ·split<;>rfl
def Zmq (l:List CE):ZN (l.map seV).flatten=true:=by
 unfold ZN;rw [qW];intro v a;obtain ⟨r,d,h⟩:=jZ.1 a;obtain ⟨x,_,rfl⟩:=qm.1 d;simp only [seV,qk,qO,jP] at h;rcases h with rfl|rfl|rfl|rfl<;>rfl
def Zco {bs:List Int}:(ZU mI bs).1.cmd.length<=4000:=by
 unfold ZU;split
 ·rename_i h
  exact h.2.cmd
 ·exact jB _
def Zmt {bs:List Int}:(ZU mI bs).2=0\/(ZU mI bs).2=6:=by
 unfold ZU;split
 ·exact .inl rfl
 ·exact .inr rfl
def ZgO {t:Tb} {bs:List Int} {s:Sl} (ok:ZfY t) (hn:t.next<1000000) (V:ZV bs) (hl:bs.length<=1099511627776) (hs:SlR R.m s (b8 bs)) (o:Sat R (XN p t::Hs) w):
  Zg prog 30 #[nP p,.slice s.a s.len s.cap] w λ v w'=>∃ x:Sl,v=.agg (tdV (t.applyT bs).1 x).toArray/\Xz R Hs p (t.applyT bs).1.reply (t.applyT bs).2 x w':=by
 apply Zwa
 suffices H:∀ K:Value->xE,(∀ x w',Xz R Hs p (t.applyT bs).1.reply (t.applyT bs).2 x w'->K (.agg (tdV (t.applyT bs).1 x).toArray) w')->B30 (some ⟨p,0,none⟩) s K w from H _ λ x w' h=>⟨x,rfl,h⟩
 intro K hK;refine Za o λ b4 w o=>?_;refine (Zcw V hl hs o).u1 λ cs w o=>?_;have G:=G6 (m:=mI) V;have n:=ZeQ (bs:=bs) V;have W:=Zco (bs:=bs);have I:=Zmt (bs:=bs);have y:t.applyT bs=if (ZU mI bs).2≠0 then (XH (ZU mI bs).2,t) else t.askT (ZU mI bs).1:=rfl
 obtain ⟨q,J⟩:=xx ((ZU mI bs).1);obtain ⟨er,L⟩:=xx ((ZU mI bs).2);rw [<-J] at o G n W y;rw [<-L] at n I y;rw [<-J,<-L];refine ⟨q.kind,q.client,q.seq,q.token,cs,er,rfl,?_⟩;refine Za o λ b5 w o=>?_;refine sRu o λ w o=>?_;have o:=o.re (rqC b5 q cs);have o:Sat R (tdC b4 (XH 0) Yt::rqC b5 q cs::Own cs 5 (b8 q.cmd)::XN p t::Hs) w:=(show Sat R (rqC b5 q cs::Own cs 5 (b8 q.cmd)::tdC b4 (XH 0) Yt::XN p t::Hs) w from o).arr
 have err:∀ {e:Int} {w:World},t.applyT bs=(XH e,t)->Sat R (tdC b4 (XH 0) Yt::rqC b5 q cs::Own cs 5 (b8 q.cmd)::XN p t::Hs) w->
   ∃ r:World,((Instr.storeAt 54 (xP ((some ⟨b4,0,none⟩))) (.agg #[nI e,nI 0,nI 0,.slice none 0 0])).run prog w=.ok () r)/\
   ∃ u:Int,∃ M:Int,∃ N:Int,∃ z:Sl,(At (λ w'=>w'=r) ⟨b4,0,none⟩ [nI u,nI M,nI N,.slice z.a z.len z.cap])/\
   K (.agg #[nI u,nI M,nI N,.slice z.a z.len z.cap]) r:=λ {e w} h o=>by
  rw [h] at hK;exact Yw (τ:=XH e) (s:=Yt) o λ w o=>hK _ _ (Xz.nil o.drop.drop)
 refine Br.ne (λ h=>?_) (λ h=>?_)
 ·rw [qf h,I.resolve_left h] at y
  exact err y o
 rw [qc (λ h2=>h2 h)] at y;have hq:=n h;have O:t.askT q=if q.kind=4 then (XH 1,t) else if q.kind=1 then t.beginT q.token
  else match t.cl.find? (λ c=>c.id==q.client) with
   |none=>(if 1<=q.client/\q.client<t.next then XH 10 else XH 2,t)
   |some c=>if q.kind=3 then (⟨0,q.client,0,[]⟩,{ t with cl:=t.cl.filter λ d=>d.id !=q.client }) else t.doT c q:=rfl
 rw [O] at y;refine ⟨q.kind,oA o,Br.e (λ U=>?_) (λ U=>Br.e (λ X=>?_) (λ X=>?_))⟩
 ·rw [qf U] at y
  exact err y o
 ·rw [qc U,qf X] at y
  rw [y] at hK;refine ⟨q.kind,q.client,q.seq,q.token,cs,oA o,?_⟩;have o:=o.m3;refine (ZgN (q:=q) (s:=cs) ok hn o).u λ w o=>?_;refine ⟨_,_,_,Yt,rfl,?_⟩;have o:=o.b3;refine Yw (τ:=(t.beginT q.token).1) (s:=Yt) o λ w o=>hK _ _ ?_;rw [ZoI];exact Xz.nil o.drop.drop
 rw [qc U,qc X] at y;have P:=ok.few;have o:=o.m3;obtain ⟨sl,bk,E,F,o⟩:=Sat.rtb.1 o;have h8:E.length=t.cl.length:=by rw [<-F,qa]
 have h0:=Zcm o;refine ⟨q.client,oA o,?_⟩;refine (ZgM (id:=q.client) (by omega) o).use ?_;clear o;rintro _ w ⟨⟨i,rfl,hi⟩,o⟩;rw [F] at hi;refine ⟨i,rfl,Br.d (λ h9=>?_) (λ ha=>?_)⟩
 ·have f:t.cl.find? (λ c=>c.id==q.client)=none:=by
   rcases hi with h|⟨A,e,C,rfl,_⟩
   ·exact h.2
   ·omega
  rw [f] at y;dsimp only at y;have back:∀ {w:World},Sat R (RTO p t.next sl (some ⟨bk,0,none⟩) E (Zk bk t.bk::tdC b4 (XH 0) Yt::rqC b5 q cs::Own cs 5 (b8 q.cmd)::Hs)) w->Sat R (tdC b4 (XH 0) Yt::rqC b5 q cs::Own cs 5 (b8 q.cmd)::XN p t::Hs) w:=λ {w} o=>by
   have o:Sat R (XN p t::tdC b4 (XH 0) Yt::rqC b5 q cs::Own cs 5 (b8 q.cmd)::Hs) w:=Sat.rtb.2 ⟨sl,bk,E,F,o⟩;exact o.arr
  refine Zi o λ w o=>⟨q.client,oS,Br.d (λ Y=>?_) (λ Y=>?_)⟩
  ·refine ⟨q.client,oS,Zb.mk rfl ⟨t.next,oS,Br.d (λ S=>?_) (λ S=>?_)⟩⟩
   ·rw [qf ⟨Y,S⟩] at y
    exact err y (back o)
   ·rw [qc (λ h=>S h.2)] at y
    exact err y (back o)
  ·rw [qc (λ h=>Y h.1)] at y
   exact err y (back o)
 obtain ⟨A,e,C,rfl,rfl,Q,D⟩:=hi.resolve_left λ h=>by omega
 rw [D] at y;dsimp only at y;have j:=ok.ids;rw [<-F] at j;refine ⟨q.kind,oA o,Br.e (λ B=>?_) (λ B=>?_)⟩
 ·rw [qf B] at y
  rw [y] at hK;have hc:((A++e::C).map seV).length=(A++e::C).length:=qa ..;have hd:(A++e::C).length=A.length + (C.length + 1):=by simp
  have o:=o.m1;have h7:=Zn.cap (by omega) o;obtain ⟨R',g,⟨xh,hx⟩,o,lback⟩:=Zn.lend o;refine Zj (Sat R' [pts p (Vx t.next sl (some ⟨bk,0,none⟩)),VC.tru]) o (λ w o=>o.restTru2) λ w o=>?_;rw [Zc (x:=((A.length:Nat):Int) + 1) (by omega) (by omega),show (((A.length:Nat):Int) + 1).toNat=A.length + 1 by omega];refine Zb.mk rfl ⟨sl,oS,by omega,by omega,Zb.mk rfl ⟨sl,oS,by omega,by omega,?_⟩⟩;refine Za o λ T w o=>⟨o.swap.restTru2,?_⟩;refine Xd (b:=T) (ys:=((A++e::C).map seV).take A.length) Zx9 o (Vv ⟨_,underlying62⟩ o (g.take (h:=A.length) (by omega) sl.cap) (by rw [<-jk];exact Zmq _)) g.wid.take (by rw [qd];omega) (by rw [qd];omega) λ s1 w o=>⟨o.swap.restTru2,?_⟩;have k:=g.sub (l:=A.length + 1) (h:=sl.len) (m:=sl.cap) (by omega) (by omega) (by omega);rw [qg (show ((A++e::C).map seV).length<=sl.len by omega)] at k;refine ZY (ys:=((A++e::C).map seV).drop (A.length + 1)) Zx9 o (Vv ⟨_,underlying62⟩ o k (by rw [<-jo];exact Zmq _)) g.wid.drop (by simp only [qd,qx];omega) (by simp only [qd,qx];omega) λ s3 w o=>⟨o.swap.restTru2,Zb.mk rfl ?_⟩;have o:=lback o;have e1:((A++e::C).map seV).take A.length++((A++e::C).map seV).drop (A.length + 1)=(A++C).map seV:=by
   rw [<-jk,<-jo,<-qe];simp
  rw [e1] at o;have o:=o.m1.m2;refine sRu o λ w o=>?_;have o:=o.re (pts p (Vx t.next s3 (some ⟨bk,0,none⟩)));refine ⟨q.client,oA o,?_⟩;have o:=o.m4.m2.m2.m4.m4.m7.m7.m7;refine Yw (τ:=⟨0,q.client,0,[]⟩) (s:=Yt) o λ w o=>hK _ _ (Xz.nil (Sat.rtb.2 ⟨s3,bk,A++C,?_,?_⟩))
  ·rw [Zvc j,Q,F]
  ·have o:=o.drop.drop.drop
   have ee:(A++e::C).map XK=A.map XK++XK e::C.map XK:=by rw [qe,qi]
   rw [ee] at o;have o:=(ZaE.1 o).drop;rw [<-qe] at o;exact o.arr
 ·rw [qc B] at y
  rw [y] at hK;refine ⟨q.kind,q.client,q.seq,q.token,cs,oA o,?_⟩;have o:=o.m6;obtain ⟨R1,x1,g1,o⟩:=Own.leak o;refine (ZmO ok hq Q F g1 G o).use ?_;clear o;rintro _ w ⟨x,rfl,R',Ks,k1,k2,k3,k4⟩;refine ⟨_,_,_,x,rfl,?_⟩;have o:=k3.perm qY;exact Yw (τ:=(t.doT e.1 q).1) (s:=x) o λ w o=>hK _ _ (Xz.ext x1 (Xz.drop ⟨R',Ks,k1,k2,o,k4⟩))
noncomputable def Zce (b:ZF) (cmd:List Int):Rp:=if (Z5 cmd).2≠0 then Z4 (Z5 cmd).2 else Xv b (Z5 cmd).1
noncomputable def Zag (t:Tb) (bs:List Int):Zkg:=if (ZU mI bs).2≠0 then XH (ZU mI bs).2 else if (ZU mI bs).1.kind≠4 then XH 1 else ⟨0,0,0,rpB (Zce t.bk (ZU mI bs).1.cmd)⟩
def Zoo {cmd:List Int}:(Z5 cmd).2=0\/(Z5 cmd).2=6:=by
 unfold Z5;split
 ·exact .inl rfl
 ·exact .inr rfl
def ZaS {b:ZF} {cmd:List Int} (k:YK b):Zkh (Zce b cmd):=by
 have:=Zoo (cmd:=cmd);unfold Zce;split
 ·exact Yb (by omega)
 ·exact Zgz k
def ZjJ {b7 b4:Nat} {v:Rp} {f b:Sl} {K:Int->Int->Int->Sl->xE} (p:Zkh v) (o:Sat R (Own f 3 (Zd v.left)::Own b 9 (v.labs.map Value.string)::rpC b7 v f b::tdC b4 (XH 0) Yt::Hs) w) (hK:∀ q w',Sat R (Own q 5 (b8 (rpB v))::Hs) w'->K 0 0 0 q w'):
  ∃ r:Int,∃ y:ByteArray,∃ z:Int,∃ g:Int,∃ j:Int,∃ k:Int,∃ l:Int,∃ h:Sl,∃ d:Sl,(At (λ w'=>w'=w) ⟨b7,0,none⟩ [nI r,xZ y,nI z,nI g,nI j,nI k,nI l,.slice h.a h.len h.cap,.slice d.a d.len d.cap])/\
   nC 89 #[.agg #[nI r,xZ y,nI z,nI g,nI j,nI k,nI l,.slice h.a h.len h.cap,.slice d.a d.len d.cap]] w λ c t=>
   ∃ u:Sl,(c=xR (.slice u.a u.len u.cap))/\
   ∃ m:World,((Instr.storeAt 54 (xP ((some ⟨b4,0,none⟩))) (.agg #[nI 0,nI 0,nI 0,.slice u.a u.len u.cap])).run prog t=.ok () m)/\
   ∃ x:Int,∃ e:Int,∃ n:Int,∃ i:Sl,(At (λ w'=>w'=m) ⟨b4,0,none⟩ [nI x,nI e,nI n,.slice i.a i.len i.cap])/\
   K x e n i m:=by
 have D:=p.ll;have E:=p.bl;refine ⟨v.code,v.pnr,v.state,v.flt,v.cls,v.many,v.time,f,b,oA o,?_⟩;obtain ⟨I,F,G,o⟩:=Own.leak o;obtain ⟨J,A,H,o⟩:=Own.leak o;refine (Gk (ZdR p) (A.ro (G.ro)) H o).u1 λ q w o=>?_;have o:=F.back (A.back o);have o:=o.m1.m2;exact ⟨q,rfl,Yw (τ:=⟨0,0,0,[]⟩) (s:=q) o λ w o=>hK q w o.drop⟩
def Zig {t:Tb} {bs:List Int} {s:Sl} (ok:ZfY t) (V:ZV bs) (hl:bs.length<=1099511627776) (hs:SlR R.m s (b8 bs)) (d:Sat R (XN p t::Hs) w):
  Zg prog 32 #[nP p,.slice s.a s.len s.cap] w λ v w'=>∃ x:Sl,v=.agg (tdV (Zag t bs) x).toArray/\Sat R (Own x 5 (b8 (Zag t bs).reply)::XN p t::Hs) w':=by
 apply Zv8
 suffices H:∀ K:Value->xE,(∀ x w',Sat R (Own x 5 (b8 (Zag t bs).reply)::XN p t::Hs) w'->K (.agg (tdV (Zag t bs) x).toArray) w')->B32 (some ⟨p,0,none⟩) s K w from H _ λ x w' h=>⟨x,rfl,h⟩
 intro K hK;refine Za d λ b4 w d=>?_;refine (Zcw V hl hs d).u1 λ cs w d=>?_;have z:=G6 (m:=mI) V;have G:=Zco (bs:=bs);have l:=Zmt (bs:=bs);have o:Zag t bs=if (ZU mI bs).2≠0 then XH (ZU mI bs).2 else if (ZU mI bs).1.kind≠4 then XH 1 else ⟨0,0,0,rpB (Zce t.bk (ZU mI bs).1.cmd)⟩:=rfl
 obtain ⟨q,n⟩:=xx ((ZU mI bs).1);obtain ⟨B,r⟩:=xx ((ZU mI bs).2);rw [<-n] at d z G o;rw [<-r] at l o;rw [<-n,<-r];refine ⟨q.kind,q.client,q.seq,q.token,cs,B,rfl,?_⟩;refine Za d λ b5 w d=>?_;refine sRu d λ w d=>?_;have d:=d.re (rqC b5 q cs);have d:Sat R (Own cs 5 (b8 q.cmd)::tdC b4 (XH 0) Yt::rqC b5 q cs::XN p t::Hs) w:=(show Sat R (rqC b5 q cs::Own cs 5 (b8 q.cmd)::tdC b4 (XH 0) Yt::XN p t::Hs) w from d).arr
 have err:∀ {e:Int} {w:World},Zag t bs=XH e->Sat R (Own cs 5 (b8 q.cmd)::tdC b4 (XH 0) Yt::rqC b5 q cs::XN p t::Hs) w->
   ∃ g:World,((Instr.storeAt 54 (xP ((some ⟨b4,0,none⟩))) (.agg #[nI e,nI 0,nI 0,.slice none 0 0])).run prog w=.ok () g)/\
   ∃ u:Int,∃ f:Int,∃ b:Int,∃ y:Sl,(At (λ w'=>w'=g) ⟨b4,0,none⟩ [nI u,nI f,nI b,.slice y.a y.len y.cap])/\
   K (.agg #[nI u,nI f,nI b,.slice y.a y.len y.cap]) g:=λ {e w} h d=>by
  rw [h] at hK;exact Yw (τ:=XH e) (s:=Yt) d.drop λ w d=>hK _ _ (Own.nil d.drop)
 refine Br.ne (λ h=>?_) (λ h=>?_)
 ·rw [qf h,l.resolve_left h] at o
  exact err o d
 rw [qc (λ A=>A h)] at o;refine ⟨q.kind,oA d,Br.ne (λ I=>?_) (λ I=>?_)⟩
 ·rw [qf I] at o
  exact err o d
 rw [qc (λ A=>A I)] at o;rw [o] at hK;have j:=ZaS (cmd:=q.cmd) ok.bk;have i:Zce t.bk q.cmd=if (Z5 q.cmd).2≠0 then Z4 (Z5 q.cmd).2 else Xv t.bk (Z5 q.cmd).1:=rfl
 obtain ⟨T,J,L⟩:=ZaD z;have ce6:=Zoo (cmd:=q.cmd);refine Za d λ M w d=>?_;refine sRu d λ w d=>?_;have d:=d.re (rpC M (Z4 6) Ze Ze);refine ⟨cs,oA d,?_⟩;obtain ⟨P,W,g1,d⟩:=Own.leak d.swap;refine (Zcx z (by omega) g1 d).use ?_;clear d;rintro _ w ⟨sg,sp,rfl,d⟩;obtain ⟨c,X⟩:=xx ((Z5 q.cmd).1);obtain ⟨ce,D⟩:=xx ((Z5 q.cmd).2);rw [<-X] at d T J L i;rw [<-D] at ce6 i;rw [<-X,<-D];refine ⟨c.kind,c.pnr,c.flt,c.cls,c.many,c.time,c.sc,c.lab,c.rows,sg,sp,ce,rfl,?_⟩;refine Za d λ b9 w d=>?_;refine sRu d λ w d=>?_;have d:=d.re (cmC b9 c sg sp);obtain ⟨k,N⟩:=xx (Zce t.bk q.cmd);rw [<-N] at j i hK;refine Br.e (λ F=>?_) (λ F=>?_)
 ·rw [qc (λ A=>A F)] at i
  have d:=d.m6;obtain ⟨sl,bk,E,hE,d⟩:=Sat.rtb.1 d;have d:=d.m2.m2.m2.m9.m9.m9.m7.m7.m9.m9;obtain ⟨R2,e2,g2,d⟩:=Own.leak d;obtain ⟨R3,Y,g3,d⟩:=Own.leak d;refine Zi d λ w d=>Zb.mk rfl ⟨some ⟨bk,0,none⟩,oS,c.kind,c.pnr,c.flt,c.cls,c.many,c.time,c.sc,c.lab,c.rows,sg,sp,oS,?_⟩;refine (ZdP ok.bk.core (Y.ro (g2.ro)) (by omega) (by have:=g3.len;simpa using this) d).use ?_;clear d;rintro _ w ⟨S,C,rfl,d⟩;rw [<-i] at d ⊢;refine ⟨_,_,_,_,_,_,_,S,C,rfl,?_⟩;have d:=e2.back (Y.back d);have d:=d.m4;refine sRu d λ w d=>?_;have d:=d.re (rpC M k S C);have d:=d.m3.m9.m9.m9.m9.m8.m9.m7.m9.m9;refine ZjJ j d λ O w d=>hK O w (W.back (d.cons λ _ h=>Sat.rtb.2 ⟨sl,bk,E,hE,h.drop.drop⟩))
 ·rw [qf F,ce6.resolve_left F] at i
  have Q:k.left=[]:=by rw [i];rfl
  have U:k.labs=[]:=by rw [i];rfl
  rw [<-i] at d
  skip
  have d:Sat P (Own Ze 3 (Zd k.left)::Own Ze 9 (k.labs.map Value.string)::rpC M k Ze Ze::tdC b4 (XH 0) Yt::rqC b5 q cs::XN p t::Hs) w:=by
   rw [Q,U];exact Own.nil (Own.nil d.drop.drop.drop)
  exact ZjJ j d λ O w d=>hK O w (W.back (d.cons λ _ h=>h.drop))
def Zif {t:Tb} (k:TbC t) (Q:t.next<=1099511627776) (o:Sat R (XN p t::Hs) w):
  Zg prog 33 #[nP p] w λ v w'=>∃ s:Sl,v=.slice s.a s.len s.cap/\Sat R (Own s 5 (b8 (G4 t))::XN p t::Hs) w':=by
 apply Zv7
 suffices H:∀ K:Value->xE,(∀ (s:Sl) w',Sat R (Own s 5 (b8 (G4 t))::XN p t::Hs) w'->K (.slice s.a s.len s.cap) w')->B33 (some ⟨p,0,none⟩) K w from H _ λ t w' h=>⟨t,rfl,h⟩
 intro K hK;have knx:=k.nx;have kfew:=k.few;obtain ⟨sl,bk,E,L,o⟩:=Sat.rtb.1 o;have V:E.length=t.cl.length:=by rw [<-L,qa]
 have U:=Zcm o;have a5:∀ j,(((t.cl.take j).map clB).flatten).length<=66000 * 64:=λ j=>by
  have:=YT (l:=t.cl.take j) (code:=clB) (m:=66000) λ c W=>ZfN (k.each c (qw W)) Q;rw [qd] at this;have X:min j t.cl.length<=64:=by omega
  have:=ut 66000 X;omega
 refine Zj (Sat R [pts p (Vx t.next sl (some ⟨bk,0,none⟩)),VC.tru]) o (λ w o=>o.restTru2) λ w o=>?_;refine Zb.mk rfl ⟨t.next,oS,Zb.mk rfl ⟨sl,oS,?_⟩⟩;rw [show ((sl.len:Nat):Int)=((t.cl.length:Nat):Int) by omega];refine Za o λ Y w o=>⟨o.swap.restTru2,?_⟩;refine (Zcv (xs:=[t.next,(t.cl.length:Int)]) rfl (λ x y=>by
  simp only [qk,qO,jP] at y;rcases y with rfl|rfl<;>omega) (by simp) o).u1 λ S w o=>?_
 refine ⟨S,rfl,o.swap.restTru2,?_⟩;obtain ⟨b,q⟩:=xx (Zf ([t.next,(t.cl.length:Int)].map nn));have C:b.length<=18:=by
  rw [q];exact nnl (l:=[t.next,(t.cl.length:Int)]) λ x y=>by
   simp only [qk,qO,jP] at y;rcases y with rfl|rfl<;>omega
 have M:G4 t=b++(t.cl.map clB).flatten++XI (Gi t.bk):=by rw [q];rfl
 rw [<-q] at o;refine ⟨λ out i w=>∃ j:Nat,i=j/\j<=t.cl.length/\Sat R (Own out 5 (b8 (b++((t.cl.take j).map clB).flatten))::RTO p t.next sl (some ⟨bk,0,none⟩) E (Zk bk t.bk::Hs)) w,
  λ _ i _=>t.cl.length - i.toNat,⟨0,rfl,by omega,by simpa using o⟩,?_⟩
 clear o;rintro _ out _ w ⟨j,rfl,hj,o⟩;have B:=a5 j;refine Zb.mk rfl ⟨sl,oA o,Br.d (λ h=>?_) (λ h=>?_)⟩
 ·have r:j<E.length:=by omega
  have A:j<t.cl.length:=by omega
  obtain ⟨e,f⟩:=xx (E[j]);have D:t.cl[j]=e.1:=by
   have:t.cl[j]? =some e.1:=by rw [<-L,List.getElem?_map,List.getElem?_eq_getElem r,f];rfl
   rw [List.getElem?_eq_getElem A] at this;exact jp this
  have F:e.1∈t.cl:=by rw [<-D];exact qh _
  have u:=k.each _ F;have x1:=u.id;have x2:=u.tok;have x3:=u.last;have x4:=u.rep;have P:=ZfN u Q;have G:clB e.1=Zf ([e.1.id,e.1.tok,e.1.last].map nn)++XI e.1.rep:=rfl;have I:=qH List.length G;rw [qb] at I;refine Zb.mk rfl ⟨sl,oA o,?_⟩;refine (Zn.readsM (n:=4) (s:=sl) (T:=seT) (rows:=E.map seV) o (eqS o)).rngM (E:=E) (g:=seV) r λ a _ N=>?_;rw [<-f] at N;refine ⟨e.1.id,e.1.tok,e.1.last,e.2,N.z (by exact ⟨rfl,rfl,rfl,rfl,trivial⟩),?_⟩;clear N;refine Za o λ b5 w o=>?_;refine sRu o λ w o=>?_;have o:=o.re (seC b5 e);refine ⟨e.1.id,oA o,e.1.tok,oA o,e.1.last,oA o,?_⟩;refine Za o λ h1 w o=>?_;refine (Zcv (xs:=[e.1.id,e.1.tok,e.1.last]) rfl (λ x y=>by
   simp only [qk,qO,jP] at y;rcases y with rfl|rfl|rfl<;>omega) (by simp) o).u1 λ t1 w o=>?_
  refine ⟨t1,rfl,?_⟩;have o:=o.m1.b2;refine ZfX (by rw [qb];omega) o λ t3 w o=>⟨e.2,oA o,?_⟩;have J:E.map XK=(E.take j).map XK++Own e.2 5 (b8 e.1.rep)::(E.drop (j + 1)).map XK:=by
   conv=>lhs;rw [<-qD j E,qv r,<-f]
   rw [qe,qi];rfl
  have o:=o.m4;rw [J] at o;obtain ⟨R',g1,_,o,back⟩:=Own.lend (ZaE.1 o) (by rw [qa];omega);refine (Gz g1 (by omega) o).u1 λ t4 w o=>?_;refine ⟨t4,rfl,?_⟩;have o:=back o;have o:=o.m1.b2;have o:=ZaE.2 o;rw [<-J] at o;have o:=o.b5;refine ZfX (by simp only [qb];omega) o λ t5 w o=>?_;rw [Zc];refine ⟨⟨j + 1,by omega,by omega,?_⟩,by dsimp only;omega⟩;have ebs:b++((t.cl.take j).map clB).flatten++Zf ([e.1.id,e.1.tok,e.1.last].map nn)++XI e.1.rep=b++((t.cl.take (j + 1)).map clB).flatten:=by
   rw [Zoq A,D,G];simp only [qn]
  rw [ebs] at o;exact o.cons λ _ h=>h.drop
 ·have O:j=t.cl.length:=by omega
  rw [O,jz] at o;have a50:=a5 t.cl.length;rw [jz] at a50;have h3:=Zcf k.core;have l5:=Yr (d:=Gi t.bk) (by omega);refine Zb.mk rfl ⟨some ⟨bk,0,none⟩,oA o,?_⟩;have o:=o.m4;refine (ZkF k.core o).u1 λ u1 w o=>?_;refine ⟨u1,rfl,?_⟩;refine (Zcj (by omega) o).u1 λ u2 w o=>?_;refine ⟨u2,rfl,?_⟩;have o:=o.m1.b5;refine ZfX (by simp only [qb];omega) o λ t6 w o=>hK t6 w ?_;rw [<-M] at o;exact o.cons λ _ h=>Sat.rtb.2 ⟨sl,bk,E,L,h⟩
def Zlu {b:ZF} {s:Sl} {cmd:List Int} (k:YK b) (j:ZV cmd) (hl:cmd.length<=1099511627776) (hs:Ro R s (b8 cmd)) (d:Sat R (Zp p b::Hs) w):
  Zg prog 74 #[.slice s.a s.len s.cap,.func (.func 16) #[nP p] #[]] w λ v w'=>
   ∃ t:Sl,v=.slice t.a t.len t.cap/\Sat R (Own t 5 (b8 (rpB (Zce b cmd)))::Zp p b::Hs) w':=by
 apply ZqR;obtain ⟨f,z,g⟩:=ZaD j;refine (ZhK j hl hs d).use ?_;clear d;rintro _ w ⟨sg,sp,rfl,d⟩;have i:=ZaS (cmd:=cmd) k;have o:Zce b cmd=if (Z5 cmd).2≠0 then Z4 (Z5 cmd).2 else Xv b (Z5 cmd).1:=rfl
 obtain ⟨c,l⟩:=xx ((Z5 cmd).1);obtain ⟨e,m⟩:=xx ((Z5 cmd).2);obtain ⟨u,y⟩:=xx (Zce b cmd);rw [<-l] at d f z g o;rw [<-m] at o;rw [<-y] at o i;rw [<-l,<-m,<-y];have A:=i.ll;have D:=i.bl;refine ⟨c.kind,c.pnr,c.flt,c.cls,c.many,c.time,c.sc,c.lab,c.rows,sg,sp,e,rfl,?_⟩;refine Za d λ b5 w d=>?_;refine sRu d λ w d=>?_;have d:=d.re (cmC b5 c sg sp);refine Br.ne (λ h=>?_) (λ h=>?_)
 ·rw [qf h] at o
  rw [o] at i ⊢;refine (VF (r:=Z4 e) (sl:=Ze) (sb:=Ze) (ZdR i) ⟨rfl,by show 0<=9223372036854775807;omega,λ h=>absurd rfl h⟩ ⟨rfl,jc _,λ h=>absurd rfl h⟩ d).u1 λ t w d=>?_;exact ⟨t,rfl,t,rfl,d.cons λ _ h=>h.drop.drop.drop⟩
 ·rw [qc (by simpa using h)] at o
  have d:=d.b3;obtain ⟨L,E,F,d⟩:=Own.leak d;obtain ⟨M,n,G,d⟩:=Own.leak d;refine ⟨c.kind,c.pnr,c.flt,c.cls,c.many,c.time,c.sc,c.lab,c.rows,sg,sp,oA d,?_⟩;refine XP.mk2 (by kernel_rfl) ((Zgm k.core (n.ro (F.ro)) (by omega) (by have:=G.len;simpa using this) d).use ?_);clear d;rintro _ w ⟨sl,sb,rfl,d⟩;rw [<-o] at d ⊢;obtain ⟨N,H,I,d⟩:=Own.leak d;obtain ⟨O,q,J,d⟩:=Own.leak d;refine ⟨u.code,u.pnr,u.state,u.flt,u.cls,u.many,u.time,sl,sb,rfl,?_⟩;refine (VF (ZdR i) (q.ro (I.ro)) J d).u1 λ t w d=>?_;exact ⟨t,rfl,t,rfl,E.back (n.back (H.back (q.back (d.cons λ _ h=>h.cons λ _ h=>h.drop))))⟩
def Zky {t:Tb} {bs:List Int} {s:Sl} (ok:ZfY t) (r:ZV bs) (hl:bs.length<=1099511627776) (hs:Ro R s (b8 bs)) (d:Sat R (Zbz p t::Hs) w):
  Zg prog 31 #[nP p,.slice s.a s.len s.cap] w λ v w'=>∃ x:Sl,v=.agg (tdV (Zag t bs) x).toArray/\Sat R (Own x 5 (b8 (Zag t bs).reply)::Zbz p t::Hs) w':=by
 apply Zv9
 suffices H:∀ K:Value->xE,(∀ x w',Sat R (Own x 5 (b8 (Zag t bs).reply)::Zbz p t::Hs) w'->K (.agg (tdV (Zag t bs) x).toArray) w')->B31 (some ⟨p,0,none⟩) s K w from H _ λ x w' h=>⟨x,rfl,h⟩
 intro K hK;refine Za d λ b4 w d=>?_;have d:Sat R (tdC b4 (XH 0) Yt::Zbz p t::Hs) w:=d;refine (Zgq r hl hs d).u1 λ cs w d=>?_;have i:=G6 (m:=mI) r;have j:=Zco (bs:=bs);have o:Zag t bs=if (ZU mI bs).2≠0 then XH (ZU mI bs).2 else if (ZU mI bs).1.kind≠4 then XH 1 else ⟨0,0,0,rpB (Zce t.bk (ZU mI bs).1.cmd)⟩:=rfl
 obtain ⟨q,y⟩:=xx ((ZU mI bs).1);obtain ⟨g,z⟩:=xx ((ZU mI bs).2);rw [<-y] at d i j o;rw [<-z] at o;rw [<-y,<-z];refine ⟨q.kind,q.client,q.seq,q.token,cs,g,rfl,?_⟩;refine Za d λ b5 w d=>?_;refine sRu d λ w d=>?_;have d:=d.re (rqC b5 q cs);have d:Sat R (Own cs 5 (b8 q.cmd)::tdC b4 (XH 0) Yt::rqC b5 q cs::Zbz p t::Hs) w:=(show Sat R (rqC b5 q cs::Own cs 5 (b8 q.cmd)::tdC b4 (XH 0) Yt::Zbz p t::Hs) w from d).arr
 refine Br.ne (λ h=>?_) (λ h=>?_)
 ·rw [qf h] at o
  rw [o] at hK;refine (YF (e:=g) d).u λ w d=>?_;exact ⟨g,0,0,Yt,rfl,Yw (τ:=XH g) (s:=Yt) d.drop λ w d=>hK _ _ (Own.nil d.drop)⟩
 rw [qc (λ k=>k h)] at o;refine ⟨q.kind,oA d,Br.ne (λ l=>?_) (λ l=>?_)⟩
 ·rw [qf l] at o
  rw [o] at hK;refine (YF (e:=1) d).u λ w d=>?_;exact ⟨1,0,0,Yt,rfl,Yw (τ:=XH 1) (s:=Yt) d.drop λ w d=>hK _ _ (Own.nil d.drop)⟩
 rw [qc (λ k=>k l)] at o;rw [o] at hK;obtain ⟨f,b,c,d⟩:=Own.leak d;have d:=d.m2;obtain ⟨m,bk,E,A,d⟩:=Sat.tb.1 d;have d:=d.m5.m4;refine Zj (Sat f [rqC b5 q cs,pts p (GX bk t.next m),VC.tru]) d (λ w d=>Sat.two d) λ w d=>?_;refine ⟨cs,oS,Zb.mk rfl ⟨some ⟨bk,0,none⟩,oS,?_⟩⟩;refine (Zlu ok.bk i (by omega) (c.ro) d).u1 λ n w d=>?_;refine ⟨n,rfl,Sat.two d,?_⟩;have d:=d.b2.b5.m6;exact Yw (τ:=⟨0,0,0,rpB (Zce t.bk q.cmd)⟩) (s:=n) d λ w d=>hK n w (b.back (d.drop.cons λ _ h=>Sat.tb.2 ⟨m,bk,E,A,h⟩))
def ZpH {t:Tb} {bs:List Int} {σ:Zkg} (ok:ZfY t) (h:σ=Zag t bs):σ.reply.length<=1000000:=by
 have a:=Zmw (ZaS (cmd:=(ZU mI bs).1.cmd) ok.bk);rw [h];unfold Zag;split
 ·exact jB _
 ·split
  ·exact jB _
  ·exact jf a (by omega)
def Zds {s:Sl} {ps:List (Sl × List Int)} (A:ZwC R s ps) (o:Sat R Hs w):
  Zg prog 5 #[.slice s.a s.len s.cap] w λ v w'=>v=.bool true/\Sat R Hs w':=by
 have h1:=A.len;apply Zyc
 suffices H:∀ K:Value->xE,(∀ w',Sat R Hs w'->K (.bool true) w')->B5 s K w from H _ λ w' h=>⟨rfl,h⟩
 intro K hK;refine (ZoL o).u λ w o=>?_;refine ⟨_,rfl,?_⟩;refine (Zir A o).use ?_;clear o;rintro _ w ⟨mb,rfl,hm,o⟩;refine ⟨_,rfl,λ w=>mb=false/\Sat R Hs w,Br.f rfl (Br.mk (λ _=>hK _ o) (λ h=>⟨h,o⟩)),?_⟩;clear o;rintro _ w ⟨h0,o⟩;have hm:=hm h0;refine (Zgh o).u1 λ p w o=>?_;refine ⟨_,rfl,?_⟩;refine (Zih o).u1 λ N w o=>?_;refine ⟨_,rfl,?_⟩;refine ⟨λ i w=>∃ (k:Nat) (t:Tb),i=k/\k<=100/\ZfY t/\ZlN t/\t.next<=k + 1/\Sat R (Zbz p t::XN N t::Hs) w,λ i _=>100 - i.toNat,⟨0,_,rfl,by omega,Znh,ju,qG _,o.swap⟩,?_⟩;clear o;rintro _ _ w ⟨k,t,rfl,hk,ok,rise,hn,o⟩;have h3:=Zmr ok.c (by omega);have two:∀ {w:World},Sat R (Zbz p t::XN N t::Hs) w->
   nC 26 #[nP p] w λ Q U=>
    ∃ j:Sl,(Q=xR (.slice j.a j.len j.cap))/\
    Drw U λ S V=>
    ∃ F:ByteArray,(∀ w',S w'->((convert 47 9 (.slice j.a j.len j.cap))).run prog w'=.ok (xZ F) w')/\
    nC 33 #[nP N] V λ W E=>
    ∃ l:Sl,(W=xR (.slice l.a l.len l.cap))/\
    (S E)/\
    ∃ G:ByteArray,(∀ w',(λ w'=>w'=E) w'->((convert 47 9 (.slice l.a l.len l.cap))).run prog w'=.ok (xZ G) w')/\
    K (.bool (F.toList==G.toList)) E:=λ {w} o=>by
  refine (Zkt ok.c rise (by omega) o).u1 λ u1 w o=>?_;refine ⟨u1,rfl,?_⟩;refine Zj (Sat R [Own u1 5 (b8 (G4 t)),VC.tru]) o (λ w o=>o.restTru2) λ w o=>?_;refine ⟨VC.strOf (G4 t),λ w' hs=>ZfI (t:=u1) (T:=5) (bs:=G4 t) (by omega) hs w' rfl,?_⟩;have o:=o.m2;refine (Zif ok.c (by omega) o).u1 λ u2 w o=>?_;refine ⟨u2,rfl,(o.take (Own u1 5 (b8 (G4 t)))).restTru2,VC.strOf (G4 t),ZfI (t:=u2) (T:=5) (bs:=G4 t) (by omega) o,?_⟩;rw [uR];exact hK _ o.drop.drop.drop.drop
 refine ⟨λ w=>(k<100/\k<ps.length)/\Sat R (Zbz p t::XN N t::Hs) w,?_,?_⟩
 ·with_reducible refine Br.d (λ h=>?_) (λ _=>two o)
  with_reducible refine Br.d (λ h2=>?_) (λ _=>two o)
  exact ⟨⟨by omega,by omega⟩,o⟩
 clear o two;rintro _ w ⟨⟨h4,I⟩,o⟩;rw [Zc (x:=(k:Int) + 1)];have b:k<(sls ps).length:=by rw [qa];omega
 have D:=qh I;have m:=A.each _ D;have g:=A.by' _ D
 have J:=hm k I (by omega);have n:(sls ps)[k]=ps[k].1:=by rw [qX]
 obtain ⟨e,he⟩:=xx (ps[k]);rw [<-he] at m g J n;refine A.rows.idxS (eqS o) b ?_;rw [n];refine (Zcg ok (by omega) g (by omega) (m.ro) o).u1 λ x w o=>?_;obtain ⟨r,L,X,Y⟩:=ok.apply (by omega) g (λ q hq=>by rw [<-hq];exact G6 g);have rise2:=rise.apply ok e.2;obtain ⟨τ,C⟩:=xx ((t.applyT e.2).1);obtain ⟨t2,M⟩:=xx ((t.applyT e.2).2);rw [<-C] at o L ⊢;rw [<-M] at o r X Y rise2;have h5:=L.rep;refine ⟨_,_,_,x,rfl,?_⟩;refine Za o λ O w o=>?_;refine sRu o λ w o=>?_;have o:=o.re (tdC O τ x);refine Zj (Sat R [tdC O τ x,VC.tru]) o (λ w o=>o.restTru2) λ w o=>?_;refine ⟨τ.code,τ.client,τ.seq,x,oS,?_⟩;refine A.rows.idxS (eqS o) b ?_;rw [n];have o:=o.m3.m2;obtain ⟨R1,B,g1,o⟩:=Own.leak o;refine (ZgO ok (by omega) g (by omega) (B.slR m) o).use ?_;clear o;rintro _ w ⟨y,rfl,R',Ks,k1,k2,o,k4⟩;rw [<-C] at k2;rw [<-M] at k4;rw [<-C];refine ⟨_,_,_,y,rfl,((B.back (k4 _ _ o)).take (tdC O τ x)).restTru2,?_⟩;refine (Zbn (k1 _ _ (g1.ro)) k2 o).u λ w o=>?_;have o:=B.back (k4 _ _ o);refine ⟨_,rfl,(o.take (tdC O τ x)).restTru2,Br.nb (λ h=>(by cases h)) λ _=>?_⟩;have o:=o.b2;have o:=o.drop;refine A.rows.idxS (eqS o) b ?_;rw [n];refine (Zky r g (by omega) (m.ro) o).u1 λ y w o=>?_;obtain ⟨σ,P⟩:=xx (Zag t2 e.2);rw [<-P] at o ⊢;have h6:=Own.len o;refine ⟨_,_,_,y,rfl,?_⟩;refine Za o λ bz w o=>?_;refine sRu o λ w o=>?_;have o:=o.re (tdC bz σ y);refine Zj (Sat R [tdC bz σ y,VC.tru]) o (λ w o=>o.restTru2) λ w o=>?_;refine ⟨σ.code,σ.client,σ.seq,y,oS,?_⟩;refine A.rows.idxS (eqS o) b ?_;rw [n];have o:=o.m1.m3;refine (Zig r g (by omega) m o).u1 λ z w o=>?_;rw [<-P] at o ⊢;refine ⟨_,_,_,z,rfl,(o.take (tdC bz σ y)).restTru2,?_⟩;have o:=o.b2.b4;have h7:σ.reply.length<=1000000:=ZpH r P;obtain ⟨R2,e2,g2,o⟩:=Own.leak o;obtain ⟨R3,e3,g3,o⟩:=Own.leak o;refine (Zbn (e3.ro (g2.ro)) (g3.ro) o).u λ w o=>?_;have o:=e2.back (e3.back o);exact ⟨_,rfl,o.restTru2,Br.nb (λ h=>(by cases h)) λ _=>⟨⟨k + 1,t2,by omega,by omega,r,rise2,by omega,o.drop⟩,by dsimp only;omega⟩⟩
end
section
open Go Go.VC Go.ChangeShapes Go.WideShapes Go.ChangeAt Go.RowKit
variable {H:Type} {enc:TypeId × Value->H} {W:World} {r:Reach} {b0:Nat} {v:Value} {d:DataW H} {p:List MemPlace}
def Zq4 {R:Cx} {s:Sl} {xs:List Tr} (h:Tr.Ok R (.sl (.int .u8)) (.sl s xs)):∃ bs:List Int,SlR R.m s (b8 bs)/\ZV bs:=by
 obtain ⟨bs,a,o,d⟩:=ZnN h;refine ⟨bs,⟨a.len,ZuN h,a.mem⟩,λ z hz=>?_⟩;have:=d z hz;simp [Lit.wf,IntKind.min,IntKind.max,IntKind.bits,IntKind.signed] at this;omega
def Zk1 {R:Cx} {x:Tr} (h:x.Ok R (.sl (.int .u8))):∃ e:Sl × List Int,x.cells=[e.1.v]/\SlR R.m e.1 (b8 e.2)/\ZV e.2:=by
 cases x<;>simp only [Tr.Ok] at h;rename_i s xs;have h:Tr.Ok R (.sl (.int .u8)) (.sl s xs):=by unfold Tr.Ok;exact h
 obtain ⟨bl,a,d⟩:=Zq4 h;exact ⟨(s,bl),rfl,a,d⟩
set_option maxRecDepth 100000 in
def Zm3 (j:Value.okWide Tryz.prog W r b0 49 v) (h:DataW.Trod enc Tryz.prog W 0 (λ _=>true) true 49 v d p):
  ∃ (m:Sl) (ps:List (Sl × List Int)),v=.slice m.a m.len m.cap/\ZwC (Cx.of W) m ps:=by
 obtain ⟨a,n,c,rfl⟩:=okWide_slice Tryz.underlying49 j;obtain ⟨x,o,z⟩:=ZuK (d:=6) (u:=.sl (.sl (.int .u8))) (by kernel_rfl) h;cases x<;>simp only [Tr.Ok] at z;rename_i s xs;obtain ⟨ps,i,k,g⟩:=Zml (λ e:Sl × List Int=>[e.1.v]) (λ e=>SlR (Cx.of W).m e.1 (b8 e.2)/\ZV e.2) (show Tr.Ok (Cx.of W) (.sl (.sl (.int .u8))) (.sl s xs) by unfold Tr.Ok;exact z) λ x o=>Zk1 o;have i:RoN 1 (Cx.of W) s (((sls ps).map Sl.v).map λ v=>[v]):=by rw [qZ,qZ];exact i
 refine ⟨s,ps,?_,⟨i.one (by simpa using k),λ e y=>(g e y).1,λ e y=>(g e y).2⟩⟩;have:[Value.slice s.a s.len s.cap]=[Value.slice a n c]:=by simpa [Tr.cells,Value.cells] using o
 exact (List.cons.inj this).1.symm
end
end Go.Proofs.YtlplemdmegpoeaaGreatDoor
