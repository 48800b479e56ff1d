/- Reference 17: who waits, in memory; place, Add, Remove, First. Condition: none. -/
import Derived.Test.YtlplemdmegpoeaaGreatDoorB6
import Derived.Test.YtlplemdmegpoeaaGreatDoorB3
import Derived.Test.YtlplemdmegpoeaaGreatDoorB5
import Derived.Test.YtlplemdmegpoeaaGreatDoorB2
set_option linter.unusedVariables false
set_option linter.defProp false
set_option linter.unusedSimpArgs false
set_option maxHeartbeats 8000000
namespace Go.Proofs.YtlplemdmegpoeaaGreatDoor
section
open Go Go.VC Tryz
open Classical
variable {R:Cx} {Hs Rest:List HP} {w:World}
abbrev Xf (s:Sl):Obj:=.cells [.slice s.a s.len s.cap].toArray 109 (0,0)
abbrev waT:TypeId:=168
def X7 (q:Nat) (l:List Wt):HP:=exs λ s:Sl=>XS [pts q (Xf s),Zn 5 s waT (l.map wtV)]
def Sat.rqu {q:Nat} {l:List Wt}:Sat R (X7 q l::Hs) w↔∃ s:Sl,Sat R (pts q (Xf s)::Zn 5 s waT (l.map wtV)::Hs) w:=by
 unfold X7;rw [Sat.exs];exact ⟨λ⟨s,h⟩=>⟨s,Sat.star.1 h⟩,λ⟨s,h⟩=>⟨s,Sat.star.2 h⟩⟩
def Zgw {x:Wt} (a:Sat R Hs w):Zg prog 189 #[wtA x] w λ v w'=>v=.bool (decide x.Ok)/\Sat R Hs w':=by
 apply Ztk
 suffices H:∀ K:Value->xE,(∀ w',Sat R Hs w'->K (.bool (decide x.Ok)) w')->B189 x.id x.cls x.many x.time x.sc K w from H _ λ w' h=>⟨rfl,h⟩
 intro K hK;refine Za a λ b w a=>?_;have a:Sat R (wtD b x::Hs) w:=a;have no:¬ x.Ok->K (.bool false) w:=λ h=>by have:=hK w a.drop;rwa [qz h] at this
 unfold Wt.Ok at no;refine ⟨x.id,oA a,Br.d (λ i=>?_) (λ h=>no λ o=>h (by omega))⟩;refine ⟨x.id,oA a,Br.d (λ u=>?_) (λ h=>no λ o=>h (by omega))⟩;refine ⟨x.cls,oA a,Br.d (λ y=>?_) (λ h=>no λ o=>h (by omega))⟩;refine ⟨x.cls,oA a,Br.d (λ z=>?_) (λ h=>no λ o=>h (by omega))⟩;refine ⟨x.many,oA a,Br.d (λ g=>?_) (λ h=>no λ o=>h (by omega))⟩;refine ⟨x.many,oA a,Br.d (λ j=>?_) (λ h=>no λ o=>h (by omega))⟩;refine ⟨x.time,oA a,Br.d (λ k=>?_) (λ h=>no λ o=>h (by omega))⟩;refine ⟨x.time,oA a,?_⟩;have:=hK w a.drop;have e:decide x.Ok=decide (x.time<=1099511627776):=by
  refine qJ.2 ?_;unfold Wt.Ok;omega
 rwa [e] at this
def Zgy {a b:Wt} (d:Sat R Hs w):Zg prog 191 #[wtA a,wtA b] w λ v w'=>v=.bool (a.ahead b)/\Sat R Hs w':=by
 apply Zti
 suffices H:∀ K:Value->xE,(∀ w',Sat R Hs w'->K (.bool (a.ahead b)) w')->B191 a.id a.cls a.many a.time a.sc b.id b.cls b.many b.time b.sc K w from H _ λ w' h=>⟨rfl,h⟩
 intro K hK;refine Za d λ p w d=>Za d λ q w d=>?_;have d:Sat R (wtD q b::wtD p a::Hs) w:=d;refine ⟨a.sc,oA d,b.sc,oA d,?_⟩;refine (ZkG d).u λ w d=>?_;have hk:=λ {v:Bool} (h:a.ahead b=v)=>(show K (.bool v) w by rw [<-h];exact hK w d.drop.drop);refine ⟨_,rfl,Br.ne (λ o=>?_) (λ o=>?_)⟩
 ·refine hk ?_
  have i:¬ kvF a.sc=kvF b.sc:=λ e=>o (by unfold GE;rw [qc (by omega),qf e]);unfold Wt.ahead;rw [qc i];refine qJ.2 ?_;unfold GE;rw [qc i];split<;>omega
 ·have z:kvF a.sc=kvF b.sc:=by
   unfold GE at o;split at o
   ·omega
   ·split at o
    ·assumption
    ·omega
  unfold Wt.ahead at hk;rw [qf z] at hk;refine ⟨a.time,oA d,b.time,oA d,Br.ne (λ y=>?_) (λ y=>?_)⟩
  ·exact ⟨a.time,oA d,b.time,oA d,hk (by rw [qc y])⟩
  ·exact ⟨a.id,oA d,b.id,oA d,hk (by rw [qf y])⟩
def Zbp {q:Nat} {l:List Wt} {id:Int} (hl:l.length<=1000000000) (o:Sat R (X7 q l::Hs) w):
  Zg prog 190 #[nP q,nI id] w λ v w'=>(∃ i:Int,v=nI i/\((i=-1/\UC id l=false)\/∃ k:Nat,i=k/\∃ (hk:k<l.length),l[k].id=id/\UC id (l.take k)=false))/\Sat R (X7 q l::Hs) w':=by
 obtain ⟨s,o⟩:=Sat.rqu.1 o;have y:=Zn.len o.swap;rw [qa] at y;apply Ztj;refine ⟨λ i w=>∃ j:Nat,i=j/\j<=l.length/\UC id (l.take j)=false/\Sat R (pts q (Xf s)::Zn 5 s waT (l.map wtV)::Hs) w,λ i _=>l.length - i.toNat,⟨0,rfl,by omega,by simp [UC],o⟩,?_⟩;clear o;rintro _ _ w ⟨j,rfl,hj,z,o⟩;refine Zb.mk rfl ⟨s,oA o,Br.d (λ h=>?_) (λ h=>?_)⟩
 ·have u:j<l.length:=by omega
  refine Zb.mk rfl ⟨s,oA o,?_⟩;have m:=o.swap;refine (Zn.reads m (S:=λ w'=>w'=w) (Hs':=pts q (Xf s)::Hs) (λ w' e=>by rw [e];exact m)).rngM (E:=l) (g:=wtV) u λ a _ p=>⟨l[j].id,p.zz (by exact ⟨rfl,trivial⟩),?_⟩;refine Br.e (λ n=>⟨⟨j,rfl,.inr ⟨j,rfl,u,n,z⟩⟩,Sat.rqu.2 ⟨s,o⟩⟩) (λ n=>?_);rw [Zc (x:=(j:Int) + 1)];refine ⟨⟨j + 1,by omega,by omega,?_,o⟩,by dsimp only;omega⟩;unfold UC at z ⊢;rw [qp,List.getElem?_eq_getElem u,vF,z];simp [n]
 ·rw [qg (by omega)] at z
  exact ⟨⟨-1,rfl,.inl ⟨rfl,z⟩⟩,Sat.rqu.2 ⟨s,o⟩⟩
def Zfk {x:Wt}:∀ {l:List Wt} {k:Nat},k<=l.length->(∀ i (hi:i<l.length),i<k->l[i].ahead x=true)->(∀ h:k<l.length,l[k].ahead x=false)->Zee x l=l.take k++x::l.drop k
 |[],k,hk,_,_=>by simp at hk;subst hk;rfl
 |a::l,0,_,_,d=>by
  have:=d (by simp);rw [Vg,qc (by simpa using this)];rfl
 |a::l,k + 1,hk,o,d=>by
  have:=o 0 (by simp) (by omega);rw [Vg,qf (by simpa using this),Zfk (l:=l) (k:=k) (by simpa using hk) (λ i hi u=>o (i + 1) (by simpa using hi) (by omega)) (λ h=>d (by simpa using h))];rfl
def Zjc (l:List Wt) (k:Nat):ZN ((l.map wtV).take k).flatten=true:=by rw [<-jk];exact ZeB _
def Zjd (l:List Wt) (k:Nat):ZN ((l.map wtV).drop k).flatten=true:=by rw [<-jo];exact ZeB _
def ZkI {q:Nat} {l:List Wt} {x:Wt} (U:l.length<=1000) (o:Sat R (X7 q l::Hs) w):
  Zg prog 112 #[nP q,wtA x] w λ v w'=>v=nI (WW l x).2/\Sat R (X7 q (WW l x).1::Hs) w':=by
 apply Zuj
 suffices H:∀ K:Value->xE,(∀ w',Sat R (X7 q (WW l x).1::Hs) w'->K (nI (WW l x).2) w')->B112 (some ⟨q,0,none⟩) x.id x.cls x.many x.time x.sc K w from H _ λ w' h=>⟨rfl,h⟩
 intro K hK;refine Za o λ b w o=>?_;have o:Sat R (wtD b x::X7 q l::Hs) w:=o;refine ⟨x.id,x.cls,x.many,x.time,x.sc,oA o,?_⟩;refine (Zgw o).u λ w o=>?_;refine ⟨_,rfl,Br.nd (λ A=>?_) (λ A=>?_)⟩
 ·rw [show WW l x=(l,1) by unfold WW;rw [qf A]] at hK;exact hK w o.drop
 have n0:¬ ¬ x.Ok:=λ h=>h A;refine ⟨x.id,oA o,?_⟩;refine (Zbp (by omega) o.swap).use ?_;clear o;rintro _ w ⟨⟨i,rfl,hi⟩,o⟩;refine ⟨i,rfl,Br.d (λ J=>?_) (λ J=>?_)⟩
 ·have c:UC x.id l=true:=by
   rcases hi with ⟨rfl,_⟩|⟨k,rfl,hk,e,_⟩
   ·omega
   ·exact Zao.2 ⟨_,qh hk,e⟩
  rw [show WW l x=(l,7) by unfold WW;rw [qc n0,qf c]] at hK;exact hK w (o.cons λ _ h=>h.drop)
 have c:¬ UC x.id l=true:=by
  rcases hi with ⟨_,h⟩|⟨k,rfl,_,_,_⟩
  ·rw [h];simp
  ·omega
 obtain ⟨s,o⟩:=Sat.rqu.1 o;have r:=Zn.len o.swap;rw [qa] at r;have G:=Zn.cap (by omega) o.swap;refine Zb.mk rfl ⟨s,oA o,Br.d (λ L=>?_) (λ L=>?_)⟩
 ·rw [show WW l x=(l,3) by unfold WW;rw [qc n0,qc c,qf (by omega)]] at hK
  exact hK w (Sat.rqu.2 ⟨s,o.cons λ _ h=>h.cons λ _ h=>h.drop⟩)
 rw [show WW l x=(Zee x l,0) by unfold WW;rw [qc n0,qc c,qc (by omega)]] at hK;have o:Sat R (Zn 5 s waT (l.map wtV)::pts q (Xf s)::wtD b x::Hs) w:=o.swap;refine ⟨λ y w=>∃ k:Nat,y=k/\k<=l.length/\Zee x l=l.take k++x::l.drop k/\Sat R (Zn 5 s waT (l.map wtV)::pts q (Xf s)::wtD b x::Hs) w,?_,?_⟩
 ·refine ⟨λ y w=>∃ k:Nat,y=k/\k<=l.length/\(∀ i (hi:i<l.length),i<k->l[i].ahead x=true)/\Sat R (Zn 5 s waT (l.map wtV)::pts q (Xf s)::wtD b x::Hs) w,λ y _=>l.length - y.toNat,⟨0,rfl,by omega,λ i _ hi=>by omega,o⟩,?_⟩
  clear o;rintro _ _ w ⟨k,rfl,hk,p,o⟩;refine Zi o λ w o=>?_;refine Zb.mk rfl ⟨s,oS,Br.d (λ M=>?_) (λ M=>⟨k,rfl,hk,Zfk hk p (λ h=>by omega),o⟩)⟩;have D:k<l.length:=by omega
  refine Zb.mk rfl ⟨s,oS,?_⟩;refine (Zn.reads o (S:=Sat R (Zn 5 s waT (l.map wtV)::pts q (Xf s)::wtD b x::Hs)) (λ _ h=>h)).rngM (E:=l) (g:=wtV) D λ a _ N=>?_;refine ⟨_,_,_,_,_,N.z (by exact ⟨rfl,rfl,rfl,rfl,rfl,trivial⟩),x.id,x.cls,x.many,x.time,x.sc,oS,?_⟩;refine (Zgy (a:=l[k]) (b:=x) o).u λ w o=>?_;refine ⟨_,rfl,o,Br.mk (λ F=>?_) (λ F=>⟨k,rfl,hk,Zfk hk p (λ _=>F),o⟩)⟩;rw [Zc (x:=(k:Int) + 1)];refine ⟨⟨k + 1,by omega,by omega,λ i hi O=>?_,o⟩,by dsimp only;omega⟩;by_cases t:i=k
  ·subst t;exact F
  ·exact p i hi (by omega)
 clear o;rintro _ _ w ⟨k,rfl,hk,f,o⟩;obtain ⟨R',j,⟨V,W⟩,o,back⟩:=Zn.lend o;have Q:(l.map wtV).length=l.length:=qa ..;refine Za o λ b5 w o=>Zb.mk rfl ⟨s,oA o,by omega,by omega,?_⟩;refine Xd (b:=b5) (ys:=(l.map wtV).take k) ZuF o (Vv ⟨_,underlying100⟩ o (j.take (h:=k) (by omega) s.cap) (Zjc l k)) j.wid.take (by rw [qd];omega) (by rw [qd];omega) λ X w o=>?_;refine ⟨x.id,x.cls,x.many,x.time,x.sc,oA o,?_⟩;refine UX (x:=wtV x) ZuF o rfl rfl (by rw [qd];omega) (by rw [qd];omega) λ Y w o=>?_;refine Zb.mk rfl ⟨s,oA o,by omega,by omega,?_⟩;have n:=j.sub (l:=k) (h:=s.len) (m:=s.cap) (by omega) (by omega) (by omega);rw [qg (show (l.map wtV).length<=s.len by omega)] at n;refine ZY (ys:=(l.map wtV).drop k) ZuF o (Vv ⟨_,underlying100⟩ o n (Zjd l k)) j.wid.drop (by simp only [qb,qd,qx,qT];omega) (by simp only [qb,qd,qx,qT];omega) λ I w o=>Zb.mk rfl ?_;have o:=back o;have o:=o.m1.m2;refine sRu o λ w o=>?_;have o:=o.re (pts q (Xf I));have e:(l.map wtV).take k++[wtV x]++(l.map wtV).drop k=(Zee x l).map wtV:=by
  rw [f,<-jk,<-jo];simp
 rw [e] at o;exact hK w (Sat.rqu.2 ⟨I,o.cons λ _ h=>h.cons λ _ h=>h.drop.drop⟩)
def G5 {q:Nat} {l:List Wt} {id:Int} (c:l.length<=1000) (a:Sat R (X7 q l::Hs) w):
  Zg prog 118 #[nP q,nI id] w λ v w'=>v=nI (ZfV l id).2/\Sat R (X7 q (ZfV l id).1::Hs) w':=by
 apply Zud
 suffices H:∀ K:Value->xE,(∀ w',Sat R (X7 q (ZfV l id).1::Hs) w'->K (nI (ZfV l id).2) w')->B118 (some ⟨q,0,none⟩) id K w from H _ λ w' h=>⟨rfl,h⟩
 intro K hK;refine (Zbp (by omega) a).use ?_;clear a;rintro _ w ⟨⟨i,rfl,hi⟩,a⟩;refine ⟨i,rfl,Br.d (λ t=>?_) (λ t=>?_)⟩
 ·have g:¬ UC id l=true:=by
   rcases hi with ⟨_,h⟩|⟨k,rfl,_,_,_⟩
   ·rw [h];simp
   ·omega
  rw [show ZfV l id=(l,2) by unfold ZfV;rw [qc g]] at hK;exact hK w a
 obtain ⟨k,rfl,hk,j,n⟩:∃ k:Nat,i=k/\∃ (hk:k<l.length),l[k].id=id/\UC id (l.take k)=false:=by
  rcases hi with ⟨rfl,_⟩|h
  ·omega
  ·exact h
 obtain ⟨g,y⟩:=ZiI hk j n;rw [show ZfV l id=(Zbd id l,0) by unfold ZfV;rw [qf g]] at hK;obtain ⟨s,a⟩:=Sat.rqu.1 a;have z:=Zn.len a.swap;rw [qa] at z;have p:=Zn.cap (by omega) a.swap;have f:(l.map wtV).length=l.length:=qa ..;obtain ⟨R',o,⟨A,D⟩,a,back⟩:=Zn.lend a.swap;refine Zj (Sat R' [pts q (Xf s),VC.tru]) a (λ w a=>a.restTru2) λ w a=>?_;rw [Zc (x:=(k:Int) + 1),show ((k:Int) + 1).toNat=k + 1 by omega];refine Zb.mk rfl ⟨s,oS,by omega,by omega,Zb.mk rfl ⟨s,oS,by omega,by omega,?_⟩⟩;refine Za a λ b5 w a=>⟨a.swap.restTru2,?_⟩;refine Xd (b:=b5) (ys:=(l.map wtV).take k) ZuF a (Vv ⟨_,underlying100⟩ a (o.take (h:=k) (by omega) s.cap) (Zjc l k)) o.wid.take (by rw [qd];omega) (by rw [qd];omega) λ E w a=>⟨a.swap.restTru2,?_⟩;have u:=o.sub (l:=k + 1) (h:=s.len) (m:=s.cap) (by omega) (by omega) (by omega);rw [qg (show (l.map wtV).length<=s.len by omega)] at u;refine ZY (ys:=(l.map wtV).drop (k + 1)) ZuF a (Vv ⟨_,underlying100⟩ a u (Zjd l (k + 1))) o.wid.drop (by simp only [qd,qx];omega) (by simp only [qd,qx];omega) λ r w a=>⟨a.swap.restTru2,Zb.mk rfl ?_⟩;have a:=back a;have a:=a.m1.m2;refine sRu a λ w a=>?_;have a:=a.re (pts q (Xf r));have e:(l.map wtV).take k++(l.map wtV).drop (k + 1)=(Zbd id l).map wtV:=by
  rw [y,<-jk,<-jo,qe]
 rw [e] at a;exact hK w (Sat.rqu.2 ⟨r,a.cons λ _ h=>h.cons λ _ h=>h.drop⟩)
def Zgx {q:Nat} {l:List Wt} {sl:Sl} {left:List Int} (p:QOk l) (r:RoI R sl left) (o:Sat R (X7 q l::Hs) w):
  Zg prog 192 #[nP q,.slice sl.a sl.len sl.cap] w λ v w'=>v=.tuple #[wtA ((Ys l left).getD XJ),.bool (Ys l left).isSome]/\Sat R (X7 q l::Hs) w':=by
 have hl:l.length<=1000000000:=by have:=p.len;omega
 have e:=r.len;obtain ⟨s,o⟩:=Sat.rqu.1 o;apply Zth;refine Za o λ b w o=>?_;have o:Sat R (Zn 5 s waT (l.map wtV)::pts q (Xf s)::wtD b XJ::Hs) w:=by
  have o:Sat R (wtD b XJ::pts q (Xf s)::Zn 5 s waT (l.map wtV)::Hs) w:=o;exact o.arr
 have k:=Zn.len o;rw [qa] at k;have close:∀ {w x},Sat R (Zn 5 s waT (l.map wtV)::pts q (Xf s)::wtD b x::Hs) w->Sat R (X7 q l::Hs) w:=λ {w x} h=>by
  have h:Sat R (pts q (Xf s)::Zn 5 s waT (l.map wtV)::wtD b x::Hs) w:=h.swap;exact Sat.rqu.2 ⟨s,h.cons λ _ h=>h.cons λ _ h=>h.drop⟩
 refine ⟨λ i w=>∃ j:Nat,i=j/\j<=l.length/\(l.take j).any (WZ left)=false/\Sat R (Zn 5 s waT (l.map wtV)::pts q (Xf s)::wtD b XJ::Hs) w,λ i _=>l.length - i.toNat,⟨0,rfl,by omega,by simp,o⟩,?_⟩;clear o;rintro _ _ w ⟨j,rfl,hj,m,o⟩;refine Zb.mk rfl ⟨s,oA o,Br.d (λ h=>?_) (λ h=>?_)⟩
 ·have u:j<l.length:=by omega
  have f:=p.ok l[j] (qh u);have next:WZ left l[j]=false->(l.take (j + 1)).any (WZ left)=false:=λ h=>by
   rw [qp,List.getElem?_eq_getElem u,vF,m];simp [h]
  rw [Zc (x:=(j:Int) + 1)];refine Zb.mk rfl ⟨s,oA o,?_⟩;refine (Zn.reads o (eqS o)).rngM (E:=l) (g:=wtV) u λ a _ c=>?_;refine ⟨_,_,_,_,_,c.z (by exact ⟨rfl,rfl,rfl,rfl,rfl,trivial⟩),?_⟩;refine Za o λ b2 w o=>?_;refine sRu o λ w o=>?_;have o:=o.re (wtD b2 l[j]);refine Zi o λ w o=>?_;refine ⟨l[j].cls,oS,Br.d (λ t=>?_) (λ t=>⟨⟨j + 1,by omega,by omega,next (Zfv λ h=>t (by omega)),o.drop⟩,by dsimp only;omega⟩)⟩;have A:l[j].cls=(l[j].cls.toNat:Int):=by have:=f.2.1.1;omega
  have y:l[j].cls.toNat<left.length:=by omega
  refine ⟨l[j].many,oS,l[j].cls,oS,?_⟩;refine Ro.ix r (λ _ h=>h) l[j].cls.toNat A y ?_;refine Br.d (λ n=>?_) (λ n=>⟨⟨j + 1,by omega,by omega,next (Zfv λ h=>n ?_),o.drop⟩,by dsimp only;omega⟩)
  ·have D:WZ left l[j]=true:=by
    unfold WZ;rw [ql,qR,qR];refine ⟨by omega,?_⟩;rw [List.getD_eq_getElem?_getD,List.getElem?_eq_getElem y];exact n
   refine ⟨l[j].id,l[j].cls,l[j].many,l[j].time,l[j].sc,oA o,?_⟩;have o:=o.m3;refine ZO o (by kernel_rfl) rfl (by simp [Value.cells,wtV]) λ w o=>?_;have o:=o.re (wtD b l[j]);refine ⟨l[j].id,l[j].cls,l[j].many,l[j].time,l[j].sc,oA o,?_⟩;have o:=o.b3;rw [Zcz u m D];exact ⟨rfl,close o.drop⟩
  ·have:=h.2
   rwa [List.getD_eq_getElem?_getD,List.getElem?_eq_getElem y] at this
 ·rw [qg (by omega)] at m
  have o:=o.m2;refine ZO o (by kernel_rfl) rfl (by simp [Value.cells,wtV]) λ w o=>?_;have o:=o.re (wtD b XJ);refine ⟨0,0,0,0,0,oA o,?_⟩;rw [Zd0 m];have o:=o.b2;exact ⟨rfl,close o⟩
def Zmc {n:Int}:∀ {k:Nat},k<5->(ZoX k n++[0]).set (4 - k) (ZoY k n % 31)=ZoX (k + 1) n++[0]
 |0,_=>rfl
 |1,_=>rfl
 |2,_=>rfl
 |3,_=>rfl
 |4,_=>rfl
def ZkN {n:Int} (J:0<=n/\n<28629151) (o:Sat R Hs w):Zg prog 124 #[nI n] w λ v w'=>v=.tuple #[xZ (ZrH n),nI 0]/\Sat R Hs w':=by
 apply Zt7;refine ⟨λ w=>Sat R Hs w,Br.d (λ h=>by omega) (λ _=>Br.d (λ h=>by omega) (λ _=>o)),?_⟩;clear o;rintro _ w o;refine Za o λ p w o=>?_;have o:Sat R (ZoZ p (ZoX 0 n++[0])::Hs) w:=o;refine ⟨λ m i w=>∃ k:Nat,k<=5/\m=ZoY k n/\i=4 - (k:Int)/\Sat R (ZoZ p (ZoX k n++[0])::Hs) w,λ _ i _=>(i + 1).toNat,⟨0,by omega,rfl,rfl,o⟩,?_⟩;clear o;rintro _ _ _ w ⟨k,hk,rfl,rfl,o⟩;refine Br.d (λ h=>?_) (λ h=>?_)
 ·have u:k<5:=by omega
  obtain ⟨H,V,M,_⟩:=Zjk J u;rw [jj H,j6 H,Zc (x:=ZoY k n / 31),Zc (x:=4 - (k:Int) - 1)];refine Rng.mk (by omega) (by omega) ?_;rw [show (4 - (k:Int)).toNat=4 - k by omega];refine Gv (by kernel_rfl) o (by rw [qb,Zjl (by omega)];show 4 - k<5 + 1;omega) λ w o=>?_;rw [Zmc u] at o;exact ⟨⟨k + 1,by omega,M.symm,by omega,o⟩,by dsimp only;omega⟩
 have u:k=5:=by omega
 subst u;have z:=Zos n;have g:=Zoa n;have o:Sat R (ZoZ p (WG n++[0])::Hs) w:=o;refine ⟨λ w=>∃ j:Nat,(j:Int)<=ZlS n/\Sat R (ZoZ p (WG n++[(j:Int)])::Hs) w,λ w=>match w.cell? ⟨p,5,none⟩ with|some (.int _ x)=>(31 - x).toNat|_=>0,⟨0,z.1,o⟩,?_⟩
 clear o;rintro _ w ⟨j,hj,o⟩;have q:∀ {w:World} {j:Nat},Sat R (ZoZ p (WG n++[(j:Int)])::Hs) w->(match w.cell? ⟨p,5,none⟩ with|some (.int _ x)=>(31 - x).toNat|_=>0)=(31 - (j:Int)).toNat:=λ {w j} o=>by
  rw [Yy o.at 5];rfl
 have ws:Vp 2 (WG n)=2 * (n / 923521 % 31) + (3 * (n / 29791 % 31) + (4 * (n / 961 % 31) + (5 * (n / 31 % 31) + 6 * (n % 31)))):=by
  simp only [WG,Vp];omega
 refine ⟨Zd (WG n++[(j:Int)]),rfl,oA o,?_⟩;have B:∀ d∈WG n,0<=d/\d<100:=λ d hd=>by have:=g d hd;omega
 have hs:=ZdF (a:=n / 923521 % 31) (b:=n / 29791 % 31) (c:=n / 961 % 31) (d:=n / 31 % 31) (e:=n % 31) (f:=(j:Int)) (B _ (by simp [WG])) (B _ (by simp [WG])) (B _ (by simp [WG])) (B _ (by simp [WG])) (B _ (by simp [WG])) (by omega) o;have A:=q o;refine hs.use ?_;clear o hs;rintro _ w2 ⟨rfl,o⟩;have D:Vp 2 [n / 923521 % 31,n / 29791 % 31,n / 961 % 31,n / 31 % 31,n % 31]=Vp 2 (WG n):=rfl;rw [D];have E:0<=Vp 2 (WG n) + (j:Int):=by rw [ws];omega
 refine ⟨_,rfl,?_⟩;rw [jj E];refine Br.ne (λ I=>?_) (λ I=>?_)
 ·have r:(j:Int)≠ZlS n:=λ e=>I (by rw [e];unfold ZlS;omega)
  refine ⟨(j:Int),?_,?_⟩
  ·have:=At.ints (b:=p) (xs:=WG n++[(j:Int)]) (eqS o) (i:=5) (by show 5<6;omega)
   exact this
  rw [Zc (x:=(j:Int) + 1)];refine Gv (i:=5) (l:=WG n++[(j:Int)]) (x:=(j:Int) + 1) (by kernel_rfl) o (by show 5<6;omega) λ w o=>?_;have o:Sat R (ZoZ p (WG n++[((j + 1:Nat):Int)])::Hs) w:=o;refine ⟨⟨j + 1,by omega,o⟩,?_⟩;have N:(31 - ((j + 1:Nat):Int)).toNat<(31 - (j:Int)).toNat:=by omega
  exact Nat.lt_of_lt_of_eq (zw (Nat.le_of_eq (q o)) N) A.symm
 have r:(j:Int)=ZlS n:=by unfold ZlS at hj ⊢;omega
 rw [r] at o;obtain ⟨L,s⟩:=xx (WG n++[ZlS n]);have O:L.length=6:=by rw [s];rfl
 have F:∀ d∈L,0<=d/\d<31:=λ d hd=>by
  rw [s] at hd;rcases qt.1 hd with hd|hd
  ·exact g d hd
  ·rw [qK.1 hd];exact z
 rw [<-s] at o;refine ⟨λ t i w=>∃ k:Nat,i=k/\k<=6/\Sat R (Own t 5 (b8 ((L.take k).map Vw))::ZoZ p L::Hs) w,λ _ i _=>(6 - i).toNat,⟨0,rfl,by omega,Own.nil o⟩,?_⟩;clear o;rintro _ t _ w ⟨k,rfl,hk,o⟩;refine Br.d (λ h=>?_) (λ h=>?_)
 ·have y:k<L.length:=by omega
  have hd:=F _ (qh y);obtain ⟨Q,U⟩:=ZbI hd;refine Rng.mk (by omega) (by omega) ⟨L[k],?_,_,hd.1,Q,?_⟩
  ·rw [qo]
   exact At.ints (b:=p) (xs:=L) (eqS o) y
  rw [U];refine Wz (x:=.int .u8 (Vw L[k])) ZbX o (U1 .u8 _) rfl (by rw [qa,qa,qd];omega) (by rw [qa,qa,qd];omega) λ t2 w o=>?_;rw [Zc (x:=(k:Int) + 1)];refine ⟨⟨k + 1,by omega,by omega,?_⟩,by dsimp only;omega⟩;have e1:(L.take (k + 1)).map Vw=(L.take k).map Vw++[Vw L[k]]:=by rw [qp,List.getElem?_eq_getElem y,qe];rfl
  rw [e1,b8,qe];exact o
 ·rw [qg (by omega)] at o
  have G:L.map Vw=ZpK n:=by rw [s];rfl
  rw [G] at o;exact ⟨_,ZfI (t:=t) (T:=5) (bs:=ZpK n) (by rw [Zfa];omega) o,rfl,o.drop.drop⟩
def ZkH {q:Nat} {l:List Wt} (U:l.length<=1000) (F:∀ x∈l,x.Ok) (p:∀ x∈l,x.sc<18446744073709551616) (o:Sat R (X7 q l::Hs) w):
  Zg prog 70 #[nP q] w λ v w'=>∃ t:Sl,v=.slice t.a t.len t.cap/\Sat R (Own t 5 (b8 (qB l))::X7 q l::Hs) w':=by
 apply ZvF
 suffices H:∀ K:Value->xE,(∀ (t:Sl) w',Sat R (Own t 5 (b8 (qB l))::X7 q l::Hs) w'->K (.slice t.a t.len t.cap) w')->B70 (some ⟨q,0,none⟩) K w from H _ λ t w' h=>⟨t,rfl,h⟩
 intro K hK;obtain ⟨s,o⟩:=Sat.rqu.1 o;have G:=Zn.len o.swap;rw [qa] at G;refine Zb.mk rfl ⟨s,oA o,?_⟩;rw [ZM];refine (XY (by omega) o).u1 λ V w o=>?_;refine ⟨V,rfl,?_⟩;have e0:GS s.len=Zf [(l.length:Int)]:=by rw [G];simp [Zf]
 rw [e0] at o;refine ⟨λ t i w=>∃ k:Nat,i=k/\k<=l.length/\Sat R (Own t 5 (b8 (Zf [(l.length:Int)]++((l.take k).map wtB).flatten))::pts q (Xf s)::Zn 5 s waT (l.map wtV)::Hs) w,
  λ _ i _=>l.length - i.toNat,⟨0,rfl,by omega,by simpa using o⟩,?_⟩
 clear o;rintro _ t _ w ⟨k,rfl,hk,o⟩;refine Zb.mk rfl ⟨s,oA o,Br.d (λ h=>?_) (λ h=>?_)⟩
 ·have f:k<l.length:=by omega
  have M:=qh f;have r:=F _ M;have I:=p _ M;have N:=Zqh r I;obtain ⟨P,W,h3,X⟩:=id r;refine Zb.mk rfl ⟨s,oA o,?_⟩;refine (Zn.readsM (n:=5) (s:=s) (T:=waT) (rows:=l.map wtV) o (eqS o)).rngM (E:=l) (g:=wtV) f λ a _ Y=>?_;refine ⟨_,_,_,_,_,Y.z (by exact ⟨rfl,rfl,rfl,rfl,rfl,trivial⟩),?_⟩;refine Za o λ b2 w o=>?_;refine sRu o λ w o=>?_;have o:=o.re (wtD b2 l[k]);refine Xk o λ w o=>?_;refine ⟨l[k].id,oS,l[k].cls,oS,l[k].many,oS,l[k].time,oS,l[k].sc,oS,?_⟩;refine (ZmC I o).u λ w o=>?_;refine ⟨_,rfl,o,?_⟩;rw [ZM (x:=l[k].id),ZM (x:=l[k].cls),ZM (x:=l[k].many),ZM (x:=l[k].time)];refine Za o λ b5 w o=>⟨o.absorb,?_⟩;obtain ⟨us,y⟩:=xx (wtN l[k]);have S:us.length=5:=by rw [y];rfl
  have o:Sat R (pts b5 (.cells (us.map λ n=>Value.int .u64 (n:Nat)).toArray 141 (0,0))::wtD b2 l[k]::Own t 5 (b8 (Zf [(l.length:Int)]++((l.take k).map wtB).flatten))::pts q (Xf s)::Zn 5 s waT (l.map wtV)::Hs) w:=by
   have e:([.int .u64 l[k].id,.int .u64 l[k].cls,.int .u64 l[k].many,.int .u64 l[k].time,.int .u64 ((ZnD l[k].sc:Nat):Int)]:List Value)=us.map λ n=>Value.int .u64 (n:Nat):=by
    subst y;simp only [wtN,qi,jR,jx W.1,jx X.1,jx (show 0<=l[k].id by omega),jx (show 0<=l[k].many by omega)]
   rw [<-e];exact o.cons λ _ h=>h.drop
  rw [<-y] at N;have c:=YT (l:=l.take k) (code:=wtB) (m:=45) λ w o=>ZhQ (F w (qw o)) (p w (qw o));rw [qd] at c;have h0:=Zl (x:=(l.length:Int)) (by omega);obtain ⟨bs,A⟩:=xx (Zf [(l.length:Int)]++((l.take k).map wtB).flatten);have C:bs.length<=100000:=by rw [A,qb];omega
  rw [<-A] at o;refine ⟨λ t i w=>∃ j:Nat,i=j/\j<=5/\Sat R (Own t 5 (b8 (bs++Zdv (us.take j)))::pts b5 (.cells (us.map λ n=>Value.int .u64 (n:Nat)).toArray 141 (0,0))::wtD b2 l[k]::pts q (Xf s)::Zn 5 s waT (l.map wtV)::Hs) w,
   λ _ i _=>5 - i.toNat,⟨0,rfl,by omega,?_⟩,?_⟩
  ·have o:=o.m2
   simpa [Zdv] using o
  clear o;rintro _ t _ w ⟨j,rfl,hj,o⟩;refine Br.d (λ O=>?_) (λ O=>?_)
  ·have D:j<us.length:=by omega
   have J:=ZgZ (l:=us.take j) λ x M=>N x (qw M);rw [qd] at J;have L:=N _ (qh D);refine Rng.mk (by omega) (by omega) ⟨((us[j]:Nat):Int),?_,?_⟩
   ·have Q:j<(us.map λ n=>Value.int .u64 (n:Nat)).length:=by rw [qa];exact D
    have:=At.vals (b:=b5) (vs:=us.map λ n=>Value.int .u64 (n:Nat)) (eqS o) Q;rw [qX] at this;exact this
   refine (XY L o).u1 λ t1 w o=>?_;refine ⟨t1,rfl,?_⟩;have B:=YS L;refine YI ZbX (s:=t) (n:=1099511627790) underlying47 o.swap (by rw [qb];omega) (by omega) (by omega) λ s2 w o=>?_;have o:=o.cons λ _ h=>h.drop;rw [Zc (x:=(j:Int) + 1)];refine ⟨⟨j + 1,by omega,by omega,?_⟩,by dsimp only;omega⟩;rw [Zd4 D,<-qn];exact o
  ·rw [qg (by omega:us.length<=j),y,<-ZuI,A,qn,<-VW f] at o
   rw [Zc (x:=(k:Int) + 1)];exact ⟨⟨k + 1,by omega,by omega,o.cons λ _ h=>h.drop.drop⟩,by dsimp only;omega⟩
 ·rw [qg (by omega:l.length<=k)] at o
  exact hK t w (o.cons λ _ h=>Sat.rqu.2 ⟨s,h⟩)
end
end Go.Proofs.YtlplemdmegpoeaaGreatDoor

namespace Go.Proofs.YtlplemdmegpoeaaGreatDoor
section
open Go Go.VC Tryz
open Classical
variable {R:Cx} {Hs Rest:List HP} {w:World}
abbrev plT:TypeId:=107
abbrev rkT:TypeId:=125
def Y6 (e:FE):List Value:=[xP (some ⟨e.1,0,none⟩),xP (some ⟨e.2.1,0,none⟩)]
def rkV (x:Bk):List Value:=[nI x.id,nI x.flt,nI x.cls,nI x.many,nI x.state,nI x.till]
abbrev rkC (b:Nat) (x:Bk):HP:=pts b (.cells (rkV x).toArray rkT (0,0))
def ZxV (e:FE):HP:=XS [WJ e.1 e.2.2.r,X7 e.2.1 e.2.2.q]
def YJ (fs:List FE):HP:=XS (fs.map ZxV)
def US {A C:List FE} {f q:Nat} {p:Pl}:Sat R (YJ (A++(f,q,p)::C)::Hs) w↔Sat R (WJ f p.r::X7 q p.q::YJ (A++C)::Hs) w:=by
 unfold YJ;rw [qe,qi,ZeL,qe];exact Sat.star
abbrev Z1 (now next:Int) (sf sb:Sl):Obj:=.cells [nI now,nI next,.slice sf.a sf.len sf.cap,.slice sb.a sb.len sb.cap].toArray 46 (0,0)
abbrev RBO (p:Nat) (now next:Int) (L:List Bk) (sf sb:Sl) (fs:List FE) (Hs:List HP):List HP:=pts p (Z1 now next sf sb)::Zn 2 sf plT (fs.map Y6)::Zn 6 sb rkT (L.map rkV)::YJ fs::Hs
def Zk (p:Nat) (b:ZF):HP:=exs λ sf:Sl=>exs λ sb:Sl=>exs λ fs:List FE=>XS [pur ((fs.map λ e=>e.2.2)=b.fl),pts p (Z1 b.now b.next sf sb),Zn 2 sf plT (fs.map Y6),Zn 6 sb rkT (b.L.map rkV),YJ fs]
def Sat.rbook {p:Nat} {b:ZF}:Sat R (Zk p b::Hs) w↔∃ sf sb fs,(fs.map λ e=>e.2.2)=b.fl/\Sat R (RBO p b.now b.next b.L sf sb fs Hs) w:=by
 unfold Zk;simp only [Sat.exs];constructor
 ·rintro ⟨sf,sb,fs,h⟩
  obtain ⟨a,d⟩:=Sat.pur.1 (Sat.star.1 h);exact ⟨sf,sb,fs,a,d⟩
 ·rintro ⟨sf,sb,fs,a,d⟩
  exact ⟨sf,sb,fs,Sat.star.2 (Sat.pur.2 ⟨a,d⟩)⟩
def Zqm {q:Nat} {r:RF} (h:Sat R Hs w) [tk:ZaN (WJ q r) Hs Rest]:At (λ w'=>w'=w) (Addr.add ⟨q,0,none⟩ 0) [nI r.num]:=by
 obtain ⟨sg,sl,s,ts,hl,hs⟩:=Sat.rf.1 (h.perm tk.perm);have hs:=hs.take (pts q (ZD r sg sl s));rw [Zs];exact At.own (eqS hs) (by exact ⟨rfl,trivial⟩)
def Zfy {fs:List FE} {j:Nat} (hj:j<fs.length):∃ f q p,fs[j]=(f,q,p)/\fs=fs.take j++(f,q,p)::fs.drop (j + 1):=by
 refine ⟨fs[j].1,fs[j].2.1,fs[j].2.2,rfl,?_⟩;have h:=qv hj;have a:=qD j fs;rw [h] at a;exact a.symm
def ZgF {p:Nat} {now next n:Int} {L:List Bk} {sf sb:Sl} {fs:List FE} (hl:fs.length<=1000000) (o:Sat R (RBO p now next L sf sb fs Hs) w):
  Zg prog 58 #[nP p,nI n] w λ v w'=>(∃ i:Int,v=nI i/\((i=-1/\∀ e∈fs,e.2.2.n≠n)\/∃ k:Nat,i=k/\∃ hk:k<fs.length,fs[k].2.2.n=n))/\Sat R (RBO p now next L sf sb fs Hs) w':=by
 have y:=Zn.len (Sat.swap o);rw [qa] at y;apply ZvO;refine ⟨λ i w=>∃ j:Nat,i=j/\j<=fs.length/\(∀ e∈fs.take j,e.2.2.n≠n)/\Sat R (RBO p now next L sf sb fs Hs) w,λ i _=>fs.length - i.toNat,⟨0,rfl,by omega,by simp,o⟩,?_⟩;clear o;rintro _ _ w ⟨j,rfl,hj,z,o⟩;refine Zb.mk rfl ⟨sf,oA o,Br.d (λ h=>?_) (λ h=>?_)⟩
 ·have u:j<fs.length:=by omega
  obtain ⟨f,q,pl,l,m⟩:=Zfy u;refine Zb.mk rfl ⟨sf,oA o,?_⟩;refine (Zn.readsM (n:=2) (s:=sf) (T:=plT) (rows:=fs.map Y6) o (eqS o)).rngM (E:=fs) (g:=Y6) u λ a _ c=>?_;refine ⟨some ⟨f,0,none⟩,c.zz (by rw [l];exact ⟨rfl,trivial⟩),Zb.mk rfl ⟨pl.r.num,?_,?_⟩⟩
  ·have b:Sat R (YJ fs::pts p (Z1 now next sf sb)::Zn 2 sf plT (fs.map Y6)::Zn 6 sb rkT (L.map rkV)::Hs) w:=o.arr
   rw [m] at b;exact Zqm (US.1 b)
  refine Br.e (λ t=>⟨⟨j,rfl,.inr ⟨j,rfl,u,by rw [l];exact t⟩⟩,o⟩) (λ t=>?_);rw [Zc];refine ⟨⟨j + 1,by omega,by omega,λ e hm=>?_,o⟩,by dsimp only;omega⟩;rw [qp,List.getElem?_eq_getElem u] at hm;rcases qt.1 hm with hm|hm
  ·exact z e hm
  ·have x:e=fs[j]:=by simpa using hm
   rw [x,l];exact t
 ·rw [qg (by omega)] at z
  exact ⟨⟨-1,rfl,.inl ⟨rfl,z⟩⟩,o⟩
def Zu9 {fs:List FE} {k:Nat} (hk:k<fs.length):fs=fs.take k++(fs[k].1,fs[k].2.1,fs[k].2.2)::fs.drop (k + 1):=by
 have h:=qv hk;have a:=qD k fs;rw [h] at a;exact a.symm
abbrev RBR (p:Nat) (now next:Int) (L:List Bk) (sf sb:Sl) (fs:List FE) (k:Nat) (Hs:List HP):List HP:=YJ (fs.take k++fs.drop (k + 1))::pts p (Z1 now next sf sb)::Zn 2 sf plT (fs.map Y6)::Zn 6 sb rkT (L.map rkV)::Hs
def RBO.fl {p:Nat} {now next:Int} {L:List Bk} {sf sb:Sl} {fs:List FE} {k:Nat} (hk:k<fs.length):Sat R (RBO p now next L sf sb fs Hs) w↔Sat R (WJ fs[k].1 fs[k].2.2.r::X7 fs[k].2.1 fs[k].2.2.q::RBR p now next L sf sb fs k Hs) w:=by
 have e:YJ fs=YJ (fs.take k++(fs[k].1,fs[k].2.1,fs[k].2.2)::fs.drop (k + 1)):=qH YJ (Zu9 hk);constructor
 ·intro a
  have h:Sat R (YJ fs::pts p (Z1 now next sf sb)::Zn 2 sf plT (fs.map Y6)::Zn 6 sb rkT (L.map rkV)::Hs) w:=Sat.arr (Hs:=RBO p now next L sf sb fs Hs) a;rw [e] at h;exact US.1 h
 ·intro a
  have h:=US.2 a;rw [<-e] at h;exact Sat.arr (Hs:=YJ fs::pts p (Z1 now next sf sb)::Zn 2 sf plT (fs.map Y6)::Zn 6 sb rkT (L.map rkV)::Hs) h
def Zu8 {S:xE} {p:Nat} {now next:Int} {L:List Bk} {sf sb:Sl} {fs:List FE} {k:Nat} (hS:∀ w,S w->Sat R (RBO p now next L sf sb fs Hs) w) (hk:k<fs.length):At S (Addr.add ⟨fs[k].1,0,none⟩ 0) [nI fs[k].2.2.n]:=
 λ w' hs i v h=>(Zqm (r:=fs[k].2.2.r) ((RBO.fl hk).1 (hS w' hs))) w' rfl i v h
def RBO.lens {p:Nat} {now next:Int} {L:List Bk} {sf sb:Sl} {fs:List FE} (h:Sat R (RBO p now next L sf sb fs Hs) w):sf.len=fs.length/\sb.len=L.length:=by
 have a:=Zn.len (Sat.swap h);have o:Sat R (Zn 6 sb rkT (L.map rkV)::pts p (Z1 now next sf sb)::Zn 2 sf plT (fs.map Y6)::YJ fs::Hs) w:=Sat.arr (Hs:=RBO p now next L sf sb fs Hs) h;have d:=Zn.len o;rw [qa] at a d;exact ⟨a,d⟩
def Zya:ElN prog 43 43 plT 2 16:=⟨underlying43,⟨_,underlying43⟩,by kernel_rfl⟩
def ZwJ:ElN prog 44 44 rkT 6 48:=⟨underlying44,⟨_,underlying44⟩,by kernel_rfl⟩
def Sat.two {A B:HP} {d o:List HP} (i:Sat R Hs w) [a:ZaN A Hs d] [b:ZaN B d o]:Sat R [A,B,VC.tru] w:=
 (i.perm a.perm).cons λ _ h=>(h.perm b.perm).restTru2
def VT {f:Nat} {r:RF} (g:Y5 r) (h:Sat R (WJ f r::Hs) w):
  Zg prog 59 #[nP f] w λ v w'=>∃ t:Sl,v=.slice t.a t.len t.cap/\Sat R (Own t 3 (Zd (Zr r))::WJ f r::Hs) w':=
 Zh8 (by have:=g.len.1;omega) (by have:=WE g;omega) g.hcls h
end
end Go.Proofs.YtlplemdmegpoeaaGreatDoor




namespace Go.Proofs.YtlplemdmegpoeaaGreatDoor
section
open Go Go.VC Tryz
open Classical
variable {R:Cx} {Hs Rest:List HP} {w:World}
abbrev rqV (q:Rq) (s:Sl):List Value:=[nI q.kind,nI q.client,nI q.seq,nI q.token,.slice s.a s.len s.cap]
abbrev rqC (b:Nat) (q:Rq) (s:Sl):HP:=pts b (.cells (rqV q s).toArray 58 (0,0))
abbrev tdV (t:Zkg) (s:Sl):List Value:=[nI t.code,nI t.client,nI t.seq,.slice s.a s.len s.cap]
abbrev tdC (b:Nat) (t:Zkg) (s:Sl):HP:=pts b (.cells (tdV t s).toArray 54 (0,0))
abbrev Yt:Sl:=⟨none,0,0⟩
def Zkv {s:Sl} {xs:List Int} (u:∀ x∈xs,x<9223372036854775808) (hl:9 * xs.length<=1099511627776) (hs:RoI R s xs) (o:Sat R Hs w):
  Zg prog 81 #[.slice s.a s.len s.cap] w λ v w'=>∃ t:Sl,v=.slice t.a t.len t.cap/\Sat R (Own t 5 (b8 (Zf (xs.map nn)))::Hs) w':=by
 have p:=hs.len;apply Zvw;refine ⟨λ out i w=>∃ k:Nat,i=k/\k<=xs.length/\Sat R (Own out 5 (b8 (Zf ((xs.take k).map nn)))::Hs) w,λ _ i _=>xs.length - i.toNat,⟨0,rfl,by omega,Own.nil o⟩,?_⟩;clear o;rintro _ out _ w ⟨k,rfl,hk,o⟩;refine Br.d (λ h=>?_) (λ h=>?_)
 ·have z:k<xs.length:=by omega
  have g:=ZcF (u xs[k] (qh _));have j:∀ x∈(xs.take k).map nn,0<=x/\x<18446744073709551616:=λ x g=>by
   obtain ⟨y,r,rfl⟩:=qm.1 g;have:=ZcF (u y (qw r));omega
  have m:=Zx j;rw [qa,qd] at m;refine Ro.ix hs (eqS o) k rfl z ?_;rw [ZpE];obtain ⟨n,q⟩:=qs g.1;rw [q,ZM];refine (Wo (by omega) o).u1 λ t w o=>?_;refine ⟨t,rfl,?_⟩;have f:=YS (n:=n) (by omega);refine ZfX (by omega) o λ b w o=>?_;rw [Zc];refine ⟨⟨k + 1,by omega,by omega,?_⟩,by dsimp only;omega⟩;have e:(xs.take (k + 1)).map nn=(xs.take k).map nn++[nn xs[k]]:=by rw [qp,List.getElem?_eq_getElem z,qe];rfl
  rw [e,Vd,show Zf [nn xs[k]]=GS (nn xs[k]).toNat by simp [Zf],q,qo];exact o
 ·rw [qg (l:=xs) (by omega)] at o
  exact ⟨out,rfl,o⟩
def Zcb {b n:Nat} {xs:List Int} (i:n=xs.length) (o:∀ x∈xs,x<9223372036854775808) (hl:9 * xs.length<=1099511627776) (d:Sat R (pts b (.cells (Zd xs).toArray 3 (0,0))::Hs) w):
  Zg prog 81 #[.slice (some ⟨b,0,none⟩) n n] w λ v w'=>∃ t:Sl,v=.slice t.a t.len t.cap/\Sat R (Own t 5 (b8 (Zf (xs.map nn)))::Hs) w':=by
 have d:Sat R (Own ⟨some ⟨b,0,none⟩,n,n⟩ 3 (Zd xs)::Hs) w:=YL d (by rw [qa];exact i);obtain ⟨R',u,_,d,back⟩:=Own.lendI d (by omega);refine (Zkv o hl u d).u1 λ t w d=>?_;exact ⟨_,rfl,t,rfl,(back d).swap.cons λ _ h=>h.drop⟩
def Zmj {n:Int} (o:Sat R Hs w):Zg prog 211 #[nI n] w λ v w'=>v=.bool (!decide (inI n))/\Sat R Hs w':=by
 apply Zs4;refine Br.d (λ h=>⟨?_,o⟩) (λ h=>⟨?_,o⟩)
 ·rw [qz (p:=inI n) (λ a=>by unfold inI at a;omega)];rfl
 ·by_cases a:n>1099511627776
  ·rw [qE a,qz (p:=inI n) (λ i=>by unfold inI at i;omega)];rfl
  ·rw [qz a,qE (p:=inI n) ⟨by omega,by omega⟩];rfl
def Zbk {q:Rq} {s:Sl} (hs:s.len=q.cmd.length) (o:Sat R Hs w):
  Zg prog 140 #[.agg #[nI q.kind,nI q.client,nI q.seq,nI q.token,.slice s.a s.len s.cap]] w λ v w'=>v=.bool (decide (Y4 q))/\Sat R Hs w':=by
 apply ZtV;refine Za o λ b w o=>?_;have o:Sat R (rqC b q s::Hs) w:=o;have no:¬ Y4 q->∀ {w},Sat R (rqC b q s::Hs) w->(Value.bool false=.bool (decide (Y4 q))/\Sat R Hs w):=λ h w o=>⟨by rw [qz h],o.drop⟩;refine ⟨λ w=>((inI q.client/\inI q.seq/\inI q.token)/\q.cmd.length<=4000)/\Sat R (rqC b q s::Hs) w,?_,?_⟩
 ·refine ⟨q.client,oA o,q.seq,oA o,q.token,oA o,?_⟩
  refine Za o λ b2 w o=>?_;have o:Sat R (Own ⟨some ⟨b2,0,none⟩,3,3⟩ 3 (Zd [q.client,q.seq,q.token])::rqC b q s::Hs) w:=YL o;obtain ⟨R',r,_,o,back⟩:=Own.lendI o (by simp);refine (Zev (p:=λ n=>!decide (inI n)) (s:=⟨some ⟨b2,0,none⟩,3,3⟩) r (λ x w o=>XP.mk (by kernel_rfl) ((Zmj o).use λ v w h=>⟨by rw [h.1],h.2⟩)) o).u λ w o=>?_;have o:=(back o).drop;refine ⟨_,rfl,Br.mk (λ h=>no (λ y=>?_) o) (λ h=>?_)⟩
  ·have l:=y.client
   have g:=y.seq;have m:=y.token;simp [l,g,m] at h
  ·have hI:inI q.client/\inI q.seq/\inI q.token:=by simpa using h
   refine ⟨s,oA o,Br.d (λ g=>no (λ y=>by have:=y.cmd;omega) o) (λ g=>⟨⟨hI,by omega⟩,o⟩)⟩
 clear o;rintro _ w ⟨⟨⟨l,g,m⟩,f⟩,o⟩;refine ⟨λ t w=>t=decide (q.seq=0/\q.cmd.length=0)/\Sat R (rqC b q s::Hs) w,?_,?_⟩
 ·refine ⟨q.seq,oA o,Br.e (λ z=>?_) (λ z=>⟨by rw [qz (by omega)],o⟩)⟩
  refine ⟨s,oA o,?_,o⟩;show decide ((s.len:Int)=0)=_;exact qJ.2 (by omega)
 clear o;rintro _ _ w ⟨rfl,o⟩;have fin:∀ {p:Prop} {i:Decidable p},(p↔Y4 q)->(Value.bool (@decide p i)=.bool (decide (Y4 q))/\Sat R Hs w):=λ h=>⟨by congr 1;exact qJ.2 h,o.drop⟩;have mk:∀ (hk:(q.kind=1/\q.client=0/\q.seq=0/\q.cmd.length=0)\/(q.kind=2/\q.token=0)\/(q.kind=3/\q.token=0/\q.seq=0/\q.cmd.length=0)\/(q.kind=4/\q.client=0/\q.seq=0/\q.token=0)),Y4 q:=λ hk=>⟨l,g,m,f,hk⟩;refine ⟨q.kind,oA o,Br.e (λ k=>?_) (λ c=>?_)⟩
 ·refine ⟨q.client,oA o,Br.e (λ z=>fin ?_) (λ z=>no (λ y=>by have:=y.kind;omega) o)⟩
  exact ⟨λ j=>mk (by omega),λ y=>by have:=y.kind;omega⟩
 refine Br.e (λ k=>?_) (λ A=>?_)
 ·refine ⟨q.token,oA o,fin (p:=q.token=0) ?_⟩
  exact ⟨λ j=>mk (by omega),λ y=>by have:=y.kind;omega⟩
 refine Br.e (λ k=>?_) (λ D=>?_)
 ·refine ⟨q.token,oA o,Br.e (λ z=>fin ?_) (λ z=>no (λ y=>by have:=y.kind;omega) o)⟩
  exact ⟨λ j=>mk (by omega),λ y=>by have:=y.kind;omega⟩
 refine Br.e (λ k=>?_) (λ k4=>no (λ y=>by have:=y.kind;omega) o);refine ⟨q.client,oA o,Br.e (λ z=>?_) (λ z=>no (λ y=>by have:=y.kind;omega) o)⟩;refine ⟨q.seq,oA o,Br.e (λ j=>?_) (λ j=>no (λ y=>by have:=y.kind;omega) o)⟩;refine ⟨q.token,oA o,fin (p:=q.token=0) ?_⟩;exact ⟨λ E=>mk (by omega),λ y=>by have:=y.kind;omega⟩
def nnq {q:Rq} (h:Y4 q):[q.kind,q.client,q.seq,q.token].map nn=[q.kind,q.client,q.seq,q.token]:=by
 have i:=h.k4;obtain ⟨a,u⟩:=h.client;obtain ⟨d,v⟩:=h.seq;obtain ⟨o,y⟩:=h.token;show [nn q.kind,nn q.client,nn q.seq,nn q.token]=_;rw [Ve (by omega),Ve a,Ve d,Ve o]
def Zmm {q:Rq} {s:Sl} (hs:Ro R s (b8 q.cmd)) (o:Sat R Hs w):
  Zg prog 76 #[.agg #[nI q.kind,nI q.client,nI q.seq,nI q.token,.slice s.a s.len s.cap]] w λ v w'=>
   ∃ t:Sl,v=.tuple #[.slice t.a t.len t.cap,nI (ZqC q).2]/\Sat R (Own t 5 (b8 (ZqC q).1)::Hs) w':=by
 have i:s.len=q.cmd.length:=by have:=hs.len;simpa using this
 apply ZvA;refine Za o λ b w o=>?_;have o:Sat R (rqC b q s::Hs) w:=o;refine ⟨q.kind,q.client,q.seq,q.token,s,oA o,?_⟩;refine (Zbk i o).u λ w o=>?_;refine ⟨_,rfl,Br.nd (λ h=>?_) (λ h=>?_)⟩
 ·unfold ZqC
  rw [qc h];exact ⟨Yt,rfl,Own.nil o.drop⟩
 have z:=h.k4;obtain ⟨g,j⟩:=h.client;obtain ⟨k,m⟩:=h.seq;obtain ⟨n,p⟩:=h.token;have r:=h.cmd;refine Zj (Sat R [rqC b q s,VC.tru]) o (λ w o=>o.restTru2) λ w o=>?_;refine ⟨q.kind,oS,q.client,oS,q.seq,oS,q.token,oS,s,oS,?_⟩;refine Za o λ b2 w o=>⟨o.swap.restTru2,?_⟩;refine (Zcb (xs:=[q.kind,q.client,q.seq,q.token]) rfl (λ x y=>by
  simp only [qk,qO,jP] at y;omega) (by simp) o).u1 λ t1 w o=>?_
 rw [nnq h] at o;refine ⟨t1,rfl,o.swap.restTru2,?_⟩;refine (U6 hs (by omega) o).u1 λ t2 w o=>?_;refine ⟨t2,rfl,(o.arr (Hs':=rqC b q s::Own t2 5 (b8 (XI q.cmd))::Own t1 5 (b8 (Zf [q.kind,q.client,q.seq,q.token]))::Hs)).restTru2,?_⟩;have l1:=Zx (l:=[q.kind,q.client,q.seq,q.token]) λ x y=>by
  simp only [qk,qO,jP] at y;rcases y with rfl|rfl|rfl|rfl<;>omega
 have l2:=Yr (d:=q.cmd) (by omega);simp only [qr,qN] at l1;refine ZfX (by omega) o λ t w o=>⟨o.swap.restTru2,t,?_,?_⟩
 ·unfold ZqC;rw [qf h]
 ·unfold ZqC;rw [qf h]
  exact o.cons λ _ h=>h.drop
def G1 {r:Nat} {rd:Rd} (a:ZV rd.bs) (h:Sat R (Xl r rd::Hs) w):
  Zg prog 92 #[nP r] w λ v w'=>v=nI (Zh mI rd).1/\Sat R (Xl r (Zh mI rd).2::Hs) w':=by
 have d:=ZG (most:=mI) a (by decide);apply Zvm;refine (Zcp (most:=mI) a h).u λ w h=>?_;refine ⟨_,rfl,?_,h⟩;have:(Zh mI rd).1<=1099511627776:=d.2;rw [Zc]
abbrev VQ (b:Nat):HP:=rqC b ZfZ Yt
def Zgq {s:Sl} {bs:List Int} (N:ZV bs) (hl:bs.length<=1099511627776) (hs:Ro R s (b8 bs)) (o:Sat R Hs w):
  Zg prog 71 #[.slice s.a s.len s.cap] w λ v w'=>∃ t:Sl,v=.tuple #[.agg (rqV (ZU mI bs).1 t).toArray,nI (ZU mI bs).2]/\Sat R (Own t 5 (b8 (ZU mI bs).1.cmd)::Hs) w':=by
 apply ZvE;have b0:ZV (⟨bs,false⟩:Rd).bs:=N;have l0:(⟨bs,false⟩:Rd).bs.length<=1099511627776:=hl;obtain ⟨l,f⟩:=xx (⟨bs,false⟩:Rd);rw [<-f] at b0 l0;refine Za o λ b2 w o=>?_;have o:Sat R (VQ b2::Hs) w:=o;refine (Zhp hs hl o).u1 λ r w o=>?_;refine ⟨_,rfl,?_⟩;rw [<-f] at o;have b1:=Zo (most:=mI) b0;have l1:(Zh mI l).2.bs.length<=1099511627776:=jf Xh l0;obtain ⟨k,m,D⟩:∃ y rd,Zh mI l=(y,rd):=⟨_,_,rfl⟩;refine (G1 b0 o).u λ w o=>?_;rw [D] at b1 l1 o ⊢;dsimp only at b1 l1 o ⊢;refine ⟨_,rfl,?_⟩;have b2':=Zo (most:=mI) b1;have l2:(Zh mI m).2.bs.length<=1099511627776:=jf Xh l1;obtain ⟨c,n,E⟩:∃ y rd,Zh mI m=(y,rd):=⟨_,_,rfl⟩;refine (G1 b1 o).u λ w o=>?_;rw [E] at b2' l2 o ⊢;dsimp only at b2' l2 o ⊢;refine ⟨_,rfl,?_⟩;have b3:=Zo (most:=mI) b2';have l3:(Zh mI n).2.bs.length<=1099511627776:=jf Xh l2;obtain ⟨q,p,F⟩:∃ y rd,Zh mI n=(y,rd):=⟨_,_,rfl⟩;refine (G1 b2' o).u λ w o=>?_;rw [F] at b3 l3 o ⊢;dsimp only at b3 l3 o ⊢;refine ⟨_,rfl,?_⟩;have b4:=Zo (most:=mI) b3;have l4:(Zh mI p).2.bs.length<=1099511627776:=jf Xh l3;obtain ⟨t,j,G⟩:∃ y rd,Zh mI p=(y,rd):=⟨_,_,rfl⟩;refine (G1 b3 o).u λ w o=>?_;rw [G] at b4 l4 o ⊢;dsimp only at b4 l4 o ⊢;refine ⟨_,rfl,?_⟩;refine Za o λ b w o=>?_;refine sRu o λ w o=>?_;have o:Sat R (Xl r j::rqC b ⟨k,c,q,t,[]⟩ Yt::VQ b2::Hs) w:=(o.re (rqC b ⟨k,c,q,t,[]⟩ Yt)).swap;have x:=UW (most:=4000) (rd:=j);obtain ⟨d,g,H⟩:∃ y rd,Yn 4000 j=(y,rd):=⟨_,_,rfl⟩;refine (ZdN (most:=4000) (by omega) l4 b4 o).u1 λ i w o=>?_;rw [H] at o x;dsimp only at o x;refine ⟨i,rfl,?_⟩;refine sRu o λ w o=>?_;have I:Zms mI ⟨bs,false⟩=(⟨k,c,q,t,d⟩,g):=by
  rw [<-f];unfold Zms;simp only [D,E,F,G,H]
 obtain ⟨C,J⟩:=xx (⟨k,c,q,t,d⟩:Rq);have o:Sat R (rqC b C i::Own i 5 (b8 C.cmd)::Xl r g::VQ b2::Hs) w:=by rw [J];exact o.re (rqC b ⟨k,c,q,t,d⟩ i)
 rw [<-J] at I;have z:ZU mI bs=if Xw g=true/\Y4 C then (C,0) else (ZfZ,6):=by unfold ZU;rw [I]
 clear I J f D E F G H b0 b1 b2' b3 b4 l0 l1 l2 l3;have o:=o.m2;refine (ZdC o).u λ w o=>?_;have no:ZU mI bs=(ZfZ,6)->∀ {w},Sat R (VQ b2::Hs) w->∃ t:Sl,Value.tuple #[.agg (rqV ZfZ Yt).toArray,nI 6]=.tuple #[.agg (rqV (ZU mI bs).1 t).toArray,nI (ZU mI bs).2]/\Sat R (Own t 5 (b8 (ZU mI bs).1.cmd)::Hs) w:=λ e {w} o=>by
  rw [e];exact ⟨Yt,rfl,Own.nil o.drop⟩
 refine ⟨_,rfl,Br.nb (λ h=>?_) (λ h=>?_)⟩
 ·have o:Sat R (VQ b2::Hs) w:=o.drop.drop.drop
  refine sRu o λ w o=>?_;have o:=o.re (VQ b2);refine ⟨_,_,_,_,Yt,oA o,no ?_ o⟩;rw [z,qc (by rintro ⟨L,_⟩;rw [L] at h;cases h)]
 refine ⟨C.kind,C.client,C.seq,C.token,i,oA o,?_⟩;have M:i.len=C.cmd.length:=by
  have:=Own.len (o.arr (Hs':=Own i 5 (b8 C.cmd)::Xl r g::rqC b C i::VQ b2::Hs));simpa using this
 refine (Zbk M o).u λ w o=>?_;refine ⟨_,rfl,Br.nb (λ A=>?_) (λ A=>?_)⟩
 ·have o:Sat R (VQ b2::Hs) w:=o.drop.drop.drop
  refine sRu o λ w o=>?_;have o:=o.re (VQ b2);refine ⟨_,_,_,_,Yt,oA o,no ?_ o⟩;rw [z,qc (by rintro ⟨_,L⟩;rw [qE L] at A;cases A)]
 refine ⟨C.kind,C.client,C.seq,C.token,i,oA o,?_⟩;have o:=o.m2.m3;refine sRu o λ w o=>?_;have o:=o.re (rqC b2 C i);refine ⟨C.kind,C.client,C.seq,C.token,i,oA o,?_⟩;rw [z,qf ⟨h,qF A⟩];exact ⟨i,rfl,o.drop.cons λ _ h=>h.drop.drop⟩
abbrev GW (b:Nat):HP:=tdC b ZwO Yt
def ZgP {s:Sl} {xs:List Int} (u:∀ x∈xs,x<9223372036854775808) (hl:9 * xs.length<=1099511627776) (hs:RoI R s xs) (o:Sat R Hs w):
  Zg prog 90 #[.slice s.a s.len s.cap] w λ v w'=>∃ t:Sl,v=.slice t.a t.len t.cap/\Sat R (Own t 5 (b8 (Zf (xs.map nn)))::Hs) w':=by
 have p:=hs.len;apply Zvo;refine ⟨λ out i w=>∃ k:Nat,i=k/\k<=xs.length/\Sat R (Own out 5 (b8 (Zf ((xs.take k).map nn)))::Hs) w,λ _ i _=>xs.length - i.toNat,⟨0,rfl,by omega,Own.nil o⟩,?_⟩;clear o;rintro _ out _ w ⟨k,rfl,hk,o⟩;refine Br.d (λ h=>?_) (λ h=>?_)
 ·have z:k<xs.length:=by omega
  have g:=ZcF (u xs[k] (qh _));have j:∀ x∈(xs.take k).map nn,0<=x/\x<18446744073709551616:=λ x g=>by
   obtain ⟨y,r,rfl⟩:=qm.1 g;have:=ZcF (u y (qw r));omega
  have m:=Zx j;rw [qa,qd] at m;refine Ro.ix hs (eqS o) k rfl z ?_;rw [ZpE];obtain ⟨n,q⟩:=qs g.1;rw [q,ZM];refine (XY (by omega) o).u1 λ t w o=>?_;refine ⟨t,rfl,?_⟩;have f:=YS (n:=n) (by omega);refine ZfX (by omega) o λ b w o=>?_;rw [Zc];refine ⟨⟨k + 1,by omega,by omega,?_⟩,by dsimp only;omega⟩;have e:(xs.take (k + 1)).map nn=(xs.take k).map nn++[nn xs[k]]:=by rw [qp,List.getElem?_eq_getElem z,qe];rfl
  rw [e,Vd,show Zf [nn xs[k]]=GS (nn xs[k]).toNat by simp [Zf],q,qo];exact o
 ·rw [qg (l:=xs) (by omega)] at o
  exact ⟨out,rfl,o⟩
def Zcv {b n:Nat} {xs:List Int} (i:n=xs.length) (o:∀ x∈xs,x<9223372036854775808) (hl:9 * xs.length<=1099511627776) (d:Sat R (pts b (.cells (Zd xs).toArray 3 (0,0))::Hs) w):
  Zg prog 90 #[.slice (some ⟨b,0,none⟩) n n] w λ v w'=>∃ t:Sl,v=.slice t.a t.len t.cap/\Sat R (Own t 5 (b8 (Zf (xs.map nn)))::Hs) w':=by
 have d:Sat R (Own ⟨some ⟨b,0,none⟩,n,n⟩ 3 (Zd xs)::Hs) w:=YL d (by rw [qa];exact i);obtain ⟨R',u,_,d,back⟩:=Own.lendI d (by omega);refine (ZgP o hl u d).u1 λ t w d=>?_;exact ⟨_,rfl,t,rfl,(back d).swap.cons λ _ h=>h.drop⟩
def ZeX {q:Rq} {s:Sl} (hs:s.len=q.cmd.length) (o:Sat R Hs w):
  Zg prog 84 #[.agg #[nI q.kind,nI q.client,nI q.seq,nI q.token,.slice s.a s.len s.cap]] w λ v w'=>v=.bool (decide (Y4 q))/\Sat R Hs w':=by
 apply Zvu;refine Za o λ b w o=>?_;have o:Sat R (rqC b q s::Hs) w:=o;refine ⟨q.client,oA o,q.seq,oA o,q.token,oA o,?_⟩;refine Za o λ b2 w o=>?_;have o:Sat R (Own ⟨some ⟨b2,0,none⟩,3,3⟩ 3 (Zd [q.client,q.seq,q.token])::rqC b q s::Hs) w:=YL o;obtain ⟨L,j⟩:=xx ([q.client,q.seq,q.token]);have f:L.length=3:=by rw [j];rfl
 rw [<-j] at o;have no:¬ Y4 q->∀ {w},Sat R (Own ⟨some ⟨b2,0,none⟩,3,3⟩ 3 (Zd L)::rqC b q s::Hs) w->(Value.bool false=.bool (decide (Y4 q))/\Sat R Hs w):=λ h w o=>⟨by rw [qz h],o.drop.drop⟩;have bad:∀ n∈L,¬ inI n->¬ Y4 q:=λ n g h u=>by
  rw [j] at g;simp only [qk,qO,jP] at g;rcases g with rfl|rfl|rfl
  ·exact h u.client
  ·exact h u.seq
  ·exact h u.token
 refine ⟨λ i w=>∃ k:Nat,i=k/\k<=3/\(∀ n∈L.take k,inI n)/\Sat R (Own ⟨some ⟨b2,0,none⟩,3,3⟩ 3 (Zd L)::rqC b q s::Hs) w,λ i _=>3 - i.toNat,⟨0,rfl,by omega,by simp,o⟩,?_⟩;clear o;rintro _ _ w ⟨k,rfl,hk,y,o⟩;refine Br.d (λ h=>?_) (λ h=>?_)
 ·have z:k<L.length:=by omega
  refine Own.ix (s:=⟨some ⟨b2,0,none⟩,3,3⟩) o (eqS o) k rfl z ?_;refine Br.d (λ r=>no (bad _ (qh z) (by unfold inI;omega)) o) (λ r=>?_);refine Own.ix (s:=⟨some ⟨b2,0,none⟩,3,3⟩) o (eqS o) k rfl z ?_;refine Br.d (λ t=>no (bad _ (qh z) (by unfold inI;omega)) o) (λ t=>?_);rw [Zc];refine ⟨⟨k + 1,by omega,by omega,λ n g=>?_,o⟩,by dsimp only;omega⟩;rw [qp,List.getElem?_eq_getElem z] at g;rcases qt.1 g with g|g
  ·exact y n g
  ·rw [show n=L[k] by simpa using g]
   exact ⟨by omega,by omega⟩
 rw [qg (by omega)] at y;have c:inI q.client:=y _ (by rw [j];simp);have r:inI q.seq:=y _ (by rw [j];simp);have t:inI q.token:=y _ (by rw [j];simp);refine ⟨s,oA o,Br.d (λ A=>no (λ u=>by have:=u.cmd;omega) o) (λ A=>?_)⟩;have fin:∀ {p:Prop} {i:Decidable p},(p↔Y4 q)->(Value.bool (@decide p i)=.bool (decide (Y4 q))/\Sat R Hs w):=λ h=>⟨by congr 1;exact qJ.2 h,o.drop.drop⟩;have mk:∀ (hk:(q.kind=1/\q.client=0/\q.seq=0/\q.cmd.length=0)\/(q.kind=2/\q.token=0)\/(q.kind=3/\q.token=0/\q.seq=0/\q.cmd.length=0)\/(q.kind=4/\q.client=0/\q.seq=0/\q.token=0)),Y4 q:=λ hk=>⟨c,r,t,by omega,hk⟩;refine ⟨q.kind,oA o,Br.e (λ k=>?_) (λ D=>?_)⟩
 ·refine ⟨q.client,oA o,Br.e (λ m=>?_) (λ m=>no (λ u=>by have:=u.kind;omega) o)⟩
  refine ⟨q.seq,oA o,Br.e (λ l=>?_) (λ l=>no (λ u=>by have:=u.kind;omega) o)⟩;refine ⟨s,oA o,fin (p:=(s.len:Int)=0) ?_⟩;exact ⟨λ x=>mk (by omega),λ u=>by have:=u.kind;omega⟩
 refine Br.e (λ k=>?_) (λ E=>?_)
 ·refine ⟨q.token,oA o,fin (p:=q.token=0) ?_⟩
  exact ⟨λ l=>mk (by omega),λ u=>by have:=u.kind;omega⟩
 refine Br.e (λ k=>?_) (λ F=>?_)
 ·refine ⟨q.seq,oA o,Br.e (λ m=>?_) (λ m=>no (λ u=>by have:=u.kind;omega) o)⟩
  refine ⟨q.token,oA o,Br.e (λ l=>?_) (λ l=>no (λ u=>by have:=u.kind;omega) o)⟩;refine ⟨s,oA o,fin (p:=(s.len:Int)=0) ?_⟩;exact ⟨λ x=>mk (by omega),λ u=>by have:=u.kind;omega⟩
 refine Br.e (λ k=>?_) (λ k4=>no (λ u=>by have:=u.kind;omega) o);refine ⟨q.client,oA o,Br.e (λ m=>?_) (λ m=>no (λ u=>by have:=u.kind;omega) o)⟩;refine ⟨q.seq,oA o,Br.e (λ l=>?_) (λ l=>no (λ u=>by have:=u.kind;omega) o)⟩;refine ⟨q.token,oA o,fin (p:=q.token=0) ?_⟩;exact ⟨λ x=>mk (by omega),λ u=>by have:=u.kind;omega⟩
def Zcw {s:Sl} {bs:List Int} (j:ZV bs) (hl:bs.length<=1099511627776) (hs:SlR R.m s (b8 bs)) (o:Sat R Hs w):
  Zg prog 27 #[.slice s.a s.len s.cap] w λ v w'=>∃ t:Sl,v=.tuple #[.agg (rqV (ZU mI bs).1 t).toArray,nI (ZU mI bs).2]/\Sat R (Own t 5 (b8 (ZU mI bs).1.cmd)::Hs) w':=by
 rw [<-Zre];apply Zwd;have bb0:ZV (⟨bs,false⟩:Rd).bs:=j;obtain ⟨x,n⟩:=xx (⟨bs,false⟩:Rd);rw [<-n] at bb0;refine Za o λ b2 w o=>?_;have o:Sat R (VQ b2::Hs) w:=o;refine Za o λ p w o=>?_;have o:Sat R (pts p (Yk s 0 false)::VQ b2::Hs) w:=o;have o:Sat R (Xn p s bs ⟨bs,false⟩::VQ b2::Hs) w:=Sat.rrd.2 ⟨0,⟨by omega,rfl⟩,o⟩;rw [<-n] at o;have bb1:=Zo (most:=4) bb0;have v1:=ZG (most:=4) bb0 (by decide);obtain ⟨k,f,A⟩:∃ y rd,Zh 4 x=(y,rd):=⟨_,_,rfl⟩;refine (Ye (most:=4) hl j hs o).u λ w o=>?_;rw [A] at bb1 v1 o ⊢;dsimp only at bb1 v1 o ⊢;refine ⟨_,rfl,?_⟩;have bb2:=Zo (most:=mI) bb1;have v2:=ZG (most:=mI) bb1 (by decide);obtain ⟨c,D,E⟩:∃ y rd,Zh mI f=(y,rd):=⟨_,_,rfl⟩;refine (Ye (most:=mI) hl j hs o).u λ w o=>?_;rw [E] at bb2 v2 o ⊢;dsimp only at bb2 v2 o ⊢;refine ⟨_,rfl,?_⟩;have bb3:=Zo (most:=mI) bb2;have v3:=ZG (most:=mI) bb2 (by decide);obtain ⟨q,F,G⟩:∃ y rd,Zh mI D=(y,rd):=⟨_,_,rfl⟩;refine (Ye (most:=mI) hl j hs o).u λ w o=>?_;rw [G] at bb3 v3 o ⊢;dsimp only at bb3 v3 o ⊢;refine ⟨_,rfl,?_⟩;have bb4:=Zo (most:=mI) bb3;have v4:=ZG (most:=mI) bb3 (by decide);obtain ⟨t,l,H⟩:∃ y rd,Zh mI F=(y,rd):=⟨_,_,rfl⟩;refine (Ye (most:=mI) hl j hs o).u λ w o=>?_;rw [H] at bb4 v4 o ⊢;dsimp only at bb4 v4 o ⊢;refine ⟨_,rfl,?_⟩;have v2b:c<=1099511627776:=v2.2;have v3b:q<=1099511627776:=v3.2;have v4b:t<=1099511627776:=v4.2;rw [Zb2 v1.1 (by omega),Zb2 v2.1 (by omega),Zb2 v3.1 (by omega),Zb2 v4.1 (by omega)];refine Za o λ b w o=>?_;refine sRu o λ w o=>?_;have o:Sat R (Xn p s bs l::rqC b ⟨k,c,q,t,[]⟩ Yt::VQ b2::Hs) w:=(o.re (rqC b ⟨k,c,q,t,[]⟩ Yt)).swap;obtain ⟨d,g,I⟩:∃ y rd,Yn 4000 l=(y,rd):=⟨_,_,rfl⟩;refine (Zcn (most:=4000) (by omega) hl j hs o).u1 λ i w o=>?_;rw [I] at o;dsimp only at o;refine ⟨i,rfl,?_⟩;refine sRu o λ w o=>?_;have J:Zms 4 ⟨bs,false⟩=(⟨k,c,q,t,d⟩,g):=by
  rw [<-n];unfold Zms;simp only [A,E,G,H,I]
 obtain ⟨C,L⟩:=xx (⟨k,c,q,t,d⟩:Rq);have o:Sat R (rqC b C i::Own i 5 (b8 C.cmd)::Xn p s bs g::VQ b2::Hs) w:=by rw [L];exact o.re (rqC b ⟨k,c,q,t,d⟩ i)
 rw [<-L] at J;have z:ZU 4 bs=if Xw g=true/\Y4 C then (C,0) else (ZfZ,6):=by unfold ZU;rw [J]
 clear J L n A E G H I;have o:=o.m2;refine (Zbo hs o).u λ w o=>?_;have no:ZU 4 bs=(ZfZ,6)->∀ {w},Sat R (VQ b2::Hs) w->∃ t:Sl,Value.tuple #[.agg (rqV ZfZ Yt).toArray,nI 6]=.tuple #[.agg (rqV (ZU 4 bs).1 t).toArray,nI (ZU 4 bs).2]/\Sat R (Own t 5 (b8 (ZU 4 bs).1.cmd)::Hs) w:=λ e {w} o=>by
  rw [e];exact ⟨Yt,rfl,Own.nil o.drop⟩
 refine ⟨_,rfl,C.kind,C.client,C.seq,C.token,i,oA o,?_⟩;have M:i.len=C.cmd.length:=by
  have:=Own.len (o.arr (Hs':=Own i 5 (b8 C.cmd)::Xn p s bs g::rqC b C i::VQ b2::Hs));simpa using this
 refine (ZeX M o).u λ w o=>?_;refine ⟨_,rfl,Br.nb (λ h=>?_) (λ h=>Br.nb (λ r=>?_) (λ r=>?_))⟩
 ·have o:Sat R (VQ b2::Hs) w:=o.drop.drop.drop
  refine sRu o λ w o=>?_;have o:=o.re (VQ b2);refine ⟨_,_,_,_,Yt,oA o,no ?_ o⟩;rw [z,qc (by rintro ⟨N,_⟩;rw [N] at h;cases h)]
 ·have o:Sat R (VQ b2::Hs) w:=o.drop.drop.drop
  refine sRu o λ w o=>?_;have o:=o.re (VQ b2);refine ⟨_,_,_,_,Yt,oA o,no ?_ o⟩;rw [z,qc (by rintro ⟨_,N⟩;rw [qE N] at r;cases r)]
 refine ⟨C.kind,C.client,C.seq,C.token,i,oA o,?_⟩;have o:=o.m2.m3;refine sRu o λ w o=>?_;have o:=o.re (rqC b2 C i);refine ⟨C.kind,C.client,C.seq,C.token,i,oA o,?_⟩;rw [z,qf ⟨h,qF r⟩];exact ⟨i,rfl,o.drop.cons λ _ h=>h.drop.drop⟩
def Zbn {q:Zkg} {s t:Sl} (o:Ro R s (b8 q.reply)) (i:Ro R t (b8 q.reply)) (d:Sat R Hs w):
  Zg prog 28 #[.agg #[nI q.code,nI q.client,nI q.seq,.slice s.a s.len s.cap],.agg #[nI q.code,nI q.client,nI q.seq,.slice t.a t.len t.cap]] w λ v w'=>v=.bool true/\Sat R Hs w':=by
 apply Zwc;refine Za d λ x w d=>Za d λ y w d=>?_;have d:Sat R (tdC y q t::tdC x q s::Hs) w:=d;refine ⟨q.code,oA d,q.code,oA d,Br.e (λ _=>?_) (λ h=>absurd rfl h)⟩;refine ⟨q.client,oA d,q.client,oA d,Br.e (λ _=>?_) (λ h=>absurd rfl h)⟩;refine ⟨q.seq,oA d,q.seq,oA d,Br.e (λ _=>?_) (λ h=>absurd rfl h)⟩;refine ⟨s,oA d,VC.strOf q.reply,λ w' e=>?_,t,oA d,VC.strOf q.reply,λ w' e=>?_,?_,d.drop.drop⟩
 ·rw [show w'=w from e]
  exact Uk underlying47 underlying5 underlying9 d o
 ·rw [show w'=w from e]
  exact Uk underlying47 underlying5 underlying9 d i
 ·rw [ZhY,qE rfl]
end
section
open Go Go.VC Tryz
open Classical
variable {R:Cx} {Hs Rest:List HP} {w:World} {p:Nat} {now next:Int} {L:List Bk} {sf sb:Sl} {fs:List FE}
def Zaa {id:Int} (hl:L.length<=1000000) (o:Sat R (RBO p now next L sf sb fs Hs) w):
  Zg prog 117 #[nP p,nI id] w λ v w'=>(∃ i:Int,v=nI i/\((i=-1/\∀ x∈L,x.id≠id)\/∃ k:Nat,i=k/\∃ hk:k<L.length,L[k].id=id))/\Sat R (RBO p now next L sf sb fs Hs) w':=by
 apply Zue;have m:=(RBO.lens o).2;refine ⟨λ i w=>∃ j:Nat,i=j/\j<=L.length/\(∀ x∈L.take j,x.id≠id)/\Sat R (RBO p now next L sf sb fs Hs) w,λ i _=>L.length - i.toNat,⟨0,rfl,by omega,by simp,o⟩,?_⟩;clear o;rintro _ _ w ⟨j,rfl,hj,u,o⟩;refine Zb.mk rfl ⟨sb,oA o,Br.d (λ h=>?_) (λ h=>?_)⟩
 ·have y:j<L.length:=by omega
  refine Zb.mk rfl ⟨sb,oA o,?_⟩;refine (Zn.readsM (n:=6) (s:=sb) (T:=rkT) (rows:=L.map rkV) o (eqS o)).rngM (E:=L) (g:=rkV) y λ a _ q=>?_;refine ⟨L[j].id,q.zz (by exact ⟨rfl,trivial⟩),Br.e (λ l=>?_) (λ l=>?_)⟩
  ·exact ⟨⟨j,rfl,.inr ⟨j,rfl,y,l⟩⟩,o⟩
  ·rw [Zc]
   refine ⟨⟨j + 1,by omega,by omega,λ x z=>?_,o⟩,by dsimp only;omega⟩;rw [qp,List.getElem?_eq_getElem y] at z;rcases qt.1 z with z|z
   ·exact u x z
   ·rw [show x=L[j] by simpa using z];exact l
 ·rw [qg (by omega)] at u
  exact ⟨⟨-1,rfl,.inl ⟨rfl,u⟩⟩,o⟩
def ZdV (a:Sat R (RBO p now next L sf sb fs Hs) w):
  Zg prog 110 #[nP p] w λ v w'=>v=.bool (decide (300<=L.length\/28629151<=next))/\Sat R (RBO p now next L sf sb fs Hs) w':=by
 apply Zul;have o:=(RBO.lens a).2;refine Zb.mk rfl ⟨sb,oA a,?_⟩
 with_reducible refine Br.d (λ h=>?_) (λ h=>?_)
 ·exact ⟨by rw [qE (.inl (by omega))],a⟩
 ·refine Zb.mk rfl ⟨next,oA a,?_,a⟩
  congr 1
  exact qJ.2 ⟨λ h=>.inr h,λ i=>i.resolve_left (by omega)⟩
def ZmD (l:List Bk):ZN (l.map rkV).flatten=true:=by
 unfold ZN;rw [qW];intro v a;obtain ⟨r,d,h⟩:=jZ.1 a;obtain ⟨x,_,rfl⟩:=qm.1 d;simp only [rkV,qk,qO,jP] at h;rcases h with rfl|rfl|rfl|rfl|rfl|rfl<;>rfl
def Zph (l:List Bk) (k:Nat):ZN ((l.map rkV).take k).flatten=true:=by
 rw [<-jk];exact ZmD _
def Zpi (l:List Bk) (k:Nat):ZN ((l.map rkV).drop k).flatten=true:=by
 rw [<-jo];exact ZmD _
def ZgA {k:Nat} (hl:L.length<=1000000) (hk:k<L.length) (a:Sat R (RBO p now next L sf sb fs Hs) w):
  Zg prog 115 #[nP p,nI k] w λ v w'=>v=.tuple #[]/\∃ d,Sat R (RBO p now next (L.take k++L.drop (k + 1)) sf d fs Hs) w':=by
 apply Zug
 suffices H:∀ K:Value->xE,(∀ d w',Sat R (RBO p now next (L.take k++L.drop (k + 1)) sf d fs Hs) w'->K (.tuple #[]) w')->B115 (some ⟨p,0,none⟩) k K w from H _ λ d w' h=>⟨rfl,d,h⟩
 intro K hK;have u:=(RBO.lens a).2;have a:=a.m2;have y:=Zn.cap (by omega) a;have g:(L.map rkV).length=L.length:=qa ..;obtain ⟨R',o,⟨j,n⟩,a,back⟩:=Zn.lend a;refine Zj (Sat R' [pts p (Z1 now next sf sb),VC.tru]) a (λ w a=>a.restTru2) λ w a=>?_;rw [Zc (x:=(k:Int) + 1),show ((k:Int) + 1).toNat=k + 1 by omega];refine Zb.mk rfl ⟨sb,oS,by omega,by omega,Zb.mk rfl ⟨sb,oS,by omega,by omega,?_⟩⟩;refine Za a λ b5 w a=>⟨a.swap.restTru2,?_⟩;refine Xd (b:=b5) (ys:=(L.map rkV).take k) ZwJ a (Vv ⟨_,underlying44⟩ a (o.take (h:=k) (by omega) sb.cap) (Zph L k)) o.wid.take (by rw [qd];omega) (by rw [qd];omega) λ q w a=>⟨a.swap.restTru2,?_⟩;have i:=o.sub (l:=k + 1) (h:=sb.len) (m:=sb.cap) (by omega) (by omega) (by omega);rw [qg (show (L.map rkV).length<=sb.len by omega)] at i;refine ZY (ys:=(L.map rkV).drop (k + 1)) ZwJ a (Vv ⟨_,underlying44⟩ a i (Zpi L (k + 1))) o.wid.drop (by simp only [qd,qx];omega) (by simp only [qd,qx];omega) λ z w a=>⟨a.swap.restTru2,Zb.mk rfl ?_⟩;have a:=back a;have a:=a.m1.m2;refine sRu a λ w a=>?_;have a:=a.re (pts p (Z1 now next sf z));have e:(L.map rkV).take k++(L.map rkV).drop (k + 1)=(L.take k++L.drop (k + 1)).map rkV:=by
  rw [<-jk,<-jo,qe]
 rw [e] at a;have a:=a.b2.b3;exact hK z w a.drop
def ZnH {k:Nat} (h:X8 Bk.id L) (hk:k<L.length):Zfi Bk.id L[k].id L=L.take k++L.drop (k + 1):=by
 have e:L=L.take k++L[k]::L.drop (k + 1):=by
  conv=>lhs;rw [<-qD k L,qv hk]
 have i:∀ x∈L.take k++L.drop (k + 1),x.id≠L[k].id:=by
  intro x d;have o:(L.take k++L[k]::L.drop (k + 1)).Pairwise λ a b=>a.id<b.id:=by rw [<-e];exact h
  rw [ji,qC] at o;obtain ⟨_,⟨u,_⟩,n3⟩:=o;rcases qt.1 d with d|d
  ·have:=n3 x d _ qq;omega
  ·have:=u x d;omega
 unfold Zfi;generalize d:L[k]=x at *
 conv=>lhs;rw [e]
 rw [j4,vy,qc (by simp),<-j4];exact jS.2 λ y v=>by simpa using i y v
def Zcq {b:ZF} {s:ByteArray} (k:Core b) (a:Sat R (RBO p b.now b.next b.L sf sb fs Hs) w):
  Zg prog 51 #[nP p,xZ s] w λ v w'=>(∃ i e:Int,v=.tuple #[nI i,nI e]/\((e≠0/\Xi b s=(none,e))\/(e=0/\∃ k:Nat,i=k/\∃ hk:k<b.L.length,Xi b s=(some b.L[k],0))))/\Sat R (RBO p b.now b.next b.L sf sb fs Hs) w':=by
 have hm:=k.many;apply ZvV
 suffices H:∀ K:Value->xE,(∀ (i e:Int) w',((e≠0/\Xi b s=(none,e))\/(e=0/\∃ k:Nat,i=k/\∃ hk:k<b.L.length,Xi b s=(some b.L[k],0)))->Sat R (RBO p b.now b.next b.L sf sb fs Hs) w'->K (.tuple #[nI i,nI e]) w')->B51 (some ⟨p,0,none⟩) s K w from H _ λ i e w' h o=>⟨⟨i,e,rfl,h⟩,o⟩
 intro K hK;refine (Zgu (s:=s) a).u λ w a=>?_;refine ⟨_,_,rfl,Br.ne (λ h=>?_) (λ h=>?_)⟩
 ·exact hK _ _ _ (.inl ⟨h,by unfold Xi;rw [qf h]⟩) a
 refine (Zaa (id:=(Xj (ZE s)).1) (by omega) a).use ?_;clear a;rintro _ w ⟨⟨i,rfl,hi⟩,a⟩;refine ⟨i,rfl,Br.d (λ o=>?_) (λ o=>?_)⟩
 ·refine hK _ _ _ (.inl ⟨by omega,?_⟩) a
  have y:∀ x∈b.L,x.id≠(Xj (ZE s)).1:=by
   rcases hi with ⟨_,z⟩|⟨k,rfl,_⟩
   ·exact z
   ·omega
  unfold Xi;rw [qc (by omega)];have:b.bk (Xj (ZE s)).1=none:=by
   cases l:b.bk (Xj (ZE s)).1 with
   |none=>rfl
   |some x=>exact absurd ((Zew k).1 l).2 (y x ((Zew k).1 l).1)
  rw [this]
 ·obtain ⟨j,rfl,hj,g⟩:∃ j:Nat,i=j/\∃ hj:j<b.L.length,b.L[j].id=(Xj (ZE s)).1:=by
   rcases hi with ⟨rfl,_⟩|z
   ·omega
   ·exact z
  refine hK _ _ _ (.inr ⟨rfl,j,rfl,hj,?_⟩) a;unfold Xi;rw [qc (by omega),(Zew k).2 ⟨qh hj,g⟩]
def Y8 {b4:Nat} {p r:Rp} {m n sl sb:Sl} {K:Int->ByteArray->Int->Int->Int->Int->Int->Sl->Sl->xE} (i:Sat R (rpC b4 p m n::Hs) w) (k:∀ w',Sat R Hs w'->K r.code r.pnr r.state r.flt r.cls r.many r.time sl sb w'):
  ∃ o:World,((Instr.storeAt 33 (xP ((some ⟨b4,0,none⟩))) (.agg #[nI r.code,xZ r.pnr,nI r.state,nI r.flt,nI r.cls,nI r.many,nI r.time,.slice sl.a sl.len sl.cap,.slice sb.a sb.len sb.cap])).run prog w=.ok () o)/\
  ∃ u:Int,∃ v:ByteArray,∃ y:Int,∃ z:Int,∃ g:Int,∃ j:Int,∃ l:Int,∃ h:Sl,∃ d:Sl,(At (λ w'=>w'=o) ⟨b4,0,none⟩ [nI u,xZ v,nI y,nI z,nI g,nI j,nI l,.slice h.a h.len h.cap,.slice d.a d.len d.cap])/\
  K u v y z g j l h d o:=by
 refine sRu i λ w i=>?_;have i:=i.re (rpC b4 r sl sb);exact ⟨r.code,r.pnr,r.state,r.flt,r.cls,r.many,r.time,sl,sb,oA i,k _ i.drop⟩
abbrev ZaR (b f q:Nat):HP:=pts b (.cells [nP f,nP q].toArray plT (0,0))
abbrev RBM (p:Nat) (now next:Int) (L:List Bk) (sf sb:Sl) (M:List (List Value)) (A C:List FE) (f q:Nat) (pl:Pl) (Hs:List HP):List HP:=
 WJ f pl.r::X7 q pl.q::YJ (A++C)::pts p (Z1 now next sf sb)::Zn 2 sf plT M::Zn 6 sb rkT (L.map rkV)::Hs
def RBM.iff {A C:List FE} {f q:Nat} {pl:Pl} {M:List (List Value)} (a:(A++(f,q,pl)::C).map Y6=M):Sat R (RBO p now next L sf sb (A++(f,q,pl)::C) Hs) w↔Sat R (RBM p now next L sf sb M A C f q pl Hs) w:=by
 rw [<-a];constructor
 ·intro h
  have h:=h.m3;have h:=US.1 h;exact h
 ·intro h
  have h:Sat R (YJ (A++(f,q,pl)::C)::pts p (Z1 now next sf sb)::Zn 2 sf plT ((A++(f,q,pl)::C).map Y6)::Zn 6 sb rkT (L.map rkV)::Hs) w:=US.2 h;exact h.arr
def Zli {f:Nat} {r:RF} {o:Int} (g:Y5 r) (h:Sat R (WJ f r::Hs) w):
  Zg prog 125 #[nP f,nI o] w λ v w'=>∃ t:Sl,v=.slice t.a t.len t.cap/\Sat R (Own t 9 ((YD r o).map Value.string)::WJ f r::Hs) w':=
 ZeR (by have:=g.len.1;omega) g.hgrps g.hseats h
def Zgv {q:Nat} {l:List Wt} (a:Sat R Hs w) [tk:ZaN (X7 q l) Hs Rest]:ZaY q w=l.length:=by
 obtain ⟨s,a⟩:=Sat.rqu.1 (a.perm tk.perm);have h:=Zn.len a.swap;rw [qa] at h;unfold ZaY;rw [a.at];exact h
def ZaV {h:List HP} {q:Nat} {l:List Wt} {t:Sl} {left:List Int} (o:QOk l) (hl:left.length<=9223372036854775807) (d:Sat R Hs w) [tk:ZaN (Own t 3 (Zd left)) Hs Rest] [tk2:ZaN (X7 q l) Rest h]:
  Zg prog 192 #[nP q,.slice t.a t.len t.cap] w λ v w'=>v=.tuple #[wtA ((Ys l left).getD XJ),.bool (Ys l left).isSome]/\Sat R (X7 q l::h) w':=by
 obtain ⟨y,i,u,d⟩:=Own.leak (d.perm tk.perm);refine (Zgx o (u.ro) (d.perm tk2.perm)).mono ?_;rintro _ w ⟨rfl,d⟩;exact ⟨rfl,i.back d⟩
structure RPm (n:Int) (b:ZF) (A C:List FE) (f q:Nat) (j:Nat) (b':ZF) (pl:Pl):Prop where
 prom:ZH n b=ZcA j n b'
 len:pl.q.length<j
 core:Core b'
 here:b'.at n=some pl
 now:b'.now=b.now
 next:b'.next=b.next
 fl:(A++(f,q,pl)::C).map (λ e=>e.2.2)=b'.fl
def Zc3 {A C:List FE} {f q:Nat} {pl:Pl} {b:ZF} {g:Pl->Pl} {n:Int} (k:Core b) (h:(A++(f,q,pl)::C).map (λ e=>e.2.2)=b.fl) (d:pl.n=n):(A++(f,q,g pl)::C).map (λ e=>e.2.2)=V5 Pl.n n g b.fl:=by
 have a:=k.nums;rw [<-h] at a ⊢;simp only [qe,qi] at a ⊢;rw [Zff d a]
def ZoE {L:List Bk} {k:Nat} {g:Bk->Bk} (h:X8 Bk.id L) (hk:k<L.length):V5 Bk.id L[k].id g L=L.set k (g L[k]):=by
 have e:L=L.take k++L[k]::L.drop (k + 1):=by
  conv=>lhs;rw [<-qD k L,qv hk]
 have a:X8 Bk.id (L.take k++L[k]::L.drop (k + 1)):=by rw [<-e];exact h
 rw [vL,qf hk];generalize d:L[k]=x at *
 conv=>lhs;rw [e]
 exact Zff rfl a
def Ua {b:ZF} {A C:List FE} {f q:Nat} {pl:Pl} (k:Core b) (V:(A++(f,q,pl)::C).map (λ e=>e.2.2)=b.fl) (d:Sat R (RBO p b.now b.next b.L sf sb (A++(f,q,pl)::C) Hs) w):
  Zg prog 113 #[nP p,nI (A.length:Nat)] w λ v w'=>v=.tuple #[]/\∃ pl',(A++(f,q,pl')::C).map (λ e=>e.2.2)=(ZH pl.n b).fl/\Sat R (RBO p b.now b.next (ZH pl.n b).L sf sb (A++(f,q,pl')::C) Hs) w':=by
 obtain ⟨n,hn⟩:=xx (pl.n);obtain ⟨M,hM⟩:=xx ((A++(f,q,pl)::C).map Y6);have F:∀ pl',(A++(f,q,pl')::C).map Y6=M:=λ pl'=>by
  rw [hM,qe,qe,qi,qi];rfl
 have hm:=k.many;have G:pl∈b.fl:=by rw [<-V];simp
 rw [<-hn];have h0:b.at n=some pl:=(UL k).2 ⟨G,hn.symm⟩;apply Zui
 suffices H:∀ K:Value->xE,(∀ pl' w',(A++(f,q,pl')::C).map (λ e=>e.2.2)=(ZH n b).fl->Sat R (RBO p b.now b.next (ZH n b).L sf sb (A++(f,q,pl')::C) Hs) w'->K (.tuple #[]) w')->B113 (some ⟨p,0,none⟩) (A.length:Nat) K w from
  H _ λ pl' w' h h2=>⟨rfl,pl',h,h2⟩
 intro K hK;have h1:A.length<(A++(f,q,pl)::C).length:=by simp
 refine Zb.mk rfl ⟨sf,oA d,?_⟩;refine (Zn.readsM (n:=2) (s:=sf) (T:=plT) (rows:=(A++(f,q,pl)::C).map Y6) d (eqS d)).rngM (E:=A++(f,q,pl)::C) (g:=Y6) h1 λ a _ he=>?_;have h3:(A++(f,q,pl)::C)[A.length]=(f,q,pl):=by simp
 rw [h3] at he;refine ⟨some ⟨f,0,none⟩,some ⟨q,0,none⟩,he.z (by exact ⟨rfl,rfl,trivial⟩),?_⟩;refine Za d λ b4 w d=>?_;refine sRu d λ w d=>?_;have d:=d.re (ZaR b4 f q);have d:=d.b4;have d:=(RBM.iff (F pl)).1 d;refine ⟨λ w=>∃ j b' pl',RPm n b A C f q j b' pl'/\Sat R (RBM p b.now b.next b'.L sf sb M A C f q pl' (ZaR b4 f q::Hs)) w,λ w=>ZaY q w,
  ⟨201,b,pl,⟨rfl,by have:=(k.qok pl G).len;omega,k,h0,rfl,rfl,V⟩,d⟩,?_⟩
 clear d he;rintro _ w ⟨j,b',pl',hi,d⟩;have h4:ZaY q w=pl'.q.length:=Zgv d;have m:=Yg hi.here;have U:=hi.core.good pl' m.1;have c:=hi.core.qok pl' m.1;have J:=VS U;obtain ⟨j,rfl⟩:∃ i,j=i + 1:=⟨j - 1,by have:=hi.len;omega⟩;have o:=hi.prom;unfold ZcA at o;rw [hi.here] at o;dsimp only at o;obtain ⟨P,D⟩:=xx ((Ys pl'.q (Zr pl'.r)).getD XJ);refine ⟨λ w5 h5 w=>∃ l,w5=some ⟨l,0,none⟩/\h5=(Ys pl'.q (Zr pl'.r)).isSome/\Sat R (RBM p b.now b.next b'.L sf sb M A C f q pl' (wtD l P::ZaR b4 f q::Hs)) w,?_,?_⟩
 ·have sx:∀ {w:World} {Hs Rest:List HP} [ZaN (ZaR b4 f q) Hs Rest],Sat R Hs w->Sat R [ZaR b4 f q,VC.tru] w:=λ {w Hs Rest} _ d=>(d.take (ZaR b4 f q)).restTru2
  refine Zj (Sat R [ZaR b4 f q,VC.tru]) d (λ w d=>sx d) λ w d=>?_;refine ⟨some ⟨q,0,none⟩,oS,some ⟨f,0,none⟩,oS,?_,?_⟩
  ·refine (VT U d).u1 λ sl w d=>?_
   refine ⟨sl,rfl,sx d,?_,?_⟩
   ·refine (ZaV c J d).u λ w d=>?_
    refine ⟨_,_,_,_,_,_,rfl,sx d,?_⟩;refine Za d λ l w d=>⟨sx d,?_⟩;have d:=d.re (wtD l XJ);refine ZO d (by kernel_rfl) rfl (by simp [Value.cells,wtV]) λ w d=>?_;rw [<-D] at d;have d:=d.re (wtD l P);exact ⟨l,rfl,rfl,d.arr⟩
   ·refine Za d λ l w d=>⟨sx d,?_⟩
    have d:=d.re (wtD l XJ);refine (ZaV c J d).u λ w d=>?_;refine ⟨_,_,_,_,_,_,rfl,sx d,?_⟩;have d:=d.b2;refine ZO d (by kernel_rfl) rfl (by simp [Value.cells,wtV]) λ w d=>?_;rw [<-D] at d;have d:=d.re (wtD l P);exact ⟨l,rfl,rfl,d.arr⟩
  ·refine Za d λ l w d=>⟨sx d,?_⟩
   have d:=d.re (wtD l XJ);refine (VT U d.swap).u1 λ sl w d=>?_;refine ⟨sl,rfl,sx d,?_⟩;refine (ZaV c J d).u λ w d=>?_;refine ⟨_,_,_,_,_,_,rfl,sx d,?_⟩;have d:=d.m1.m2;refine ZO d (by kernel_rfl) rfl (by simp [Value.cells,wtV]) λ w d=>?_;rw [<-D] at d;have d:=d.re (wtD l P);exact ⟨l,rfl,rfl,d.arr⟩
 clear d;rintro _ _ _ w ⟨l,rfl,rfl,d⟩;cases hf:Ys pl'.q (Zr pl'.r) with
 |none=>
  rw [hf] at o;dsimp only at o;refine Br.t rfl (hK pl' w (by rw [o];exact hi.fl) ?_);rw [o];have d:=(RBM.iff (F pl')).2 d;have d:=d.m5.m5;exact d.drop.drop
 |some x=>
  rw [hf] at o D;dsimp only [Option.getD_some] at o D;rw [D] at d;obtain ⟨hx,hb,hd⟩:=ZbW hi.core m.1 hf;obtain ⟨y,h6,W,hh,hj,hl,ho⟩:=hi.core.waits m.1 hx;have I:UC x.id pl'.q=true:=Zao.2 ⟨x,hx,rfl⟩;have X:ZfV pl'.q x.id=(Zbd x.id pl'.q,0):=by unfold ZfV;rw [qf I]
  have hp:=ZfE I;have hq:=hi.core.many;have hr:=WE U;have hs:=U.len.1;refine Br.f rfl ⟨some ⟨q,0,none⟩,oA d,Zb.mk rfl ⟨x.id,oA d,?_⟩⟩;refine (G5 (by have:=c.len;omega) d.swap).u λ w d=>?_;rw [X] at d ⊢;refine ⟨_,rfl,some ⟨f,0,none⟩,oA d,Zb.mk rfl ⟨x.id,oA d,Zb.mk rfl ⟨x.cls,oA d,Zb.mk rfl ⟨x.many,oA d,?_⟩⟩⟩⟩;refine (Zcl (by omega) (by omega) U.hcls d.swap).u λ w d=>?_;refine ⟨_,rfl,?_⟩;have N:Core (Za5 b' n x):=Zdc hi.core m.1 m.2 hf;have Y:(Za5 b' n x).at n=some (GY x pl'):=Zit hi.core hi.here;have d:Sat R (RBM p b.now b.next b'.L sf sb M A C f q (GY x pl') (wtD l x::ZaR b4 f q::Hs)) w:=d;have d:=(RBM.iff (F (GY x pl'))).2 d;have hc:=(RBO.lens d).2;have sx:∀ {w:World},Sat R (RBO p b.now b.next b'.L sf sb (A++(f,q,GY x pl')::C) (wtD l x::ZaR b4 f q::Hs)) w->Sat R [pts p (Z1 b.now b.next sf sb),wtD l x,VC.tru] w:=λ d=>Sat.two d;refine Zj (Sat R [pts p (Z1 b.now b.next sf sb),wtD l x,VC.tru]) d (λ w d=>sx d) λ w d=>?_;refine Zb.mk rfl ⟨sb,oS,Zb.mk rfl ⟨x.id,oS,?_⟩⟩;refine (Zaa (id:=x.id) (by omega) d).use ?_;clear d;rintro _ w ⟨⟨i,rfl,h7⟩,d⟩;obtain ⟨O,rfl,Q,h8⟩:∃ O:Nat,i=O/\∃ hk:O<b'.L.length,b'.L[O].id=x.id:=by
   rcases h7 with ⟨_,h⟩|h
   ·exact absurd W (h y h6)
   ·exact h
  refine ⟨_,rfl,sx d,?_⟩;have h9:=Zn.readsM (n:=6) (s:=sb) (T:=rkT) (rows:=b'.L.map rkV) d (eqS d);refine h9.rngM (E:=b'.L) (g:=rkV) Q λ a ha _=>?_;refine Zn.storeM (n:=6) (s:=sb) (T:=rkT) (E:=b'.L) (g:=rkV) 4 (Gj b'.L[O]) d ha Q (by kernel_rfl) rfl (by simp [Value.cells]) rfl λ w d=>?_;have S:b'.L.set O (Gj b'.L[O])=(Za5 b' n x).L:=by
   show _=V5 Bk.id x.id Gj b'.L;rw [<-h8,ZoE hi.core.ids Q]
  rw [S] at d;have d:=d.b2.m4;have d:=(RBM.iff (F (GY x pl'))).1 d.drop;have B:ZaY q w=(GY x pl').q.length:=Zgv d;refine ⟨⟨j,Za5 b' n x,GY x pl',⟨o,by have:=hi.len;show (Zbd x.id pl'.q).length<j;omega,N,Y,hi.now,hi.next,Zc3 hi.core hi.fl m.2⟩,d⟩,?_⟩;show ZaY q w<ZaY q _;rw [h4,B];show (Zbd x.id pl'.q).length<_;omega
def YE {b:ZF} {n:Int} (k:Core b) (h:fs.map (λ e=>e.2.2)=b.fl) (a:Sat R (RBO p now next L sf sb fs Hs) w):
  Zg prog 58 #[nP p,nI n] w λ v w'=>(∃ i:Int,v=nI i/\((i=-1/\b.at n=none)\/∃ A f q C pl,i=(A.length:Nat)/\fs=A++(f,q,pl)::C/\b.at n=some pl))/\Sat R (RBO p now next L sf sb fs Hs) w':=by
 have hl:fs.length=b.fl.length:=by rw [<-h,qa]
 have m:=k.few;refine (ZgF (n:=n) (by omega) a).mono ?_;rintro v w' ⟨⟨i,rfl,hi⟩,a⟩;refine ⟨⟨i,rfl,?_⟩,a⟩;rcases hi with ⟨o,z⟩|⟨j,o,hj,u⟩
 ·refine .inl ⟨o,?_⟩
  cases g:b.at n with
  |none=>rfl
  |some x=>
   obtain ⟨y,l⟩:=Yg g;rw [<-h] at y;obtain ⟨e,d,rfl⟩:=qm.1 y;exact absurd l (z e d)
 ·obtain ⟨f,q,pl,d,hs⟩:=Zfy hj
  rw [d] at u;refine .inr ⟨fs.take j,f,q,fs.drop (j + 1),pl,?_,hs,(UL k).2 ⟨?_,u⟩⟩
  ·rw [qd];omega
  ·rw [<-h,hs];simp
def XQ {A:HP} {Hs d:List HP} {B C:HP} {o i:List HP} (u:Sat R Hs w) [a:ZaN A Hs d] [b:ZaN B d o] [c:ZaN C o i]:Sat R [A,B,C,VC.tru] w:=
 (u.perm a.perm).cons λ _ h=>(h.perm b.perm).cons λ _ h=>(h.perm c.perm).restTru2
def ZaQ {b:ZF} {k:Nat} (hk:k<b.L.length) (kc:Core b) (h0:fs.map (λ e=>e.2.2)=b.fl) (d:Sat R (RBO p b.now b.next b.L sf sb fs Hs) w):
  Zg prog 57 #[nP p,nI k] w λ v w'=>∃ sl m:Sl,v=.agg (rpV (YW b b.L[k]) sl m).toArray/\Sat R (Own sl 3 (Zd (YW b b.L[k]).left)::Own m 9 ((YW b b.L[k]).labs.map Value.string)::RBO p b.now b.next b.L sf sb fs Hs) w':=by
 obtain ⟨x,hx⟩:=xx (b.L[k]);have h1:x∈b.L:=by rw [hx];exact qh hk
 obtain ⟨pl,t⟩:=kc.at_of h1;have ht:YW b x=Xp pl x:=by unfold YW;rw [t]
 obtain ⟨hc,hj⟩:=Yg t;have hg:=kc.good pl hc;have hd:=kc.each x h1;have hl:=hd.id;have hm:=kc.next;rw [<-hx,ht];apply ZvP
 suffices H:∀ K:Value->xE,(∀ sl m w',Sat R (Own sl 3 (Zd (Zr pl.r))::Own m 9 ((YD pl.r x.id).map Value.string)::RBO p b.now b.next b.L sf sb fs Hs) w'->K (.agg (rpV (Xp pl x) sl m).toArray) w')->B57 (some ⟨p,0,none⟩) k K w from
  H _ λ sl m w' h=>⟨sl,m,rfl,h⟩
 intro K hK;refine Za d λ b4 w d=>?_;refine Zb.mk rfl ⟨sb,oA d,?_⟩;refine (Zn.readsM (n:=6) (s:=sb) (T:=rkT) (rows:=b.L.map rkV) d (eqS d)).rngM (E:=b.L) (g:=rkV) hk λ a _ Y=>?_;rw [<-hx] at Y;refine ⟨x.id,x.flt,x.cls,x.many,x.state,x.till,Y.z (by exact ⟨rfl,rfl,rfl,rfl,rfl,rfl,trivial⟩),?_⟩;refine Za d λ b5 w d=>?_;refine sRu d λ w d=>?_;have d:=d.re (rkC b5 x);have d:Sat R (RBO p b.now b.next b.L sf sb fs (rkC b5 x::rpC b4 (Z4 0) Ze Ze::Hs)) w:=by
  have d:Sat R (rkC b5 x::rpC b4 (Z4 0) Ze Ze::RBO p b.now b.next b.L sf sb fs Hs) w:=d;exact d.arr
 refine ⟨λ a w=>∃ c A f q C,a=some ⟨c,0,none⟩/\fs=A++(f,q,pl)::C/\Sat R (ZaR c f q::RBO p b.now b.next b.L sf sb fs (rkC b5 x::rpC b4 (Z4 0) Ze Ze::Hs)) w,?_,?_⟩
 ·refine Zj (Sat R [pts p (Z1 b.now b.next sf sb),Zn 2 sf plT (fs.map Y6),rkC b5 x,VC.tru]) d (λ w d=>XQ d) λ w d=>?_
  have hh:=(RBO.lens d).1;have rd:VG 2 sf (fs.map Y6) (Sat R [pts p (Z1 b.now b.next sf sb),Zn 2 sf plT (fs.map Y6),rkC b5 x,VC.tru]):=Zn.readsT (n:=2) (s:=sf) (T:=plT) d inferInstance (λ w h=>h) inferInstance;refine Zb.mk rfl ⟨sf,oS,x.flt,oS,?_,?_⟩
  ·refine (YE (n:=x.flt) kc h0 d).use ?_
   clear d;rintro _ w ⟨⟨i,rfl,hi⟩,d⟩;obtain ⟨A,f,q,C,S,rfl,l,I⟩:=hi.resolve_left λ h=>by rw [t] at h;cases h.2
   obtain rfl:pl=S:=by rw [t] at I;exact jp I
   have B:A.length<fs.length:=by rw [l];simp
   refine ⟨_,rfl,XQ d,?_⟩;refine rd.rngM (E:=fs) (g:=Y6) B λ a _ Y=>?_;have P:fs[A.length]=(f,q,pl):=by simp [l]
   rw [P] at Y;refine ⟨some ⟨f,0,none⟩,some ⟨q,0,none⟩,Y.z (by exact ⟨rfl,rfl,trivial⟩),?_⟩;refine Za d λ c w d=>⟨XQ d,?_⟩;refine sRu d λ w d=>?_;exact ⟨c,A,f,q,C,rfl,l,d.re (ZaR c f q)⟩
  ·refine Za d λ c w d=>⟨XQ d,?_⟩
   have d:=d.b4;refine (YE (n:=x.flt) kc h0 d).use ?_;clear d;rintro _ w ⟨⟨i,rfl,hi⟩,d⟩;obtain ⟨A,f,q,C,S,rfl,l,I⟩:=hi.resolve_left λ h=>by rw [t] at h;cases h.2
   obtain rfl:pl=S:=by rw [t] at I;exact jp I
   have B:A.length<fs.length:=by rw [l];simp
   refine ⟨_,rfl,XQ d,?_⟩;refine rd.rngM (E:=fs) (g:=Y6) B λ a _ Y=>?_;have P:fs[A.length]=(f,q,pl):=by simp [l]
   rw [P] at Y;refine ⟨some ⟨f,0,none⟩,some ⟨q,0,none⟩,Y.z (by exact ⟨rfl,rfl,trivial⟩),?_⟩;have d:=d.m4;refine sRu d λ w d=>?_;exact ⟨c,A,f,q,C,rfl,l,d.re (ZaR c f q)⟩
 clear d;rintro _ _ w ⟨c,A,f,q,C,rfl,l,d⟩;refine ⟨x.id,oA d,?_⟩;refine (ZkN (n:=x.id) ⟨by omega,by omega⟩ d).u λ w d=>?_;refine ⟨_,_,rfl,?_⟩;subst l;obtain ⟨M,hM⟩:=xx ((A++(f,q,pl)::C).map Y6);have d:=d.b4;have d:=(RBM.iff hM.symm).1 d;have fin:∀ {b9:Nat} {sl:Sl} {w:World},Sat R (rpC b9 { Xp pl x with labs:=[] } sl Ze::Own sl 3 (Zd (Zr pl.r))::RBM p b.now b.next b.L sf sb M A C f q pl (ZaR c f q::rkC b5 x::rpC b4 (Z4 0) Ze Ze::Hs)) w->
   ∃ h2:xA,At (λ w'=>w'=w) (Addr.add ⟨c,0,none⟩ 0) [xP h2]/\∃ h3:Int,At (λ w'=>w'=w) ⟨b5,0,none⟩ [nI h3]/\nC 125 #[xP h2,nI h3] w λ hf h4=>
    ∃ D:Sl,(hf=xR (.slice D.a D.len D.cap))/\
    ∃ J:World,((Instr.storeAt 31 (xP ((some ⟨b9,0 + 8,none⟩))) (.slice D.a D.len D.cap)).run prog h4=.ok () J)/\
    ∃ h5:Int,∃ N:ByteArray,∃ O:Int,∃ Q:Int,∃ U:Int,∃ V:Int,∃ W:Int,∃ y:Sl,∃ j:Sl,(At (λ w'=>w'=J) ⟨b9,0,none⟩ [nI h5,xZ N,nI O,nI Q,nI U,nI V,nI W,.slice y.a y.len y.cap,.slice j.a j.len j.cap])/\
    ∃ X:World,((Instr.storeAt 33 (xP ((some ⟨b4,0,none⟩))) (.agg #[nI h5,xZ N,nI O,nI Q,nI U,nI V,nI W,.slice y.a y.len y.cap,.slice j.a j.len j.cap])).run prog J=.ok () X)/\
    ∃ u:Int,∃ h6:ByteArray,∃ h7:Int,∃ h8:Int,∃ h9:Int,∃ ha:Int,∃ hb:Int,∃ F:Sl,∃ G:Sl,(At (λ w'=>w'=X) ⟨b4,0,none⟩ [nI u,xZ h6,nI h7,nI h8,nI h9,nI ha,nI hb,.slice F.a F.len F.cap,.slice G.a G.len G.cap])/\
    K (.agg #[nI u,xZ h6,nI h7,nI h8,nI h9,nI ha,nI hb,.slice F.a F.len F.cap,.slice G.a G.len G.cap]) X:=λ {b9 sl w} d=>by
  refine ⟨some ⟨f,0,none⟩,oA d,x.id,oA d,?_⟩;refine (Zli (o:=x.id) hg (d.take (WJ f pl.r))).u1 λ m w d=>?_;refine ⟨m,rfl,?_⟩;have d:=d.m3.m11.m4;refine sRu d λ w d=>?_;have d:=d.re (rpC b9 (Xp pl x) sl m);refine ⟨_,_,_,_,_,_,_,sl,m,oA d,?_⟩;refine Y8 (r:=Xp pl x) (sl:=sl) (sb:=m) d.swap λ w d=>hK sl m w ?_;have d:=d.b8.b7.b7;have d:=(RBM.iff hM.symm).2 d;have d:=d.m3.m3.m3.m3.m5.m5.m8.m8.m8;exact d.drop.drop.drop
 refine Zj (Sat R [rkC b5 x,ZaR c f q,VC.tru]) d (λ w d=>Sat.two d) λ w d=>?_;refine ⟨x.state,oS,x.flt,oS,x.cls,oS,x.many,oS,x.till,oS,Zb.mk rfl ⟨some ⟨f,0,none⟩,oS,?_,?_⟩⟩
 ·refine (VT hg d).u1 λ sl w d=>?_
  refine ⟨sl,rfl,Sat.two d,?_⟩;refine Za d λ b9 w d=>⟨Sat.two d,?_⟩;refine sRu d λ w d=>Zb.mk rfl (fin (b9:=b9) (sl:=sl) ?_);exact d.re (rpC b9 { Xp pl x with labs:=[] } sl Ze)
 ·refine Za d λ b9 w d=>⟨Sat.two d,?_⟩
  refine (VT hg d.swap).u1 λ sl w d=>?_;refine ⟨sl,rfl,Sat.two d,?_⟩;have d:=d.arr (Hs':=pts b9 (.cells #[nI 0,xZ (ByteArray.mk #[]),nI 0,nI 0,nI 0,nI 0,nI 0,.slice none 0 0,.slice none 0 0] 33 (0,0))::Own sl 3 (Zd (Zr pl.r))::RBM p b.now b.next b.L sf sb M A C f q pl (ZaR c f q::rkC b5 x::rpC b4 (Z4 0) Ze Ze::Hs));refine sRu d λ w d=>Zb.mk rfl (fin (b9:=b9) (sl:=sl) ?_);exact d.re (rpC b9 { Xp pl x with labs:=[] } sl Ze)
end
section
open Go Go.VC Tryz
open Classical
variable {R:Cx} {Hs Rest:List HP} {w:World} {p:Nat}
abbrev rpZ (b:Nat):HP:=rpC b (Z4 0) Ze Ze
abbrev Zdz (R:Cx) (Hs:List HP) (p:Nat) (y:ZF × Rp) (K:Value->xE):Prop:=
 ∀ (sl sx:Sl) (w':World),Sat R (Own sl 3 (Zd y.2.left)::Own sx 9 (y.2.labs.map Value.string)::Zk p y.1::Hs) w'->K (.agg (rpV y.2 sl sx).toArray) w'
def Zdz.err {K:Value->xE} {b:ZF} {e:Int} (h:Zdz R Hs p (b,Z4 e) K) {w:World} (a:Sat R (Zk p b::Hs) w):K (.agg (rpV (Z4 e) Ze Ze).toArray) w:=
 h Ze Ze w (Own.nil (Own.nil a))
def RBM.book {b:ZF} {sf sb:Sl} {M:List (List Value)} {A C:List FE} {f q:Nat} {pl:Pl} (a:(A++(f,q,pl)::C).map Y6=M) (h:(A++(f,q,pl)::C).map (λ e=>e.2.2)=b.fl) {w:World} (d:Sat R (RBM p b.now b.next b.L sf sb M A C f q pl Hs) w):Sat R (Zk p b::Hs) w:=
 Sat.rbook.2 ⟨sf,sb,_,h,(RBM.iff a).2 d⟩
def Ze8 {A C:List FE} {f q:Nat} {pl pl':Pl}:(A++(f,q,pl')::C).map Y6=(A++(f,q,pl)::C).map Y6:=by
 rw [qe,qe,qi,qi];rfl
def ZkP {b:ZF} {c:Cm} {sg sp:Sl} (k:Core b) (hc:Z9 c) (o:Sat R (Zk p b::Hs) w):
  Zg prog 48 #[nP p,cmA c sg sp] w λ v w'=>∃ sl I:Sl,v=.agg (rpV (XE b c).2 sl I).toArray/\Sat R (Own sl 3 (Zd (XE b c).2.left)::Own I 9 ((XE b c).2.labs.map Value.string)::Zk p (XE b c).1::Hs) w':=by
 apply ZvY
 suffices H:∀ K:Value->xE,Zdz R Hs p (XE b c) K->B48 (some ⟨p,0,none⟩) c.kind c.pnr c.flt c.cls c.many c.time c.sc c.lab c.rows sg sp K w from H _ (λ sl I w' h=>⟨sl,I,rfl,h⟩)
 intro K hK;have hm:=k.many;have h7:=k.next;refine Za o λ b3 w o=>Za o λ b4 w o=>?_;obtain ⟨sf,sb,fs,F,o⟩:=Sat.rbook.1 (show Sat R (Zk p b::rpZ b4::cmC b3 c sg sp::Hs) w from Sat.arr (show Sat R (rpZ b4::cmC b3 c sg sp::Zk p b::Hs) w from o))
 refine ⟨c.flt,oA o,?_⟩;refine (YE (n:=c.flt) k F o).use ?_;clear o;rintro _ w ⟨⟨i,rfl,hi⟩,o⟩;refine ⟨i,rfl,?_⟩;refine (ZdV o).u λ w o=>?_;refine ⟨_,rfl,?_⟩;have err:∀ {e:Int} {w:World},XE b c=(b,Z4 e)->Sat R (RBO p b.now b.next b.L sf sb fs (rpZ b4::cmC b3 c sg sp::Hs)) w->Sat R (rpZ b4::cmC b3 c sg sp::Zk p b::Hs) w:=λ {e w} _ o=>by
  have o:Sat R (Zk p b::rpZ b4::cmC b3 c sg sp::Hs) w:=Sat.rbook.2 ⟨sf,sb,fs,F,o⟩;exact o.arr
 refine Br.d (λ h=>?_) (λ h=>?_)
 ·have hb:b.at c.flt=none:=by
   rcases hi with j|⟨A,f,q,C,pl,rfl,_⟩
   ·exact j.2
   ·omega
  have l:XE b c=(b,Z4 2):=by unfold XE;rw [hb]
  rw [l] at hK;exact Y8 (r:=Z4 2) (sl:=Ze) (sb:=Ze) (err l o) λ w o=>hK.err o.drop
 obtain ⟨A,f,q,C,pl,rfl,rfl,J⟩:=hi.resolve_left λ j=>by omega
 have D:XE b c=if c.time<=b.now then (b,Z4 1) else if b.full then (b,Z4 3)
  else if (Zy pl.r b.next c.cls c.many).2≠0 then (b,Z4 (Zy pl.r b.next c.cls c.many).2)
  else ({ b.put c.flt (takeP b.next c.cls c.many) (b.L++[Xc b c]) with next:=b.next + 1 },Xp (takeP b.next c.cls c.many pl) (Xc b c)):=by unfold XE;rw [J]
 obtain ⟨X,O⟩:=Yg J;have Y:=k.good pl X;refine Zi o λ w o=>?_;refine ⟨c.time,oS,Zb.mk rfl ⟨b.now,oS,Br.d (λ S=>?_) (λ S=>?_)⟩⟩
 ·have l:XE b c=(b,Z4 1):=by rw [D,qf S]
  rw [l] at hK;exact Y8 (r:=Z4 1) (sl:=Ze) (sb:=Ze) (err l o) λ w o=>hK.err o.drop
 rw [qc S] at D;refine Br.d (λ j=>?_) (λ j=>?_)
 ·have j:b.full:=j
  have l:XE b c=(b,Z4 3):=by rw [D,qf j]
  rw [l] at hK;exact Y8 (r:=Z4 3) (sl:=Ze) (sb:=Ze) (err l o) λ w o=>hK.err o.drop
 have j:¬ b.full:=j;rw [qc j] at D;have o:=(RBM.iff rfl).1 o;have B:A.length<(A++(f,q,pl)::C).length:=by simp
 have P:(A++(f,q,pl)::C)[A.length]=(f,q,pl):=by simp
 have rd:VG 2 sf ((A++(f,q,pl)::C).map Y6) (Sat R [pts p (Z1 b.now b.next sf sb),Zn 2 sf plT ((A++(f,q,pl)::C).map Y6),cmC b3 c sg sp,VC.tru]):=Zn.readsT (n:=2) (s:=sf) (T:=plT) o inferInstance (λ w h=>h) inferInstance;refine Zj (Sat R [pts p (Z1 b.now b.next sf sb),Zn 2 sf plT ((A++(f,q,pl)::C).map Y6),cmC b3 c sg sp,VC.tru]) o (λ w o=>XQ o) λ w o=>?_;refine Zb.mk rfl ⟨sf,oS,?_⟩;refine rd.rngM (E:=A++(f,q,pl)::C) (g:=Y6) B λ a _ l=>?_;rw [P] at l;refine ⟨some ⟨f,0,none⟩,l.zz (by exact ⟨rfl,trivial⟩),Zb.mk rfl ⟨b.next,oS,c.cls,oS,c.many,oS,?_⟩⟩;have h8:=WE Y;have h9:=Y.len.1;refine (Zcl (owner:=b.next) (cls:=c.cls) (many:=c.many) (by omega) (by omega) Y.hcls o).u λ w o=>?_;refine ⟨_,rfl,XQ o,Br.ne (λ Q=>?_) (λ Q=>?_)⟩
 ·rw [qf Q] at D
  rw [D] at hK;rw [ZhX Q] at o;have o:Sat R (rpZ b4::cmC b3 c sg sp::RBM p b.now b.next b.L sf sb ((A++(f,q,pl)::C).map Y6) A C f q pl Hs) w:=Sat.arr (show Sat R (WJ f pl.r::X7 q pl.q::YJ (A++C)::pts p (Z1 b.now b.next sf sb)::Zn 2 sf plT ((A++(f,q,pl)::C).map Y6)::Zn 6 sb rkT (b.L.map rkV)::rpZ b4::cmC b3 c sg sp::Hs) w from o)
  exact Y8 (r:=Z4 _) (sl:=Ze) (sb:=Ze) o λ w o=>hK.err (RBM.book rfl F o.drop)
 rw [qc (λ h=>h Q)] at D;have y:=Zaz k hc J j Q;obtain ⟨nb,m⟩:=xx (({ b.put c.flt (takeP b.next c.cls c.many) (b.L++[Xc b c]) with next:=b.next + 1 }:ZF));obtain ⟨x,U⟩:=xx (Xc b c);obtain ⟨pl',z⟩:=xx (takeP b.next c.cls c.many pl);have t:(A++(f,q,pl')::C).map (λ e=>e.2.2)=nb.fl:=by rw [m,z];exact Zc3 k F O
 rw [<-m] at y D;rw [<-U,<-z] at D;have V:nb.at c.flt=some pl':=(UL y).2 ⟨by rw [<-t];simp,by rw [z];exact WT.1.trans O⟩;have G:nb.L=b.L++[x]:=by rw [m,U];rfl
 have M:YW nb x=Xp pl' x:=by unfold YW;rw [U,show (Xc b c).flt=c.flt from rfl,<-U,V]
 rw [D] at hK;have o:Sat R (RBM p b.now b.next b.L sf sb ((A++(f,q,pl)::C).map Y6) A C f q pl' (rpZ b4::cmC b3 c sg sp::Hs)) w:=by rw [z];exact o
 refine Zj (Sat R [pts p (Z1 b.now b.next sf sb),cmC b3 c sg sp,VC.tru]) o (λ w o=>Sat.two o) λ w o=>?_;refine Zb.mk rfl ⟨sb,oS,Zb.mk rfl ⟨b.next,oS,c.flt,oS,c.cls,oS,c.many,oS,c.time,oS,?_⟩⟩;have ha:sb.len=b.L.length:=by have:=Zn.len (o.take (Zn 6 sb rkT (b.L.map rkV)));rwa [qa] at this
 refine Za o λ W w o=>⟨Sat.two o,?_⟩;have o:Sat R (rkC W x::RBM p b.now b.next b.L sf sb ((A++(f,q,pl)::C).map Y6) A C f q pl' (rpZ b4::cmC b3 c sg sp::Hs)) w:=by rw [U];exact o
 have o:=o.m2.m2.m3.m5.m5.m5.m6;refine ZY (ys:=[rkV x]) ZwJ o (Gh ⟨_,underlying44⟩ (b:=W) 1 o rfl rfl) (Wid.one rfl) (by rw [qT,qa];omega) (by rw [qT,qa];omega) λ N w o=>⟨Sat.two o,Zb.mk rfl ?_⟩;have o:=o.m1.m2;refine sRu o λ w o=>Zb.mk rfl ?_;have o:=o.re (pts p (Z1 b.now b.next sf N));refine ⟨b.next,oA o,Zb.mk rfl ?_⟩;rw [Zc];refine sRu o λ w o=>Zb.mk rfl ?_;have o:=o.re (pts p (Z1 b.now (b.next + 1) sf N));have e5:b.L.map rkV++[rkV x]=nb.L.map rkV:=by rw [G,qe];rfl
 rw [e5] at o;have h0:nb.now=b.now:=by rw [m];rfl
 have h4:nb.next=b.next + 1:=by rw [m]
 rw [<-h0,<-h4] at o;have hd:N.len=b.L.length + 1:=by have:=Zn.len (o.take (Zn 6 N rkT (nb.L.map rkV)));rw [qa,G,qb] at this;exact this
 refine ⟨N,oA o,?_⟩;rw [Zc,show (N.len:Int) - 1=((b.L.length:Nat):Int) by omega];have o:=o.m1.m2.m3.m3.m4.m6.m6;have o:=(RBM.iff (Ze8 (pl:=pl))).2 o;have h5:b.L.length<nb.L.length:=by rw [G];simp
 have h6:nb.L[b.L.length]=x:=by simp [G]
 refine (ZaQ h5 y t o).use ?_;clear o;rintro _ w ⟨sl,I,rfl,o⟩;rw [h6,M] at o ⊢;refine ⟨_,_,_,_,_,_,_,sl,I,rfl,?_⟩;have o:=o.m8.m7.m8;refine Y8 (r:=Xp pl' x) (sl:=sl) (sb:=I) o λ w o=>hK sl I w ?_;exact o.drop.drop.cons λ _ h=>h.cons λ _ h=>Sat.rbook.2 ⟨sf,N,_,t,h⟩
def Zrj {l:List Wt} {x:Wt} (h:(WW l x).2≠0):(WW l x).1=l:=by
 unfold WW at *;split
 ·rfl
 ·split
  ·rfl
  ·split
   ·rfl
   ·rename_i a d o
    rw [qc a,qc d,qc o] at h;exact absurd rfl h
def Zpn {l:List Wt} {x:Wt} (h:(WW l x).2=0):(WW l x).1=Zee x l:=by
 unfold WW at *;split at h
 ·cases h
 ·split at h
  ·cases h
  ·split at h
   ·cases h
   ·rename_i a d o
    rw [qc a,qc d,qc o]
def Zgr {A B C D:HP} {Hs o i u v:List HP} (y:Sat R Hs w) [a:ZaN A Hs o] [b:ZaN B o i] [c:ZaN C i u] [d:ZaN D u v]:Sat R [A,B,C,D,VC.tru] w:=
 (y.perm a.perm).cons λ _ h=>(h.perm b.perm).cons λ _ h=>(h.perm c.perm).cons λ _ h=>(h.perm d.perm).restTru2
def ZkC {b:ZF} {c:Cm} {sg sp:Sl} (k:Core b) (hc:Z9 c) (hp:c.sc<18446744073709551616) (o:Sat R (Zk p b::Hs) w):
  Zg prog 49 #[nP p,cmA c sg sp] w λ v w'=>∃ sl V:Sl,v=.agg (rpV (YU b c).2 sl V).toArray/\Sat R (Own sl 3 (Zd (YU b c).2.left)::Own V 9 ((YU b c).2.labs.map Value.string)::Zk p (YU b c).1::Hs) w':=by
 apply ZvX
 suffices H:∀ K:Value->xE,Zdz R Hs p (YU b c) K->B49 (some ⟨p,0,none⟩) c.kind c.pnr c.flt c.cls c.many c.time c.sc c.lab c.rows sg sp K w from H _ (λ sl V w' h=>⟨sl,V,rfl,h⟩)
 intro K hK;have hm:=k.many;have hD:=k.next;have hC:=k.now;refine Za o λ b3 w o=>Za o λ b4 w o=>?_;obtain ⟨sf,sb,fs,Q,o⟩:=Sat.rbook.1 (show Sat R (Zk p b::rpZ b4::cmC b3 c sg sp::Hs) w from Sat.arr (show Sat R (rpZ b4::cmC b3 c sg sp::Zk p b::Hs) w from o))
 refine ⟨c.flt,oA o,?_⟩;refine (YE (n:=c.flt) k Q o).use ?_;clear o;rintro _ w ⟨⟨i,rfl,hi⟩,o⟩;refine ⟨i,rfl,?_⟩;refine (ZdV o).u λ w o=>?_;refine ⟨_,rfl,Br.d (λ h=>?_) (λ h=>?_)⟩
 ·have hb:b.at c.flt=none:=by
   rcases hi with I|⟨A,f,q,C,pl,rfl,_⟩
   ·exact I.2
   ·omega
  have F:YU b c=(b,Z4 2):=by unfold YU;rw [hb]
  rw [F] at hK;have o:Sat R (Zk p b::rpZ b4::cmC b3 c sg sp::Hs) w:=Sat.rbook.2 ⟨sf,sb,fs,Q,o⟩;exact Y8 (r:=Z4 2) (sl:=Ze) (sb:=Ze) o.swap λ w o=>hK.err (Sat.drop (o.swap))
 obtain ⟨A,f,q,C,pl,rfl,rfl,W⟩:=hi.resolve_left λ I=>by omega
 have G:YU b c=if (pl.r.lims.length:Int)<=c.cls then (b,Z4 1) else if b.full then (b,Z4 3)
  else if (WW pl.q (WK b c)).2≠0 then (b,Z4 (WW pl.q (WK b c)).2)
  else (ZH c.flt (XL b c),match (ZH c.flt (XL b c)).bk b.next with
   |none=>Z4 0
   |some x=>YW (ZH c.flt (XL b c)) x):=by unfold YU;rw [W];rfl
 obtain ⟨h0,h4⟩:=Yg W;have hg:=k.good pl h0;have h6:=k.qok pl h0;have hE:=h6.len;have o:=(RBM.iff rfl).1 o;obtain ⟨M,X⟩:=xx ((A++(f,q,pl)::C).map Y6);rw [<-X] at o;have h7:A.length<(A++(f,q,pl)::C).length:=by simp
 have h8:(A++(f,q,pl)::C)[A.length]=(f,q,pl):=by simp
 have err:∀ {e:Int} {w:World},Zdz R Hs p (b,Z4 e) K->Sat R (RBM p b.now b.next b.L sf sb M A C f q pl (rpZ b4::cmC b3 c sg sp::Hs)) w->
   ∃ Y:World,((Instr.storeAt 33 (xP ((some ⟨b4,0,none⟩))) (.agg #[nI e,xZ emS,nI 0,nI 0,nI 0,nI 0,nI 0,.slice none 0 0,.slice none 0 0])).run prog w=.ok () Y)/\
    ∃ u:Int,∃ h9:ByteArray,∃ ha:Int,∃ hd:Int,∃ hf:Int,∃ hj:Int,∃ hk:Int,∃ m:Sl,∃ t:Sl,(At (λ w'=>w'=Y) ⟨b4,0,none⟩ [nI u,xZ h9,nI ha,nI hd,nI hf,nI hj,nI hk,.slice m.a m.len m.cap,.slice t.a t.len t.cap])/\
    K (.agg #[nI u,xZ h9,nI ha,nI hd,nI hf,nI hj,nI hk,.slice m.a m.len m.cap,.slice t.a t.len t.cap]) Y:=λ {e w} hK o=>by
  have o:Sat R (rpZ b4::cmC b3 c sg sp::RBM p b.now b.next b.L sf sb M A C f q pl Hs) w:=Sat.arr o;exact Y8 (r:=Z4 e) (sl:=Ze) (sb:=Ze) o λ w o=>hK.err (RBM.book X.symm Q o.drop)
 obtain ⟨U,D,s',hq,R',e',hr,o,back,hs⟩:=Sat.rfO o;have hF:D.len=pl.r.lims.length:=by have:=hr.lims.len;rwa [qa] at this
 have close:∀ {w:World},Sat R' (pts f (ZD pl.r U D s')::X7 q pl.q::YJ (A++C)::pts p (Z1 b.now b.next sf sb)::Zn 2 sf plT M::Zn 6 sb rkT (b.L.map rkV)::rpZ b4::cmC b3 c sg sp::Hs) w->Sat R (RBM p b.now b.next b.L sf sb M A C f q pl (rpZ b4::cmC b3 c sg sp::Hs)) w:=λ o=>Sat.rf.2 ⟨U,D,s',hq,hs,back _ _ o⟩;refine Zi o λ w o=>?_;refine ⟨c.cls,oS,Zb.mk rfl ⟨sf,oS,?_⟩⟩;have J:Sat R' (pts f (ZD pl.r U D s')::X7 q pl.q::YJ (A++C)::pts p (Z1 b.now b.next sf sb)::Zn 2 sf plT ((A++(f,q,pl)::C).map Y6)::Zn 6 sb rkT (b.L.map rkV)::rpZ b4::cmC b3 c sg sp::Hs) w:=by rw [<-X];exact o
 have rd1:VG 2 sf ((A++(f,q,pl)::C).map Y6) (Sat R' (pts f (ZD pl.r U D s')::X7 q pl.q::YJ (A++C)::pts p (Z1 b.now b.next sf sb)::Zn 2 sf plT M::Zn 6 sb rkT (b.L.map rkV)::rpZ b4::cmC b3 c sg sp::Hs)):=by
  rw [X];exact Zn.readsM (n:=2) (s:=sf) (T:=plT) J (λ w h=>h)
 refine rd1.rngM (E:=A++(f,q,pl)::C) (g:=Y6) h7 λ a _ F=>?_;rw [h8] at F;refine ⟨some ⟨f,0,none⟩,F.zz (by exact ⟨rfl,trivial⟩),Zb.mk rfl ⟨D,oS,Br.d (λ h1=>?_) (λ h1=>?_)⟩⟩
 ·have F:YU b c=(b,Z4 1):=by rw [G,qf (by omega)]
  rw [F] at hK;exact err hK (close o)
 rw [qc (by omega)] at G;refine Br.d (λ I=>?_) (λ I=>?_)
 ·have I:b.full:=I
  have F:YU b c=(b,Z4 3):=by rw [G,qf I]
  rw [F] at hK;exact err hK (close o)
 have I:¬ b.full:=I;rw [qc I] at G;replace o:=close o;clear J rd1 F;have J:Sat R (RBM p b.now b.next b.L sf sb ((A++(f,q,pl)::C).map Y6) A C f q pl (rpZ b4::cmC b3 c sg sp::Hs)) w:=by rw [<-X];exact o
 have rd:VG 2 sf ((A++(f,q,pl)::C).map Y6) (Sat R [pts p (Z1 b.now b.next sf sb),Zn 2 sf plT M,cmC b3 c sg sp,VC.tru]):=by
  rw [X];exact Zn.readsT (n:=2) (s:=sf) (T:=plT) J inferInstance (λ w h=>h) inferInstance
 clear J;refine Zj (Sat R [pts p (Z1 b.now b.next sf sb),Zn 2 sf plT M,cmC b3 c sg sp,VC.tru]) o (λ w o=>XQ o) λ w o=>?_;refine Zb.mk rfl ⟨sf,oS,?_⟩;refine rd.rngM (E:=A++(f,q,pl)::C) (g:=Y6) h7 λ a _ F=>?_;rw [h8] at F;refine ⟨some ⟨q,0,none⟩,F.f 1 (by exact ⟨rfl,trivial⟩),Zb.mk rfl ⟨b.next,oS,c.cls,oS,c.many,oS,Zb.mk rfl ⟨b.now,oS,c.sc,oS,?_⟩⟩⟩;refine (ZkI (x:=WK b c) (by omega) o.swap).u λ w o=>?_;refine ⟨_,rfl,XQ o,Br.ne (λ P=>?_) (λ P=>?_)⟩
 ·rw [qf P] at G
  rw [G] at hK;rw [Zrj P] at o;exact err hK o.swap
 rw [qc (λ h=>h P)] at G;rw [Zpn P] at o;have j:=Zay k hc hp W (by omega) I P;obtain ⟨nb,N⟩:=xx (XL b c);obtain ⟨x,hx⟩:=xx (V7 b c);obtain ⟨pl',O⟩:=xx (Zo7 (WK b c) pl);have hl:(A++(f,q,pl')::C).map (λ e=>e.2.2)=nb.fl:=by rw [N,O];exact Zc3 k Q h4
 rw [<-N] at j G;have ht:pl'.n=c.flt:=by rw [O];exact h4
 have S:nb.L=b.L++[x]:=by rw [N,hx];rfl
 have o:Sat R (RBM p b.now b.next b.L sf sb M A C f q pl' (rpZ b4::cmC b3 c sg sp::Hs)) w:=by rw [O];exact o.swap
 refine Zj (Sat R [pts p (Z1 b.now b.next sf sb),cmC b3 c sg sp,VC.tru]) o (λ w o=>Sat.two o) λ w o=>?_;refine Zb.mk rfl ⟨sb,oS,Zb.mk rfl ⟨b.next,oS,c.flt,oS,c.cls,oS,c.many,oS,?_⟩⟩;have hG:sb.len=b.L.length:=by have:=Zn.len (o.take (Zn 6 sb rkT (b.L.map rkV)));rwa [qa] at this
 refine Za o λ hn w o=>⟨Sat.two o,?_⟩;have o:Sat R (rkC hn x::RBM p b.now b.next b.L sf sb M A C f q pl' (rpZ b4::cmC b3 c sg sp::Hs)) w:=by rw [hx];exact o
 have o:=o.m2.m2.m3.m5.m5.m5.m6;refine ZY (ys:=[rkV x]) ZwJ o (Gh ⟨_,underlying44⟩ (b:=hn) 1 o rfl rfl) (Wid.one rfl) (by rw [qT,qa];omega) (by rw [qT,qa];omega) λ s2 w o=>⟨Sat.two o,Zb.mk rfl ?_⟩;have o:=o.m1.m2;refine sRu o λ w o=>Zb.mk rfl ?_;have o:=o.re (pts p (Z1 b.now b.next sf s2));refine ⟨b.next,oA o,Zb.mk rfl ?_⟩;rw [Zc];refine sRu o λ w o=>?_;have o:=o.re (pts p (Z1 b.now (b.next + 1) sf s2));have e5:b.L.map rkV++[rkV x]=nb.L.map rkV:=by rw [S,qe];rfl
 rw [e5] at o;have hu:nb.now=b.now:=by rw [N];rfl
 have hv:nb.next=b.next + 1:=by rw [N];rfl
 rw [<-hu,<-hv] at o;have o:=o.m1.m2.m3.m3.m4.m6.m6;have o:=(RBM.iff (Ze8.trans X.symm)).2 o;refine (Ua j hl o).use ?_;clear o;rintro _ w ⟨rfl,hH,l,o⟩;rw [ht] at o l;obtain ⟨z,y,_⟩:=XC (n:=c.flt) j;obtain ⟨b2,hy⟩:=xx (ZH c.flt nb);rw [<-hy] at o l z y G;rw [<-y.now,<-y.next] at o;have hz:b2.L.length=b.L.length + 1:=by
  have:=qH List.length y.ids;rw [qa,qa,S,qb] at this;exact this
 have B:b.L.length<b2.L.length:=by omega
 have ho:b2.L[b.L.length].id=b.next:=by
  have h5:(b2.L.map Bk.id)[b.L.length]? =(nb.L.map Bk.id)[b.L.length]?:=by rw [y.ids]
  rw [List.getElem?_map,List.getElem?_map,List.getElem?_eq_getElem B,S,List.getElem?_append_right (by omega)] at h5;simp only [Nat.sub_self,vm,List.getElem?_cons_zero,qM] at h5;rw [h5,hx];rfl
 have hA:b2.bk b.next=some b2.L[b.L.length]:=(Zew z).2 ⟨qh B,ho⟩;rw [hA] at G;dsimp only at G;rw [G] at hK;have hI:=(RBO.lens o).2;refine ⟨rfl,Zb.mk rfl ⟨s2,oA o,?_⟩⟩;rw [Zc,show (s2.len:Int) - 1=((b.L.length:Nat):Int) by omega];refine (ZaQ B z l o).use ?_;clear o;rintro _ w ⟨sl,V,rfl,o⟩;obtain ⟨rp,hB⟩:=xx (YW b2 b2.L[b.L.length]);rw [<-hB] at o hK ⊢;refine ⟨_,_,_,_,_,_,_,sl,V,rfl,?_⟩;have o:=o.m8.m7.m8;refine Y8 (r:=rp) (sl:=sl) (sb:=V) o λ w o=>hK sl V w ?_;exact o.drop.drop.cons λ _ h=>h.cons λ _ h=>Sat.rbook.2 ⟨sf,s2,_,l,h⟩
def Zci {b:ZF} {k:Nat} {sf sb:Sl} {fs:List FE} {b4:Nat} {K:Int->ByteArray->Int->Int->Int->Int->Int->Sl->Sl->xE} (hk:k<b.L.length) (M:Core b) (t:fs.map (λ e=>e.2.2)=b.fl) (m:Sat R (RBO p b.now b.next b.L sf sb fs (rpZ b4::Hs)) w)
  (hK:∀ sl s w',Sat R (Own sl 3 (Zd (YW b b.L[k]).left)::Own s 9 ((YW b b.L[k]).labs.map Value.string)::Zk p b::Hs) w'->K (YW b b.L[k]).code (YW b b.L[k]).pnr (YW b b.L[k]).state (YW b b.L[k]).flt (YW b b.L[k]).cls (YW b b.L[k]).many (YW b b.L[k]).time sl s w'):
  nC 57 #[nP p,nI k] w λ G H=>
   ∃ x:Int,∃ i:ByteArray,∃ v:Int,∃ y:Int,∃ z:Int,∃ g:Int,∃ j:Int,∃ d:Sl,∃ o:Sl,(G=xR (.agg #[nI x,xZ i,nI v,nI y,nI z,nI g,nI j,.slice d.a d.len d.cap,.slice o.a o.len o.cap]))/\
   ∃ l:World,((Instr.storeAt 33 (xP ((some ⟨b4,0,none⟩))) (.agg #[nI x,xZ i,nI v,nI y,nI z,nI g,nI j,.slice d.a d.len d.cap,.slice o.a o.len o.cap])).run prog H=.ok () l)/\
   ∃ u:Int,∃ f:ByteArray,∃ c:Int,∃ A:Int,∃ D:Int,∃ E:Int,∃ F:Int,∃ n:Sl,∃ q:Sl,(At (λ w'=>w'=l) ⟨b4,0,none⟩ [nI u,xZ f,nI c,nI A,nI D,nI E,nI F,.slice n.a n.len n.cap,.slice q.a q.len q.cap])/\
   K u f c A D E F n q l:=by
 refine (ZaQ hk M t m).use ?_;clear m;rintro _ w ⟨sl,s,rfl,m⟩;obtain ⟨I,J⟩:=xx (YW b b.L[k]);rw [<-J] at m hK ⊢;refine ⟨_,_,_,_,_,_,_,sl,s,rfl,?_⟩;have m:=m.m6;exact Y8 (r:=I) (sl:=sl) (sb:=s) m λ w m=>hK sl s w (m.cons λ _ h=>h.cons λ _ h=>Sat.rbook.2 ⟨sf,sb,_,t,h⟩)
def ZdP {b:ZF} {c:Cm} {sg sp:Sl} (k:Core b) (hg:RoI R sg c.grps) (Y:c.grps.length<=100000) (hp:sp.len=c.parts.length) (y:Sat R (Zk p b::Hs) w):
  Zg prog 17 #[nP p,cmA c sg sp] w λ v w'=>∃ sl D:Sl,v=.agg (rpV (Xv b c) sl D).toArray/\Sat R (Own sl 3 (Zd (Xv b c).left)::Own D 9 ((Xv b c).labs.map Value.string)::Zk p b::Hs) w':=by
 apply Zwm
 suffices H:∀ K:Value->xE,Zdz R Hs p (b,Xv b c) K->B17 (some ⟨p,0,none⟩) c.kind c.pnr c.flt c.cls c.many c.time c.sc c.lab c.rows sg sp K w from H _ (λ sl D w' h=>⟨sl,D,rfl,h⟩)
 intro K hK;refine Za y λ b3 w y=>Za y λ b4 w y=>?_;have y:Sat R (rpZ b4::cmC b3 c sg sp::Zk p b::Hs) w:=y;refine ⟨c.kind,c.pnr,c.flt,c.cls,c.many,c.time,c.sc,c.lab,c.rows,sg,sp,oA y,?_⟩;refine (Ub hg Y hp y).u λ w y=>?_;have err:∀ {e:Int} {w:World},Xv b c=Z4 e->Sat R (rpZ b4::cmC b3 c sg sp::Zk p b::Hs) w->K (.agg (rpV (Z4 e) Ze Ze).toArray) w=K (.agg (rpV (Z4 e) Ze Ze).toArray) w:=λ _ _=>rfl;refine ⟨_,rfl,λ w=>(Z9 c/\c.kind=9)/\Sat R (rpZ b4::cmC b3 c sg sp::Zk p b::Hs) w,Br.nd (λ F=>?_) (λ F=>?_),?_⟩
 ·have m:Xv b c=Z4 1:=by unfold Xv;rw [qf (.inl F)]
  rw [m] at hK;exact Y8 (r:=Z4 1) (sl:=Ze) (sb:=Ze) y λ w y=>hK.err y.drop
 ·refine ⟨c.kind,oA y,Br.ne (λ S=>?_) (λ S=>⟨⟨F,S⟩,y⟩)⟩
  have m:Xv b c=Z4 1:=by unfold Xv;rw [qf (.inr S)]
  rw [m] at hK;exact Y8 (r:=Z4 1) (sl:=Ze) (sb:=Ze) y λ w y=>hK.err y.drop
 clear y err;rintro _ w ⟨F,y⟩;have J:¬ (¬ Z9 c\/c.kind≠9):=λ h=>h.elim (λ h=>h F.1) (λ h=>h F.2);refine ⟨c.pnr,oA y,Br.sne (λ hs=>?_) (λ hs=>?_)⟩
 ·have t:c.pnr≠emS:=hs
  have z:Xv b c=(match Xi b c.pnr with|(none,e)=>Z4 e|(some x,_)=>YW b x):=by
   unfold Xv;rw [qc J,qf t];obtain ⟨o,e⟩:=Xi b c.pnr;cases o<;>rfl
  refine ⟨c.pnr,oA y,?_⟩;obtain ⟨sf,sb,fs,l,y⟩:=Sat.rbook.1 (show Sat R (Zk p b::rpZ b4::cmC b3 c sg sp::Hs) w from y.arr)
  refine (Zcq (s:=c.pnr) k y).use ?_;clear y;rintro _ w ⟨⟨i,e,rfl,hi⟩,y⟩;refine ⟨i,e,rfl,Br.ne (λ h=>?_) (λ h=>?_)⟩
  ·obtain ⟨_,B⟩:=hi.resolve_right λ G=>h G.1
   rw [B] at z;dsimp only at z;rw [z] at hK;have y:Sat R (Zk p b::rpZ b4::cmC b3 c sg sp::Hs) w:=Sat.rbook.2 ⟨sf,sb,fs,l,y⟩;exact Y8 (r:=Z4 e) (sl:=Ze) (sb:=Ze) y.swap λ w y=>hK.err (y.cons λ _ h=>h.drop)
  ·obtain ⟨_,j,rfl,hj,B⟩:=hi.resolve_left λ G=>G.1 h
   rw [B] at z;dsimp only at z;rw [z] at hK;have y:Sat R (RBO p b.now b.next b.L sf sb fs (rpZ b4::cmC b3 c sg sp::Hs)) w:=y;exact Zci hj k l y λ sl D w y=>hK sl D w (y.cons λ _ h=>h.cons λ _ h=>h.cons λ _ h=>h.drop)
 ·have t:¬ c.pnr≠emS:=λ h=>h hs
  have z:Xv b c=(match b.at c.flt with|none=>Z4 2|some p=>⟨0,emS,0,c.flt,0,(p.q.length:Int),0,Zr p.r,[]⟩):=by
   unfold Xv;rw [qc J,qc t];cases b.at c.flt<;>rfl
  refine ⟨c.flt,oA y,?_⟩;obtain ⟨sf,sb,fs,l,y⟩:=Sat.rbook.1 (show Sat R (Zk p b::rpZ b4::cmC b3 c sg sp::Hs) w from y.arr)
  refine (YE (n:=c.flt) k l y).use ?_;clear y;rintro _ w ⟨⟨i,rfl,hi⟩,y⟩;refine ⟨i,rfl,Br.d (λ h=>?_) (λ h=>?_)⟩
  ·have hb:b.at c.flt=none:=by
    rcases hi with G|⟨A,f,q,C,pl,rfl,_⟩
    ·exact G.2
    ·omega
   rw [hb] at z;dsimp only at z;rw [z] at hK;have y:Sat R (Zk p b::rpZ b4::cmC b3 c sg sp::Hs) w:=Sat.rbook.2 ⟨sf,sb,fs,l,y⟩;exact Y8 (r:=Z4 2) (sl:=Ze) (sb:=Ze) y.swap λ w y=>hK.err (y.cons λ _ h=>h.drop)
  obtain ⟨A,f,q,C,pl,rfl,rfl,N⟩:=hi.resolve_left λ G=>by omega
  rw [N] at z;dsimp only at z;rw [z] at hK;have O:=Yg N;have P:=k.good pl O.1;have h0:=k.qok pl O.1;obtain ⟨M,X⟩:=xx ((A++(f,q,pl)::C).map Y6);have y:=(RBM.iff X.symm).1 y;have Q:A.length<(A++(f,q,pl)::C).length:=by simp
  have U:(A++(f,q,pl)::C)[A.length]=(f,q,pl):=by simp
  have y:Sat R (X7 q pl.q::WJ f pl.r::YJ (A++C)::pts p (Z1 b.now b.next sf sb)::Zn 2 sf plT M::Zn 6 sb rkT (b.L.map rkV)::rpZ b4::cmC b3 c sg sp::Hs) w:=y.swap;obtain ⟨I,y⟩:=Sat.rqu.1 y;have V:=Zn.len y.swap;rw [qa] at V;have y:=y.m2;have W:Sat R (WJ f pl.r::pts q (Xf I)::Zn 5 I waT (pl.q.map wtV)::YJ (A++C)::pts p (Z1 b.now b.next sf sb)::Zn 2 sf plT ((A++(f,q,pl)::C).map Y6)::Zn 6 sb rkT (b.L.map rkV)::rpZ b4::cmC b3 c sg sp::Hs) w:=by rw [<-X];exact y
  have rd:VG 2 sf ((A++(f,q,pl)::C).map Y6) (Sat R [pts p (Z1 b.now b.next sf sb),Zn 2 sf plT M,cmC b3 c sg sp,pts q (Xf I),VC.tru]):=by
   rw [X];exact Zn.readsT (n:=2) (s:=sf) (T:=plT) W inferInstance (λ w h=>h) inferInstance
  clear W;refine Zj (Sat R [pts p (Z1 b.now b.next sf sb),Zn 2 sf plT M,cmC b3 c sg sp,pts q (Xf I),VC.tru]) y (λ w y=>Zgr y) λ w y=>?_;refine ⟨c.flt,oS,Zb.mk rfl ⟨sf,oS,?_⟩⟩;refine rd.rngM (E:=A++(f,q,pl)::C) (g:=Y6) Q λ a _ m=>?_;rw [U] at m;refine ⟨some ⟨f,0,none⟩,m.zz (by exact ⟨rfl,trivial⟩),Zb.mk rfl ⟨sf,oS,?_⟩⟩;refine rd.rngM (E:=A++(f,q,pl)::C) (g:=Y6) Q λ a _ m=>?_;rw [U] at m;refine ⟨some ⟨q,0,none⟩,m.f 1 (by exact ⟨rfl,trivial⟩),Zb.mk rfl ⟨I,oS,?_⟩⟩;refine (VT P y).u1 λ sl w y=>?_;refine ⟨sl,rfl,Zgr y,?_⟩;rw [V];have y:=y.m7.m7.m7.m7.m5.m7.m7.m9.m8.m9;refine Y8 (r:=⟨0,emS,0,c.flt,0,(pl.q.length:Int),0,Zr pl.r,[]⟩) (sl:=sl) (sb:=Ze) y λ w y=>hK sl Ze w (y.cons λ _ h=>Own.nil ?_);have h:=Sat.rqu.2 ⟨I,h.drop⟩;exact RBM.book X.symm l h.swap
def ZnC {α:Type} {k:α->Int} {x:α}:∀ {A C:List α},(∀ y∈A,k y<k x)->(∀ y∈C.head?,¬ k y<k x)->ZiA k x (A++C)=A++x::C
 |[],[],_,_=>rfl
 |[],c::C,_,h=>by
  rw [jr,VU,qc (h c (by simp))];rfl
 |a::A,C,d,o=>by
  rw [qU,VU,qf (d a (by simp)),ZnC (λ y i=>d y (by simp [i])) o];rfl
def Zjt (l:List FE):ZN (l.map Y6).flatten=true:=by
 unfold ZN;rw [qW];intro v a;obtain ⟨r,d,h⟩:=jZ.1 a;obtain ⟨x,_,rfl⟩:=qm.1 d;simp only [Y6,qk,qO,jP] at h;rcases h with rfl|rfl<;>rfl
def ZkM {b:ZF} {c:Cm} {sg sp:Sl} (k:Core b) (hg:RoI R sg c.grps) (hp:SlR R.m sp (GM c.parts)) (o:Sat R (Zk p b::Hs) w):
  Zg prog 47 #[nP p,cmA c sg sp] w λ v w'=>∃ sl W:Sl,v=.agg (rpV (Wi b c).2 sl W).toArray/\Sat R (Own sl 3 (Zd (Wi b c).2.left)::Own W 9 ((Wi b c).2.labs.map Value.string)::Zk p (Wi b c).1::Hs) w':=by
 apply ZvZ
 suffices H:∀ K:Value->xE,Zdz R Hs p (Wi b c) K->B47 (some ⟨p,0,none⟩) c.kind c.pnr c.flt c.cls c.many c.time c.sc c.lab c.rows sg sp K w from H _ (λ sl W w' h=>⟨sl,W,rfl,h⟩)
 intro K hK;have h5:=k.few;refine Za o λ b3 w o=>Za o λ b4 w o=>?_;obtain ⟨sf,sb,fs,D,o⟩:=Sat.rbook.1 (show Sat R (Zk p b::rpZ b4::cmC b3 c sg sp::Hs) w from Sat.arr (show Sat R (rpZ b4::cmC b3 c sg sp::Zk p b::Hs) w from o))
 have h6:fs.length=b.fl.length:=by rw [<-D,qa]
 have h7:=(RBO.lens o).1;refine ⟨c.flt,oA o,?_⟩;refine (YE (n:=c.flt) k D o).use ?_;clear o;rintro _ w ⟨⟨i,rfl,hi⟩,o⟩;have err:∀ {e:Int} {w:World},Sat R (RBO p b.now b.next b.L sf sb fs (rpZ b4::cmC b3 c sg sp::Hs)) w->Sat R (rpZ b4::cmC b3 c sg sp::Zk p b::Hs) w:=λ {e w} o=>by
  have o:Sat R (Zk p b::rpZ b4::cmC b3 c sg sp::Hs) w:=Sat.rbook.2 ⟨sf,sb,fs,D,o⟩;exact o.arr
 refine ⟨i,rfl,Br.d (λ h=>?_) (λ h=>?_)⟩
 ·have Y:(b.at c.flt).isSome:=by
   rcases hi with N|⟨A,f,q,C,pl,rfl,_,h3⟩
   ·omega
   ·rw [h3];rfl
  have M:Wi b c=(b,Z4 7):=by unfold Wi;rw [qf Y]
  rw [M] at hK;exact Y8 (r:=Z4 7) (sl:=Ze) (sb:=Ze) (err (e:=0) o) λ w o=>hK.err o.drop
 have Y:b.at c.flt=none:=by
  rcases hi with N|⟨A,f,q,C,pl,rfl,_,h3⟩
  ·exact N.2
  ·omega
 have I:Wi b c=if 8<=b.fl.length then (b,Z4 3)
  else if ¬ Zae c.flt c.rows c.grps c.parts then (b,Z4 1)
  else ({ b with fl:=ZiA Pl.n ⟨GB c.flt c.rows c.grps (ZB (YN c.rows c.grps) c.parts).1,[]⟩ b.fl },
   ⟨0,emS,0,c.flt,0,0,0,Zr (GB c.flt c.rows c.grps (ZB (YN c.rows c.grps) c.parts).1),[]⟩):=by
  unfold Wi;rw [qc (by rw [Y];simp)]
 refine Zb.mk rfl ⟨sf,oA o,Br.d (λ h8=>?_) (λ h8=>?_)⟩
 ·rw [qf (by omega)] at I
  rw [I] at hK;exact Y8 (r:=Z4 3) (sl:=Ze) (sb:=Ze) (err (e:=0) o) λ w o=>hK.err o.drop
 rw [qc (by omega)] at I;refine ⟨c.flt,oA o,c.rows,sg,oA o,sp,oA o,?_⟩;refine (ZkO (num:=c.flt) (rows:=c.rows) hg hp o).use ?_;clear o;rintro _ w (⟨S,rfl,o⟩|⟨Q,f,rfl,o⟩)
 ·rw [qf S] at I
  rw [I] at hK;exact ⟨none,1,rfl,Br.t (by decide) (Y8 (r:=Z4 1) (sl:=Ze) (sb:=Ze) (err (e:=0) o) λ w o=>hK.err o.drop)⟩
 rw [qc (not_not_intro Q)] at I;obtain ⟨r,B⟩:=xx (GB c.flt c.rows c.grps (ZB (YN c.rows c.grps) c.parts).1);have P:Y5 r:=by rw [B];exact ZbT Q
 have U:r.num=c.flt:=by rw [B];rfl
 rw [<-B] at I o;rw [I] at hK;have o:=o.b4;refine ⟨_,_,rfl,Br.f (by decide) ⟨λ i w=>∃ j:Nat,i=j/\j<=fs.length/\(∀ e∈fs.take j,e.2.2.n<c.flt)/\(∀ e∈(fs.drop j).head?,¬ e.2.2.n<c.flt)/\Sat R (RBO p b.now b.next b.L sf sb fs (WJ f r::rpZ b4::cmC b3 c sg sp::Hs)) w,
  ⟨λ i w=>∃ j:Nat,i=j/\j<=fs.length/\(∀ e∈fs.take j,e.2.2.n<c.flt)/\Sat R (RBO p b.now b.next b.L sf sb fs (WJ f r::rpZ b4::cmC b3 c sg sp::Hs)) w,λ i _=>fs.length - i.toNat,⟨0,rfl,by omega,by simp,o⟩,?_⟩,?_⟩⟩
 ·clear o
  rintro _ _ w ⟨j,rfl,hj,z,o⟩;refine Zi o λ w o=>Zb.mk rfl ⟨sf,oS,Br.d (λ h1=>?_) (λ h1=>?_)⟩
  ·have F:j<fs.length:=by omega
   refine Zb.mk rfl ⟨sf,oS,?_⟩;refine (Zn.readsM (n:=2) (s:=sf) (T:=plT) (rows:=fs.map Y6) o (λ w h=>h)).rngM (E:=fs) (g:=Y6) F λ a _ M=>?_;refine ⟨some ⟨fs[j].1,0,none⟩,M.zz (by exact ⟨rfl,trivial⟩),Zb.mk rfl ⟨fs[j].2.2.n,Zu8 (λ w h=>h) F,c.flt,oS,Br.d (λ N=>?_) (λ N=>?_)⟩⟩
   ·rw [Zc]
    refine ⟨⟨j + 1,by omega,by omega,λ e hm=>?_,o⟩,by dsimp only;omega⟩;rw [qp,List.getElem?_eq_getElem F] at hm;rcases qt.1 hm with hm|hm
    ·exact z e hm
    ·rw [show e=fs[j] by simpa using hm];exact N
   ·refine ⟨j,rfl,hj,z,λ e hm=>?_,o⟩
    rw [qv F] at hm;rw [<-jp hm];exact N
  ·refine ⟨j,rfl,hj,z,λ e hm=>?_,o⟩
   rw [uW (by omega)] at hm;cases hm
 clear o;rintro _ _ w ⟨j,rfl,hj,z,h0,o⟩;have ha:(fs.map Y6).length=fs.length:=qa ..;have o:=o.m1;have h9:=Zn.cap (by omega) o;obtain ⟨R',G,⟨xh,hx⟩,o,back⟩:=Zn.lend o;refine Za o λ h4 w o=>Zb.mk rfl ⟨sf,oA o,by omega,by omega,?_⟩;refine Xd (b:=h4) (ys:=(fs.map Y6).take j) Zya o (Vv ⟨_,underlying43⟩ o (G.take (h:=j) (by omega) sf.cap) (by rw [<-jk];exact Zjt _)) G.wid.take (by rw [qd];omega) (by rw [qd];omega) λ s1 w o=>?_;refine Za o λ u w o=>Za o λ x w o=>?_;have o:Sat R' (Zn 2 s1 plT ((fs.map Y6).take j)::pts x (.cells (Y6 (f,u,(⟨r,[]⟩:Pl))).toArray plT (0,0))::pts u (Xf Ze)::pts p (Z1 b.now b.next sf sb)::Zn 6 sb rkT (b.L.map rkV)::YJ fs::WJ f r::rpZ b4::cmC b3 c sg sp::Hs) w:=(show Sat R' (pts x (.cells (Y6 (f,u,(⟨r,[]⟩:Pl))).toArray plT (0,0))::pts u (Xf Ze)::Zn 2 s1 plT ((fs.map Y6).take j)::pts p (Z1 b.now b.next sf sb)::Zn 6 sb rkT (b.L.map rkV)::YJ fs::WJ f r::rpZ b4::cmC b3 c sg sp::Hs) w from o).arr
 refine ZY (ys:=[Y6 (f,u,(⟨r,[]⟩:Pl))]) Zya o (Gh ⟨_,underlying43⟩ (b:=x) 1 o rfl rfl) (Wid.one rfl) (by rw [qT,qd];omega) (by rw [qT,qd];omega) λ s2 w o=>Zb.mk rfl ⟨sf,oA o,by omega,by omega,?_⟩;have J:=G.sub (l:=j) (h:=sf.len) (m:=sf.cap) (by omega) (by omega) (by omega);rw [qg (show (fs.map Y6).length<=sf.len by omega)] at J;refine ZY (ys:=(fs.map Y6).drop j) Zya o (Vv ⟨_,underlying43⟩ o J (by rw [<-jo];exact Zjt _)) G.wid.drop (by simp only [qd,qx,qb,qT];omega) (by simp only [qd,qx,qb,qT];omega) λ O w o=>Zb.mk rfl ?_;have o:=back o;have e:(fs.map Y6).take j++[Y6 (f,u,(⟨r,[]⟩:Pl))]++(fs.map Y6).drop j=(fs.take j++(f,u,(⟨r,[]⟩:Pl))::fs.drop j).map Y6:=by
  rw [<-jk,<-jo,qe,qi,qn];rfl
 rw [e] at o;have V:(fs.take j++(f,u,(⟨r,[]⟩:Pl))::fs.drop j).map (λ e=>e.2.2)=ZiA Pl.n ⟨r,[]⟩ b.fl:=by
  have e2:b.fl=(fs.take j).map (λ e=>e.2.2)++(fs.drop j).map (λ e=>e.2.2):=by rw [<-D,<-qe,qD]
  rw [e2,ZnC,qe,qi]
  ·intro y X
   obtain ⟨e,M,rfl⟩:=qm.1 X;show e.2.2.n<r.num;rw [U];exact z e M
  ·intro y X
   rw [List.head?_map] at X;obtain ⟨e,M,rfl⟩:=uU.1 X;show ¬ e.2.2.n<r.num;rw [U];exact h0 e M
 have o:=o.m4;refine sRu o λ w o=>?_;have o:=o.re (pts p (Z1 b.now b.next O sb));have o:=o.m3.m2.m8.m6.m5.m5.m7.m7.m8.m9;refine Zj (Sat R [cmC b3 c sg sp,VC.tru]) o (λ w o=>o.restTru2) λ w o=>⟨c.flt,oS,?_⟩;refine (VT P o.swap).u1 λ sl w o=>?_;refine ⟨sl,rfl,(show Sat R (cmC b3 c sg sp::_) w from o.arr (Hs':=cmC b3 c sg sp::Own sl 3 (Zd (Zr r))::WJ f r::pts u (Xf Ze)::YJ fs::pts p (Z1 b.now b.next O sb)::Zn 2 O plT ((fs.take j++(f,u,(⟨r,[]⟩:Pl))::fs.drop j).map Y6)::Zn 6 sb rkT (b.L.map rkV)::rpZ b4::Zn 2 sf plT (fs.map Y6)::pts x (.cells (Y6 (f,u,(⟨r,[]⟩:Pl))).toArray plT (0,0))::Hs)).restTru2,?_⟩
 have o:=o.b2.b3.b7.m8;refine Y8 (r:=⟨0,emS,0,c.flt,0,0,0,Zr r,[]⟩) (sl:=sl) (sb:=Ze) o λ w o=>hK sl Ze w (o.cons λ _ h=>Own.nil ?_);have h:Sat _ (X7 u []::WJ f r::YJ fs::pts p (Z1 b.now b.next O sb)::Zn 2 O plT ((fs.take j++(f,u,(⟨r,[]⟩:Pl))::fs.drop j).map Y6)::Zn 6 sb rkT (b.L.map rkV)::cmC b3 c sg sp::Zn 2 sf plT (fs.map Y6)::pts x (.cells (Y6 (f,u,(⟨r,[]⟩:Pl))).toArray plT (0,0))::Hs) _:=Sat.rqu.2 ⟨Ze,h.cons λ _ h=>Zn.nil h⟩;have h:=h.swap;rw [show YJ fs=YJ (fs.take j++fs.drop j) by rw [qD]] at h;have h:=(US (p:=(⟨r,[]⟩:Pl))).2 h;refine Sat.rbook.2 ⟨O,sb,_,V,?_⟩;have h:=h.b3.m6.m6.m6;exact h.drop.drop.drop
def ZkV (p:Nat) (w:nW):Nat:=match w.heap[p]? with
 |some (.cells l _ _)=>(match l[3]? with|some (Value.slice _ n _)=>n|_=>0)
 |_=>0
def ZeW {now next:Int} {L:List Bk} {sf sb:Sl} {fs:List FE} {w:World} (h:Sat R (RBO p now next L sf sb fs Hs) w):ZkV p w=sb.len:=by
 unfold ZkV;rw [h.at];rfl
structure RExp (b:ZF) (t:Int) (j:Nat) (b':ZF):Prop where
 res:WO b t=VY (b'.L.drop j) b'
 core:Core b'
 now:b'.now=t
 le:j<=b'.L.length
structure Zwy (ns:List Int) (t:Int) (B:ZF) (j:Nat) (b':ZF):Prop where
 res:XU ns B=XU (ns.drop j) b'
 core:Core b'
 now:b'.now=t
 nums:b'.fl.map Pl.n=ns
def Zic {b:ZF} {c:Cm} {sg sp:Sl} (k:Core b) (hr:Z9 c) (o:Sat R (Zk p b::Hs) w):
  Zg prog 50 #[nP p,cmA c sg sp] w λ v w'=>∃ sl sx:Sl,v=.agg (rpV (YH b c).2 sl sx).toArray/\Sat R (Own sl 3 (Zd (YH b c).2.left)::Own sx 9 ((YH b c).2.labs.map Value.string)::Zk p (YH b c).1::Hs) w':=by
 apply ZvW
 suffices H:∀ K:Value->xE,Zdz R Hs p (YH b c) K->B50 (some ⟨p,0,none⟩) c.kind c.pnr c.flt c.cls c.many c.time c.sc c.lab c.rows sg sp K w from H _ (λ sl sx w' h=>⟨sl,sx,rfl,h⟩)
 intro K hK;have h2:=hr.time;refine Za o λ b3 w o=>Za o λ b4 w o=>?_;obtain ⟨sf,sb,fs,y,o⟩:=Sat.rbook.1 (show Sat R (Zk p b::rpZ b4::cmC b3 c sg sp::Hs) w from Sat.arr (show Sat R (rpZ b4::cmC b3 c sg sp::Zk p b::Hs) w from o))
 refine Zi o λ w o=>⟨c.time,oS,Zb.mk rfl ⟨b.now,oS,Br.d (λ h=>?_) (λ h=>?_)⟩⟩
 ·have N:YH b c=(b,Z4 7):=by unfold YH;rw [qf h]
  rw [N] at hK;have o:Sat R (Zk p b::rpZ b4::cmC b3 c sg sp::Hs) w:=Sat.rbook.2 ⟨sf,sb,fs,y,o⟩;exact Y8 (r:=Z4 7) (sl:=Ze) (sb:=Ze) o.swap λ w o=>hK.err (o.cons λ _ h=>h.drop)
 have O:YH b c=(XU (b.fl.map Pl.n) (WO b c.time),⟨0,emS,0,0,0,0,c.time,[],[]⟩):=by unfold YH;rw [qc h]
 rw [O] at hK;refine ⟨c.time,oA o,Zb.mk rfl ?_⟩;rw [Zs];refine sRu o λ w o=>?_;have o:=o.re (pts p (Z1 c.time b.next sf sb));have k1:=ZfH k h2;have o:Sat R (Zk p { b with now:=c.time }::rpZ b4::cmC b3 c sg sp::Hs) w:=Sat.rbook.2 ⟨sf,sb,fs,y,o⟩;refine ⟨λ t w=>∃ (j:Nat) (b':ZF),t=j/\RExp b c.time j b'/\Sat R (Zk p b'::rpZ b4::cmC b3 c sg sp::Hs) w,λ t w=>ZkV p w - t.toNat,⟨0,_,rfl,⟨rfl,k1,rfl,jB _⟩,o⟩,?_⟩;clear o;rintro _ _ w ⟨j,b',rfl,hi,o⟩;obtain ⟨sf,sb,fs,y,o⟩:=Sat.rbook.1 o;have h3:=RBO.lens o;have hm:=hi.core.many;have G:ZkV p w=sb.len:=ZeW o;refine Zb.mk rfl ⟨sb,oA o,Br.d (λ hb=>?_) (λ Q=>?_)⟩
 ·have m:j<b'.L.length:=by omega
  obtain ⟨x,hx⟩:=xx (b'.L[j]);have h4:x∈b'.L:=by rw [hx];exact qh m
  have D:b'.L.drop j=x::b'.L.drop (j + 1):=by rw [hx];exact qv m
  obtain ⟨pl,U⟩:=hi.core.at_of h4;obtain ⟨hc,hd⟩:=Yg U;refine Zb.mk rfl ⟨sb,oA o,?_⟩;refine (Zn.readsM (n:=6) (s:=sb) (T:=rkT) (rows:=b'.L.map rkV) o (eqS o)).rngM (E:=b'.L) (g:=rkV) m λ a _ N=>?_;rw [<-hx] at N;refine ⟨x.id,x.flt,x.cls,x.many,x.state,x.till,N.z (by exact ⟨rfl,rfl,rfl,rfl,rfl,rfl,trivial⟩),?_⟩;refine Za o λ b6 w o=>?_;refine sRu o λ w o=>?_;have o:=o.re (rkC b6 x);have o:Sat R (RBO p b'.now b'.next b'.L sf sb fs (rkC b6 x::rpZ b4::cmC b3 c sg sp::Hs)) w:=(show Sat R (rkC b6 x::RBO p b'.now b'.next b'.L sf sb fs (rpZ b4::cmC b3 c sg sp::Hs)) w from o).arr
  refine ⟨λ t w=>t=old b'.now x/\Sat R (RBO p b'.now b'.next b'.L sf sb fs (rkC b6 x::rpZ b4::cmC b3 c sg sp::Hs)) w,?_,?_⟩
  ·refine Zi o λ w o=>⟨x.state,oS,Br.e (λ h1=>?_) (λ h1=>?_)⟩
   ·refine ⟨x.till,oS,Zb.mk rfl ⟨b'.now,oS,?_,o⟩⟩
    unfold old;rw [qE h1,vB]
   ·refine ⟨?_,o⟩
    unfold old;rw [qz h1,Bool.false_and]
  clear o;rintro _ _ w ⟨rfl,o⟩;have F:WO b c.time=VY (b'.L.drop (j + 1)) (if old b'.now x then Uh b' x else b'):=by
   rw [hi.res,D];rfl
  have V:ZkV p w=sb.len:=ZeW o;refine Br.mk (λ hold=>?_) (λ hold=>?_)
  ·rw [qf hold] at F
   have hs:x.state=1:=by
    unfold old at hold;simp only [ql,qV] at hold;exact hold.1
   have hp:sf.len=fs.length:=h3.1;refine Zj (Sat R [pts p (Z1 b'.now b'.next sf sb),Zn 2 sf plT (fs.map Y6),rkC b6 x,VC.tru]) o (λ w o=>XQ o) λ w o=>?_;have rd:VG 2 sf (fs.map Y6) (Sat R [pts p (Z1 b'.now b'.next sf sb),Zn 2 sf plT (fs.map Y6),rkC b6 x,VC.tru]):=Zn.readsT (n:=2) (s:=sf) (T:=plT) o inferInstance (λ w h=>h) inferInstance;refine Zb.mk rfl ⟨sf,oS,x.flt,oS,x.id,oS,?_⟩;refine (YE (n:=x.flt) hi.core y o).use ?_;clear o;rintro _ w ⟨⟨i,rfl,l⟩,o⟩;obtain ⟨A,f,q,C,hf,rfl,W,h5⟩:=l.resolve_left λ h=>by rw [U] at h;cases h.2
   obtain rfl:pl=hf:=by rw [U] at h5;exact jp h5
   have hh:A.length<fs.length:=by rw [W];simp
   have Q:fs[A.length]=(f,q,pl):=by simp [W]
   refine ⟨_,rfl,XQ o,?_⟩;refine rd.rngM (E:=fs) (g:=Y6) hh λ a _ N=>?_;rw [Q] at N;refine ⟨some ⟨f,0,none⟩,N.zz (by exact ⟨rfl,trivial⟩),?_⟩;clear rd N;subst W;obtain ⟨M,hM⟩:=xx ((A++(f,q,pl)::C).map Y6);have o:=(RBM.iff hM.symm).1 o;rw [<-hM];have hg:=hi.core.good pl hc;refine (Zcs (owner:=x.id) (by have:=hg.len.1;omega) o).u λ w o=>?_;refine ⟨_,rfl,XQ o,?_⟩;have hk:(A++(f,q,Zar x.id pl)::C).map Y6=M:=by rw [hM];exact Ze8
   have o:=(RBM.iff (pl:=Zar x.id pl) hk).2 o;have h6:(A++(f,q,Zar x.id pl)::C).map (λ e=>e.2.2)=(Uh b' x).fl:=Zc3 hi.core y hd;have X:=ZaA hi.core h4 (by omega);have Y:b'.L.take j++b'.L.drop (j + 1)=(Uh b' x).L:=by
    show _=Zfi Bk.id x.id b'.L;rw [hx,ZnH hi.core.ids m]
   refine (ZgA (by omega) m o).use ?_;clear o;rintro _ w ⟨rfl,S,o⟩;rw [Y] at o;have hq:=RBO.lens o;have B:ZkV p w=S.len:=ZeW o;have ht:(Uh b' x).L.length=b'.L.length - 1:=by
    rw [<-Y,qb,qd,qx];omega
   refine ⟨rfl,⟨j,Uh b' x,rfl,⟨?_,X,hi.now,by omega⟩,Sat.rbook.2 ⟨sf,S,_,h6,?_⟩⟩,?_⟩
   ·rw [F,<-Y,uj (by rw [qd];omega)]
   ·exact (show Sat R (rkC b6 x::RBO p b'.now b'.next (Uh b' x).L sf S (A++(f,q,Zar x.id pl)::C) (rpZ b4::cmC b3 c sg sp::Hs)) w from o.arr).drop
   ·dsimp only;rw [B,G];omega
  ·rw [qc (by rw [hold];simp)] at F
   rw [Zc];refine ⟨⟨j + 1,b',by omega,⟨F,hi.core,hi.now,m⟩,Sat.rbook.2 ⟨sf,sb,fs,y,?_⟩⟩,by dsimp only;rw [V,G];omega⟩;exact (show Sat R (rkC b6 x::RBO p b'.now b'.next b'.L sf sb fs (rpZ b4::cmC b3 c sg sp::Hs)) w from o.arr).drop
 ·have hl:WO b c.time=b':=by rw [hi.res,uW (by omega)];rfl
  have I:=(Zb5 k h2).2.2.2.2;rw [hl] at I hK;rw [<-I] at hK;obtain ⟨ns,P⟩:=xx (b'.fl.map Pl.n);rw [<-P] at hK;have hu:ns.length<=8:=by rw [P,qa];exact hi.core.few
  have o:Sat R (Zk p b'::rpZ b4::cmC b3 c sg sp::Hs) w:=Sat.rbook.2 ⟨sf,sb,fs,y,o⟩;refine ⟨λ t w=>∃ (j:Nat) (b2:ZF),t=j/\j<=ns.length/\Zwy ns c.time b' j b2/\Sat R (Zk p b2::rpZ b4::cmC b3 c sg sp::Hs) w,λ t _=>ns.length - t.toNat,⟨0,b',rfl,jB _,⟨rfl,hi.core,hi.now,P.symm⟩,o⟩,?_⟩;clear o;rintro _ _ w ⟨j,b2,rfl,hj,l,o⟩;obtain ⟨sf,sb,fs,y,o⟩:=Sat.rbook.1 o;have h3:=(RBO.lens o).1;have hv:fs.length=ns.length:=by rw [<-l.nums,<-y,qa,qa]
  refine Zb.mk rfl ⟨sf,oA o,Br.d (λ hb=>?_) (λ Q=>?_)⟩
  ·have m:j<fs.length:=by omega
   obtain ⟨f,q,pl,N,h7⟩:=Zfy m;have h8:(fs.take j).length=j:=by rw [qd];omega
   obtain ⟨A,hA⟩:=xx (fs.take j);obtain ⟨C,hC⟩:=xx (fs.drop (j + 1));rw [<-hA] at h8;rw [<-hA,<-hC] at h7;have hn:ns[j]'(by omega)=pl.n:=by
    have h1:ns[j]? =some pl.n:=by
     rw [<-l.nums,<-y,qZ,List.getElem?_map,List.getElem?_eq_getElem m,N];rfl
    rw [List.getElem?_eq_getElem (by omega)] at h1;exact jp h1
   have D:ns.drop j=pl.n::ns.drop (j + 1):=by rw [<-hn];exact qv (by omega)
   rw [h7] at y o;rw [Zc];have h0:=Ua l.core y o;rw [h8] at h0;refine h0.use ?_;clear o h0;rintro _ w ⟨rfl,pl',h9,o⟩;have J:=XC (n:=pl.n) l.core;refine ⟨rfl,⟨j + 1,ZH pl.n b2,by omega,by omega,⟨?_,J.1,J.2.1.now.trans l.now,J.2.1.keys.trans l.nums⟩,Sat.rbook.2 ⟨sf,sb,_,h9,?_⟩⟩,by dsimp only;omega⟩
   ·rw [l.res,D]
    rfl
   ·rw [J.2.1.now,J.2.1.next]
    exact o
  ·have ho:j=ns.length:=by omega
   subst ho;have ha:XU ns b'=b2:=by rw [l.res,uS];rfl
   rw [ha] at hK;refine Zb.mk rfl ⟨b2.now,oA o,?_⟩;rw [l.now];have hy:=l.now;have o:Sat R (Zk p b2::rpZ b4::cmC b3 c sg sp::Hs) w:=Sat.rbook.2 ⟨sf,sb,fs,y,o⟩;exact Y8 (r:=⟨0,emS,0,0,0,0,c.time,[],[]⟩) (sl:=Ze) (sb:=Ze) o.swap λ w o=>hK Ze Ze w (Own.nil (Own.nil (o.cons λ _ h=>h.drop)))
def Zl4 {b:ZF} {x:Bk} {pl:Pl} (h:b.at x.flt=some pl):YW b x=Xp pl x:=by
 unfold YW;rw [h]
def ZmA {b:ZF} {c:Cm} {i:Nat} {sg sp:Sl} (k:Core b) (hi:i<b.L.length) (d:Sat R (Zk p b::Hs) w):
  Zg prog 52 #[nP p,nI i,cmA c sg sp] w λ v w'=>∃ sl sx:Sl,v=.agg (rpV (Gm b b.L[i] c).2 sl sx).toArray/\Sat R (Own sl 3 (Zd (Gm b b.L[i] c).2.left)::Own sx 9 ((Gm b b.L[i] c).2.labs.map Value.string)::Zk p (Gm b b.L[i] c).1::Hs) w':=by
 obtain ⟨x,hx⟩:=xx (b.L[i]);have hv:x∈b.L:=by rw [hx];exact qh hi
 obtain ⟨pl,N⟩:=k.at_of hv;obtain ⟨hB,O⟩:=Yg N;have hg:=k.good pl hB;have hC:=k.qok pl hB;have hm:=k.many;have g2:=hg.len.1;rw [<-hx];have o:Gm b x c=if c.kind=3 then (if x.state≠1 then (b,Z4 7) else ({ b with L:=V5 Bk.id x.id X6 b.L },Xp pl (X6 x)))
  else if c.kind=4 then (ZH x.flt (ZbU b x),⟨0,c.pnr,0,0,0,0,0,[],[]⟩)
  else if x.state=3 then (b,Z4 7)
  else if c.kind=5 then
   (if (ZR pl.r x.id c.lab).2≠0 then (b,Z4 (ZR pl.r x.id c.lab).2)
    else (b.put x.flt (Xe (ZR pl.r x.id c.lab).1) b.L,Xp (Xe (ZR pl.r x.id c.lab).1 pl) x))
  else (if (ZQ pl.r x.id).2.2≠0 then (b,Z4 (ZQ pl.r x.id).2.2)
    else (b.put x.flt (Xe (ZQ pl.r x.id).1) b.L,Xp (Xe (ZQ pl.r x.id).1 pl) x)):=by
  unfold Gm;rw [N]
 apply ZvU
 suffices H:∀ K:Value->xE,Zdz R Hs p (Gm b x c) K->B52 (some ⟨p,0,none⟩) i c.kind c.pnr c.flt c.cls c.many c.time c.sc c.lab c.rows sg sp K w from H _ (λ sl sx w' h=>⟨sl,sx,rfl,h⟩)
 intro K hK;refine Za d λ b5 w d=>Za d λ b6 w d=>?_;obtain ⟨sf,sb,fs,Q,d⟩:=Sat.rbook.1 (show Sat R (Zk p b::rpZ b6::cmC b5 c sg sp::Hs) w from Sat.arr (show Sat R (rpZ b6::cmC b5 c sg sp::Zk p b::Hs) w from d))
 refine Zb.mk rfl ⟨sb,oA d,?_⟩;refine (Zn.readsM (n:=6) (s:=sb) (T:=rkT) (rows:=b.L.map rkV) d (eqS d)).rngM (E:=b.L) (g:=rkV) hi λ a _ he=>?_;rw [<-hx] at he;refine ⟨x.id,x.flt,x.cls,x.many,x.state,x.till,he.z (by exact ⟨rfl,rfl,rfl,rfl,rfl,rfl,trivial⟩),?_⟩;clear he;refine Za d λ b7 w d=>?_;refine sRu d λ w d=>?_;have d:=d.re (rkC b7 x);have d:Sat R (RBO p b.now b.next b.L sf sb fs (rkC b7 x::rpZ b6::cmC b5 c sg sp::Hs)) w:=(show Sat R (rkC b7 x::RBO p b.now b.next b.L sf sb fs (rpZ b6::cmC b5 c sg sp::Hs)) w from d).arr
 refine ⟨x.flt,oA d,?_⟩;refine (YE (n:=x.flt) k Q d).use ?_;clear d;rintro _ w ⟨⟨i2,rfl,hO⟩,d⟩;obtain ⟨A,f,q,C,hP,rfl,rfl,hD⟩:=hO.resolve_left λ h=>by rw [N] at h;cases h.2
 obtain rfl:pl=hP:=by rw [N] at hD;exact jp hD
 have hQ:A.length<(A++(f,q,pl)::C).length:=by simp
 have hR:(A++(f,q,pl)::C)[A.length]=(f,q,pl):=by simp
 refine ⟨_,rfl,Zb.mk rfl ⟨sf,oA d,?_⟩⟩;refine (Zn.readsM (n:=2) (s:=sf) (T:=plT) (rows:=(A++(f,q,pl)::C).map Y6) d (eqS d)).rngM (E:=A++(f,q,pl)::C) (g:=Y6) hQ λ a _ he=>?_;rw [hR] at he;refine ⟨some ⟨f,0,none⟩,some ⟨q,0,none⟩,he.z (by exact ⟨rfl,rfl,trivial⟩),?_⟩;clear he;refine Za d λ b9 w d=>?_;refine sRu d λ w d=>?_;have d:=d.re (ZaR b9 f q);have d:Sat R (RBO p b.now b.next b.L sf sb (A++(f,q,pl)::C) (ZaR b9 f q::rkC b7 x::rpZ b6::cmC b5 c sg sp::Hs)) w:=(show Sat R (ZaR b9 f q::RBO p b.now b.next b.L sf sb (A++(f,q,pl)::C) (rkC b7 x::rpZ b6::cmC b5 c sg sp::Hs)) w from d).arr
 have err:∀ {e:Int} {w:World},Gm b x c=(b,Z4 e)->Sat R (RBO p b.now b.next b.L sf sb (A++(f,q,pl)::C) (ZaR b9 f q::rkC b7 x::rpZ b6::cmC b5 c sg sp::Hs)) w->
   ∃ hy:World,((Instr.storeAt 33 (xP ((some ⟨b6,0,none⟩))) (.agg #[nI e,xZ emS,nI 0,nI 0,nI 0,nI 0,nI 0,.slice none 0 0,.slice none 0 0])).run prog w=.ok () hy)/\
    ∃ u:Int,∃ U:ByteArray,∃ V:Int,∃ W:Int,∃ X:Int,∃ Y:Int,∃ S:Int,∃ j:Sl,∃ l:Sl,(At (λ w'=>w'=hy) ⟨b6,0,none⟩ [nI u,xZ U,nI V,nI W,nI X,nI Y,nI S,.slice j.a j.len j.cap,.slice l.a l.len l.cap])/\
    K (.agg #[nI u,xZ U,nI V,nI W,nI X,nI Y,nI S,.slice j.a j.len j.cap,.slice l.a l.len l.cap]) hy:=λ {e w} h d=>by
  rw [h] at hK;have d:Sat R (Zk p b::ZaR b9 f q::rkC b7 x::rpZ b6::cmC b5 c sg sp::Hs) w:=Sat.rbook.2 ⟨sf,sb,_,Q,d⟩;have d:=d.b4.m2;exact Y8 (r:=Z4 e) (sl:=Ze) (sb:=Ze) d λ w d=>hK.err d.drop.drop.drop
 obtain ⟨M,hM⟩:=xx ((A++(f,q,pl)::C).map Y6);have hE:∀ pl',(A++(f,q,pl')::C).map Y6=M:=λ pl'=>by rw [hM];exact Ze8
 refine ⟨c.kind,oA d,Br.e (λ h3=>?_) (λ h3=>?_)⟩
 ·rw [qf h3] at o
  refine ⟨x.state,oA d,Br.ne (λ h1=>?_) (λ h1=>?_)⟩
  ·rw [qf h1] at o
   exact err o d
  rw [qc (λ h=>h h1)] at o;rw [o] at hK;refine Zb.mk rfl ⟨sb,oA d,?_⟩;refine (Zn.readsM (n:=6) (s:=sb) (T:=rkT) (rows:=b.L.map rkV) d (eqS d)).rngM (E:=b.L) (g:=rkV) hi λ a ha _=>?_;refine Zn.storeM (n:=6) (s:=sb) (T:=rkT) (E:=b.L) (g:=rkV) 4 { x with state:=2 } d ha hi (by kernel_rfl) rfl (by simp [Value.cells]) (by rw [<-hx];rfl) λ w d=>?_;have g3:(b.L.set i { x with state:=2 }).length=b.L.length:=jd;refine Zb.mk rfl ⟨sb,oA d,?_⟩;refine (Zn.readsM (n:=6) (s:=sb) (T:=rkT) (rows:=(b.L.set i { x with state:=2 }).map rkV) d (eqS d)).rngM (E:=b.L.set i { x with state:=2 }) (g:=rkV) (by omega) λ a ha _=>?_;refine Zn.storeM (n:=6) (s:=sb) (T:=rkT) (E:=b.L.set i { x with state:=2 }) (g:=rkV) 5 (X6 x) d ha (by omega) (by kernel_rfl) rfl (by simp [Value.cells]) (by rw [zf];rfl) λ w d=>?_;have hF:(b.L.set i { x with state:=2 }).set i (X6 x)=V5 Bk.id x.id X6 b.L:=by
   rw [List.set_set,hx,ZoE k.ids hi]
  rw [hF] at d;have y:=Zdb k hv h1;obtain ⟨nb,m⟩:=xx ({ b with L:=V5 Bk.id x.id X6 b.L }:ZF);have hf:nb.L=b.L.set i (X6 x):=by rw [m];show V5 Bk.id x.id X6 b.L=_;rw [hx,ZoE k.ids hi]
  have hz:i<nb.L.length:=by rw [hf,jd];exact hi
  have hS:nb.L[i]=X6 x:=by simp only [hf,zf]
  have B:nb.at (X6 x).flt=some pl:=by rw [m];exact N
  have ht:YW nb nb.L[i]=Xp pl (X6 x):=by rw [hS];exact Zl4 B
  have d:Sat R (RBO p nb.now nb.next nb.L sf sb (A++(f,q,pl)::C) (rpZ b6::ZaR b9 f q::rkC b7 x::cmC b5 c sg sp::Hs)) w:=by
   rw [m];exact d.arr
  rw [<-m] at y hK;rw [<-ht] at hK;have F:(A++(f,q,pl)::C).map (λ e=>e.2.2)=nb.fl:=by rw [m];exact Q
  exact Zci hz y F d λ sl sx w d=>hK sl sx w (d.cons λ _ h=>h.cons λ _ h=>h.cons λ _ h=>h.drop.drop.drop)
 rw [qc h3] at o;refine Br.e (λ h4=>?_) (λ h4=>?_)
 ·rw [qf h4] at o
  rw [o] at hK;have fin:∀ {pl':Pl} {nb:ZF} {w:World},pl'.n=x.flt->Core nb->(A++(f,q,pl')::C).map (λ e=>e.2.2)=nb.fl->nb.L=Zfi Bk.id x.id b.L->nb.now=b.now->nb.next=b.next->nb=ZbU b x->Sat R (RBM p b.now b.next b.L sf sb M A C f q pl' (ZaR b9 f q::rkC b7 x::rpZ b6::cmC b5 c sg sp::Hs)) w->
    nC 115 #[nP p,nI (i:Int)] w λ hT hG=>
    (hT=xR (.tuple #[]))/\
    nC 113 #[nP p,nI (A.length:Nat)] hG λ hU hh=>
    (hU=xR (.tuple #[]))/\
    ∃ hH:ByteArray,(At (λ w'=>w'=hh) ⟨b5,0 + 1,none⟩ [xZ hH])/\
    ∃ P:World,((Instr.storeAt 33 (xP ((some ⟨b6,0,none⟩))) (.agg #[nI 0,xZ hH,nI 0,nI 0,nI 0,nI 0,nI 0,.slice none 0 0,.slice none 0 0])).run prog hh=.ok () P)/\
    ∃ hj:Int,∃ hk:ByteArray,∃ hl:Int,∃ hn:Int,∃ hp:Int,∃ hq:Int,∃ hr:Int,∃ G:Sl,∃ I:Sl,(At (λ w'=>w'=P) ⟨b6,0,none⟩ [nI hj,xZ hk,nI hl,nI hn,nI hp,nI hq,nI hr,.slice G.a G.len G.cap,.slice I.a I.len I.cap])/\
    K (.agg #[nI hj,xZ hk,nI hl,nI hn,nI hp,nI hq,nI hr,.slice G.a G.len G.cap,.slice I.a I.len I.cap]) P:=λ {pl' nb w} hV y F hf hI hA m d=>by
   have d:=(RBM.iff (hE pl')).2 d;refine (ZgA (by omega) hi d).use ?_;clear d;rintro _ w ⟨rfl,hW,d⟩;have hX:b.L.take i++b.L.drop (i + 1)=nb.L:=by rw [hf,hx,ZnH k.ids hi]
   rw [hX,<-hI,<-hA] at d;refine ⟨rfl,?_⟩;refine (Ua y F d).use ?_;clear d;rintro _ w ⟨rfl,g4,hu,d⟩;rw [hV] at hu d;have hJ:=XC (n:=x.flt) y;rw [<-hJ.2.1.now,<-hJ.2.1.next] at d;have d:Sat R (Zk p (ZH x.flt nb)::ZaR b9 f q::rkC b7 x::rpZ b6::cmC b5 c sg sp::Hs) w:=Sat.rbook.2 ⟨sf,hW,_,hu,d⟩;rw [m] at d;refine ⟨rfl,c.pnr,oA d,?_⟩;have d:=d.b4.m2;exact Y8 (r:=⟨0,c.pnr,0,0,0,0,0,[],[]⟩) (sl:=Ze) (sb:=Ze) d λ w d=>hK Ze Ze w (Own.nil (Own.nil d.drop.drop.drop))
  have y:=Zdd k hv;refine ⟨x.state,oA d,Br.e (λ hs=>?_) (λ hs=>?_)⟩
  ·have J:ZbU b x=b.put x.flt (ZmP x.id) (Zfi Bk.id x.id b.L):=by unfold ZbU;rw [qf hs]
   refine ⟨some ⟨q,0,none⟩,oA d,x.id,oA d,?_⟩;have d:=(RBM.iff hM.symm).1 d;refine (G5 (id:=x.id) (by have:=hC.len;omega) d.swap).u λ w d=>?_;rw [Zjv] at d;refine ⟨_,rfl,fin (pl':=ZmP x.id pl) (nb:=ZbU b x) O y (by rw [J];exact Zc3 k Q O) (by rw [J];rfl) (by rw [J];rfl) (by rw [J];rfl) rfl d.swap⟩
  ·have J:ZbU b x=Uh b x:=by unfold ZbU;rw [qc hs]
   refine ⟨some ⟨f,0,none⟩,oA d,x.id,oA d,?_⟩;have d:=(RBM.iff hM.symm).1 d;refine (Zcs (owner:=x.id) (by omega) d).u λ w d=>?_;exact ⟨_,rfl,fin (pl':=Zar x.id pl) (nb:=ZbU b x) (Uf.1.trans O) y (by rw [J];exact Zc3 k Q O) (by rw [J];rfl) (by rw [J];rfl) (by rw [J];rfl) rfl d⟩
 rw [qc h4] at o;refine ⟨x.state,oA d,Br.e (λ hs=>?_) (λ hs=>?_)⟩
 ·rw [qf hs] at o
  exact err o d
 rw [qc hs] at o;have seat:∀ {r:RF} {w:World} (hd:HP),Y5 r->Vo pl.r r->Gm b x c=(b.put x.flt (Xe r) b.L,Xp (Xe r pl) x)->Sat R (RBM p b.now b.next b.L sf sb M A C f q (Xe r pl) (hd::ZaR b9 f q::rkC b7 x::rpZ b6::cmC b5 c sg sp::Hs)) w->
   nC 57 #[nP p,nI i] w λ hY hZ=>
    ∃ hL:Int,∃ h0:ByteArray,∃ h2:Int,∃ h7:Int,∃ h8:Int,∃ h9:Int,∃ hb:Int,∃ t:Sl,∃ D:Sl,(hY=xR (.agg #[nI hL,xZ h0,nI h2,nI h7,nI h8,nI h9,nI hb,.slice t.a t.len t.cap,.slice D.a D.len D.cap]))/\
    ∃ hc:World,((Instr.storeAt 33 (xP ((some ⟨b6,0,none⟩))) (.agg #[nI hL,xZ h0,nI h2,nI h7,nI h8,nI h9,nI hb,.slice t.a t.len t.cap,.slice D.a D.len D.cap])).run prog hZ=.ok () hc)/\
    ∃ u:Int,∃ U:ByteArray,∃ V:Int,∃ W:Int,∃ X:Int,∃ Y:Int,∃ S:Int,∃ j:Sl,∃ l:Sl,(At (λ w'=>w'=hc) ⟨b6,0,none⟩ [nI u,xZ U,nI V,nI W,nI X,nI Y,nI S,.slice j.a j.len j.cap,.slice l.a l.len l.cap])/\
    K (.agg #[nI u,xZ U,nI V,nI W,nI X,nI Y,nI S,.slice j.a j.len j.cap,.slice l.a l.len l.cap]) hc:=λ {r w} hd g0 hN ho d=>by
  rw [ho] at hK;have y:=Zhx k N g0 hN;obtain ⟨nb,m⟩:=xx (b.put x.flt (Xe r) b.L);have g1:(Xe r pl).n=x.flt:=hN.num.trans O;have F:(A++(f,q,Xe r pl)::C).map (λ e=>e.2.2)=nb.fl:=by rw [m];exact Zc3 k Q O
  rw [<-m] at y hK;have B:nb.at x.flt=some (Xe r pl):=(UL y).2 ⟨by rw [<-F];simp,g1⟩;have hz:i<nb.L.length:=by rw [m];exact hi
  have ht:YW nb nb.L[i]=Xp (Xe r pl) x:=by
   have e:nb.L[i]=x:=by simp only [m,hx];rfl
   rw [e];exact Zl4 B
  rw [<-ht] at hK;have d:=(RBM.iff (hE (Xe r pl))).2 d;have d:=d.m7.b4;have d:Sat R (RBO p nb.now nb.next nb.L sf sb (A++(f,q,Xe r pl)::C) (rpZ b6::hd::ZaR b9 f q::rkC b7 x::cmC b5 c sg sp::Hs)) w:=by
   rw [m];exact d
  exact Zci hz y F d λ sl sx w d=>hK sl sx w (d.cons λ _ h=>h.cons λ _ h=>h.cons λ _ h=>h.drop.drop.drop.drop)
 have d:=(RBM.iff hM.symm).1 d;refine ⟨c.kind,oA d,Br.e (λ h5=>?_) (λ h5=>?_)⟩
 ·rw [qf h5] at o
  refine ⟨some ⟨f,0,none⟩,oA d,x.id,oA d,c.lab,oA d,?_⟩;refine (Zh5 (owner:=x.id) (lab:=c.lab) (by omega) hg.hgrps hg.hseats d).u λ w d=>?_;refine ⟨_,rfl,Br.ne (λ h6=>?_) (λ h6=>?_)⟩
  ·rw [qf h6] at o
   rw [Zjp h6] at d;exact err o ((RBM.iff hM.symm).2 d)
  ·rw [qc (λ h=>h h6)] at o
   have d:Sat R (RBM p b.now b.next b.L sf sb M A C f q (Xe (ZR pl.r x.id c.lab).1 pl) (ZaR b9 f q::rkC b7 x::rpZ b6::cmC b5 c sg sp::Hs)) w:=d;exact seat VC.tru (ZcY hg _ _) (Zh1 hg h6) o ((Sat.tru d).arr)
 ·rw [qc h5] at o
  refine ⟨some ⟨f,0,none⟩,oA d,x.id,oA d,?_⟩;refine (Zid (owner:=x.id) (by omega) hg.hgrps hg.hseats d).u1 λ ta w d=>?_;refine ⟨ta,_,rfl,Br.ne (λ h6=>?_) (λ h6=>?_)⟩
  ·rw [qf h6] at o
   rw [ZoM h6] at d;exact err o ((RBM.iff hM.symm).2 d.drop)
  ·rw [qc (λ h=>h h6)] at o
   have d:Sat R (Own ta 9 ((ZQ pl.r x.id).2.1.map Value.string)::RBM p b.now b.next b.L sf sb M A C f q (Xe (ZQ pl.r x.id).1 pl) (ZaR b9 f q::rkC b7 x::rpZ b6::cmC b5 c sg sp::Hs)) w:=d;exact seat (Own ta 9 ((ZQ pl.r x.id).2.1.map Value.string)) (ZcZ hg _) (Zi4 h6) o d.arr
def ZkK {g:FuncId} {x:Array Value} {b4:Nat} {y:ZF × Rp} {K:Int->ByteArray->Int->Int->Int->Int->Int->Sl->Sl->xE}
  (h:Zg prog g x w λ v w'=>∃ sl q:Sl,v=.agg (rpV y.2 sl q).toArray/\Sat R (Own sl 3 (Zd y.2.left)::Own q 9 (y.2.labs.map Value.string)::Zk p y.1::rpZ b4::Hs) w')
  (hK:∀ sl q w',Sat R (Own sl 3 (Zd y.2.left)::Own q 9 (y.2.labs.map Value.string)::Zk p y.1::Hs) w'->K y.2.code y.2.pnr y.2.state y.2.flt y.2.cls y.2.many y.2.time sl q w'):
  Calls prog g x w λ G H=>
   ∃ e:Int,∃ i:ByteArray,∃ z:Int,∃ j:Int,∃ k:Int,∃ l:Int,∃ m:Int,∃ d:Sl,∃ o:Sl,(G=xR (.agg #[nI e,xZ i,nI z,nI j,nI k,nI l,nI m,.slice d.a d.len d.cap,.slice o.a o.len o.cap]))/\
   ∃ n:World,((Instr.storeAt 33 (xP ((some ⟨b4,0,none⟩))) (.agg #[nI e,xZ i,nI z,nI j,nI k,nI l,nI m,.slice d.a d.len d.cap,.slice o.a o.len o.cap])).run prog H=.ok () n)/\
   ∃ u:Int,∃ f:ByteArray,∃ b:Int,∃ c:Int,∃ A:Int,∃ D:Int,∃ E:Int,∃ s:Sl,∃ t:Sl,(At (λ w'=>w'=n) ⟨b4,0,none⟩ [nI u,xZ f,nI b,nI c,nI A,nI D,nI E,.slice s.a s.len s.cap,.slice t.a t.len t.cap])/\
   K u f b c A D E s t n:=by
 refine h.use ?_;rintro _ w ⟨sl,q,rfl,F⟩;refine ⟨_,_,_,_,_,_,_,sl,q,rfl,?_⟩;have F:=F.m3;exact Y8 (r:=y.2) (sl:=sl) (sb:=q) F λ w F=>hK sl q w F
def Zie {b:ZF} {c:Cm} {sg sp:Sl} (k:Core b) (E:c.sc<18446744073709551616) (F:RoI R sg c.grps) (f:c.grps.length<=100000) (M:SlR R.m sp (GM c.parts)) (a:Sat R (Zk p b::Hs) w):
  Zg prog 14 #[nP p,cmA c sg sp] w λ v w'=>∃ sl n:Sl,v=.agg (rpV (ZT b c).2 sl n).toArray/\Sat R (Own sl 3 (Zd (ZT b c).2.left)::Own n 9 ((ZT b c).2.labs.map Value.string)::Zk p (ZT b c).1::Hs) w':=by
 have g:sp.len=c.parts.length:=by have:=M.len;simpa using this
 apply Zwo
 suffices H:∀ K:Value->xE,Zdz R Hs p (ZT b c) K->B14 (some ⟨p,0,none⟩) c.kind c.pnr c.flt c.cls c.many c.time c.sc c.lab c.rows sg sp K w from H _ (λ sl n w' h=>⟨sl,n,rfl,h⟩)
 intro K hK;refine Za a λ b3 w a=>Za a λ b4 w a=>?_;have a:Sat R (rpZ b4::cmC b3 c sg sp::Zk p b::Hs) w:=a;refine ⟨c.kind,c.pnr,c.flt,c.cls,c.many,c.time,c.sc,c.lab,c.rows,sg,sp,oA a,?_⟩;refine (Ub F f g a).u λ w a=>?_;refine ⟨_,rfl,Br.nd (λ t=>?_) (λ t=>?_)⟩
 ·have N:ZT b c=(b,Z4 1):=by unfold ZT;rw [qf t]
  rw [N] at hK;exact Y8 (r:=Z4 1) (sl:=Ze) (sb:=Ze) a λ w a=>hK.err a.drop
 have d:¬ ¬ Z9 c:=λ h=>h t;have a:=a.m2;have fin:∀ {y:ZF × Rp},ZT b c=y->∀ sl n w',Sat R (Own sl 3 (Zd y.2.left)::Own n 9 (y.2.labs.map Value.string)::Zk p y.1::cmC b3 c sg sp::Hs) w'->K (.agg (rpV y.2 sl n).toArray) w':=λ {y} e sl n w' h=>by
  rw [e] at hK;exact hK sl n w' (h.cons λ _ h=>h.cons λ _ h=>h.cons λ _ h=>h.drop)
 refine ⟨c.kind,oA a,Br.e (λ q=>?_) (λ q=>Br.e (λ l=>?_) (λ l=>Br.e (λ A=>?_) (λ A=>Br.e (λ D=>?_) (λ D=>Br.e (λ G=>?_) (λ G=>?_)))))⟩
 ·refine ⟨c.kind,c.pnr,c.flt,c.cls,c.many,c.time,c.sc,c.lab,c.rows,sg,sp,oA a,?_⟩
  exact ZkK (y:=Wi b c) (ZkM k F M a) (fin (by unfold ZT;rw [qc d,qf q]))
 ·refine ⟨c.kind,c.pnr,c.flt,c.cls,c.many,c.time,c.sc,c.lab,c.rows,sg,sp,oA a,?_⟩
  exact ZkK (y:=XE b c) (ZkP k t a) (fin (by unfold ZT;rw [qc d,qc q,qf l]))
 ·refine ⟨c.kind,c.pnr,c.flt,c.cls,c.many,c.time,c.sc,c.lab,c.rows,sg,sp,oA a,?_⟩
  exact ZkK (y:=YU b c) (ZkC k t E a) (fin (by unfold ZT;rw [qc d,qc q,qc l,qf A]))
 ·refine ⟨c.kind,c.pnr,c.flt,c.cls,c.many,c.time,c.sc,c.lab,c.rows,sg,sp,oA a,?_⟩
  exact ZkK (y:=YH b c) (Zic k t a) (fin (by unfold ZT;rw [qc d,qc q,qc l,qc A,qf D]))
 ·refine ⟨c.kind,c.pnr,c.flt,c.cls,c.many,c.time,c.sc,c.lab,c.rows,sg,sp,oA a,?_⟩
  exact ZkK (y:=(b,Xv b c)) (ZdP k F f g a) (fin (by unfold ZT;rw [qc d,qc q,qc l,qc A,qc D,qf G]))
 ·have z:ZT b c=(match Xi b c.pnr with|(none,e)=>(b,Z4 e)|(some x,_)=>Gm b x c):=by
   unfold ZT;rw [qc d,qc q,qc l,qc A,qc D,qc G];obtain ⟨o,e⟩:=Xi b c.pnr;cases o<;>rfl
  refine ⟨c.pnr,oA a,?_⟩;obtain ⟨sf,sb,fs,I,a⟩:=Sat.rbook.1 a;refine (Zcq (s:=c.pnr) k a).use ?_;clear a;rintro _ w ⟨⟨i,e,rfl,hi⟩,a⟩;have a:Sat R (Zk p b::rpZ b4::cmC b3 c sg sp::Hs) w:=Sat.rbook.2 ⟨sf,sb,fs,I,a⟩;refine ⟨i,e,rfl,Br.ne (λ h=>?_) (λ h=>?_)⟩
  ·obtain ⟨_,J⟩:=hi.resolve_right λ l=>h l.1
   rw [J] at z;dsimp only at z;rw [z] at hK;exact Y8 (r:=Z4 e) (sl:=Ze) (sb:=Ze) a.swap λ w a=>hK.err (a.cons λ _ h=>h.drop)
  ·obtain ⟨_,j,rfl,hj,J⟩:=hi.resolve_left λ l=>l.1 h
   rw [J] at z;dsimp only at z;refine ⟨c.kind,c.pnr,c.flt,c.cls,c.many,c.time,c.sc,c.lab,c.rows,sg,sp,oA a,?_⟩;exact ZkK (y:=Gm b b.L[j] c) (ZmA k hj a) (fin z)
def Zcj {t:Sl} {bs:List Int} (hl:bs.length<=1000000) (h:Sat R (Own t 5 (b8 bs)::Hs) w):
  Zg prog 68 #[.slice t.a t.len t.cap] w λ v w'=>∃ t:Sl,v=.slice t.a t.len t.cap/\Sat R (Own t 5 (b8 (XI bs))::Hs) w':=by
 obtain ⟨i,d,o,h⟩:=Own.leak h;refine (Gz (o.ro) (by omega) h).mono ?_;rintro _ w ⟨t,rfl,h⟩;exact ⟨t,rfl,d.back h⟩
def ZkF {b:ZF} (k:Core b) (o:Sat R (Zk p b::Hs) w):
  Zg prog 19 #[nP p] w λ v w'=>∃ t:Sl,v=.slice t.a t.len t.cap/\Sat R (Own t 5 (b8 (Gi b))::Zk p b::Hs) w':=by
 apply Zwk
 suffices H:∀ K:Value->xE,(∀ (t:Sl) w',Sat R (Own t 5 (b8 (Gi b))::Zk p b::Hs) w'->K (.slice t.a t.len t.cap) w')->B19 (some ⟨p,0,none⟩) K w from H _ λ t w' h=>⟨t,rfl,h⟩
 intro K hK;have k1:=k.now;have k2:=k.next;have k3:=k.few;have k4:=k.many;have a1:=Zl (x:=b.now) (by omega);have a2:=Zl (x:=b.next) (by omega);have a3:=Zl (x:=(b.fl.length:Int)) (by omega);have a4:=Zl (x:=(b.L.length:Int)) (by omega);have a5:∀ j,(((b.fl.take j).map plB).flatten).length<=304000:=λ j=>by
  have:=YT (l:=b.fl.take j) (code:=plB) (m:=38000) λ p W=>Zim (k.good p (qw W)) (k.qok p (qw W));rw [qd] at this;omega
 have a6:∀ j,(((b.L.take j).map bkB).flatten).length<=16200:=λ j=>by
  have:=YT (l:=b.L.take j) (code:=bkB) (m:=54) λ x F=>ZfP k2.2 (k.each x (qw F));rw [qd] at this;omega
 obtain ⟨sf,sb,fs,c,o⟩:=Sat.rbook.1 o;have C:=RBO.lens o;have B:fs.length=b.fl.length:=by rw [<-c,qa]
 refine Zj (Sat R [pts p (Z1 b.now b.next sf sb),VC.tru]) o (λ w o=>o.restTru2) λ w o=>?_;refine Zb.mk rfl ⟨b.now,oS,Zb.mk rfl ⟨b.next,oS,Zb.mk rfl ⟨sf,oS,?_⟩⟩⟩;rw [show ((sf.len:Nat):Int)=((b.fl.length:Nat):Int) by omega];refine Za o λ P w o=>⟨o.swap.restTru2,?_⟩;refine (VR (xs:=[b.now,b.next,(b.fl.length:Int)]) rfl (by simp;omega) (by simp) o).u1 λ t1 w o=>?_;refine ⟨t1,rfl,o.swap.restTru2,?_⟩;rw [nn3s (by omega) (by omega) (by omega)] at o;obtain ⟨G,A⟩:=xx (Zf [b.now]++(Zf [b.next]++Zf [(b.fl.length:Int)]));have h2:G.length<=27:=by rw [A];simp only [qb];omega
 rw [<-A] at o;refine ⟨λ out i w=>∃ j:Nat,i=j/\j<=b.fl.length/\Sat R (Own out 5 (b8 (G++((b.fl.take j).map plB).flatten))::RBO p b.now b.next b.L sf sb fs Hs) w,
  λ _ i _=>b.fl.length - i.toNat,⟨0,rfl,by omega,by simpa using o⟩,?_⟩
 clear o;rintro _ out _ w ⟨j,rfl,hj,o⟩;have h3:=a5 j;refine Zb.mk rfl ⟨sf,oA o,Br.d (λ h=>?_) (λ h=>?_)⟩
 ·have u:j<fs.length:=by omega
  have I:j<b.fl.length:=by omega
  have J:b.fl[j]=fs[j].2.2:=by
   have:b.fl[j]? =some fs[j].2.2:=by rw [<-c,List.getElem?_map,List.getElem?_eq_getElem u];rfl
   rw [List.getElem?_eq_getElem I] at this;exact jp this
  have y:fs[j].2.2∈b.fl:=by rw [<-J];exact qh _
  have X:=k.good _ y;have N:=k.qok _ y;have e1:=ZaW X;have e2:=ZmW N;have e3:=Yr (d:=WL fs[j].2.2.r) (by omega);have e4:=Yr (d:=qB fs[j].2.2.q) (by omega);have o:=o.b4;refine Zb.mk rfl ⟨sf,oA o,?_⟩;refine (Zn.readsM (n:=2) (s:=sf) (T:=plT) (rows:=fs.map Y6) o (eqS o)).rngM (E:=fs) (g:=Y6) u λ a _ M=>?_;refine ⟨some ⟨fs[j].1,0,none⟩,M.zz (by exact ⟨rfl,trivial⟩),?_⟩;clear M;have o:=(RBO.fl u).1 o;refine (ZeU (U5 X) o).u1 λ t1 w o=>?_;refine ⟨t1,rfl,?_⟩;refine (Zcj (by omega) o).u1 λ t2 w o=>?_;refine ⟨t2,rfl,?_⟩;have o:=o.m2.m7.m2;refine ZfX (by rw [qb];omega) o λ Y w o=>Zb.mk rfl ⟨sf,oA o,?_⟩;refine (Zn.readsM (n:=2) (s:=sf) (T:=plT) (rows:=fs.map Y6) o (eqS o)).rngM (E:=fs) (g:=Y6) u λ a _ M=>?_;refine ⟨some ⟨fs[j].2.1,0,none⟩,M.f 1 (by exact ⟨rfl,trivial⟩),?_⟩;clear M;refine (ZkH (by have:=N.len;omega) N.ok N.fl o.swap).u1 λ S w o=>?_;refine ⟨S,rfl,?_⟩;refine (Zcj (by omega) o).u1 λ t5 w o=>?_;refine ⟨t5,rfl,?_⟩;have o:=o.m1.b3;refine ZfX (by simp only [qb];omega) o λ t6 w o=>?_;rw [Zc];refine ⟨⟨j + 1,by omega,by omega,?_⟩,by dsimp only;omega⟩;have ebs:G++((b.fl.take j).map plB).flatten++XI (WL fs[j].2.2.r)++XI (qB fs[j].2.2.q)=G++((b.fl.take (j + 1)).map plB).flatten:=by
   rw [VW I,J];unfold plB;simp only [qn]
  rw [ebs] at o;exact o.cons λ _ h=>(RBO.fl u).2 h
 ·have O:j=b.fl.length:=by omega
  rw [O,jz] at o;have a50:=a5 b.fl.length;rw [jz] at a50;refine Zb.mk rfl ⟨sb,oA o,?_⟩;rw [show ((sb.len:Nat):Int)=((b.L.length:Nat):Int) by omega];refine Za o λ h4 w o=>?_;refine (VR (xs:=[(b.L.length:Int)]) rfl (by simp;omega) (by simp) o).u1 λ t1 w o=>?_;refine ⟨t1,rfl,?_⟩;rw [nn1 (by omega)] at o;refine ZfX (by simp only [qb];omega) o λ t2 w o=>?_;obtain ⟨Q,D⟩:=xx (G++(b.fl.map plB).flatten++Zf [(b.L.length:Int)]);have h5:Q.length<=305000:=by rw [D];simp only [qb];omega
  rw [<-D] at o;refine ⟨λ out i w=>∃ j:Nat,i=j/\j<=b.L.length/\Sat R (Own out 5 (b8 (Q++((b.L.take j).map bkB).flatten))::RBO p b.now b.next b.L sf sb fs Hs) w,
   λ _ i _=>b.L.length - i.toNat,⟨0,rfl,by omega,by simpa using o⟩,?_⟩
  clear o;rintro _ out _ w ⟨j,rfl,hj,o⟩;have h6:=a6 j;refine Zb.mk rfl ⟨sb,oA o,Br.d (λ h=>?_) (λ h=>?_)⟩
  ·have u:j<b.L.length:=by omega
   obtain ⟨x,F⟩:=xx (b.L[j]);have y:x∈b.L:=by rw [F];exact qh _
   have ke:=k.each x y;have x1:=ke.id;have x2:=ke.flt;have x3:=ke.cls;have x4:=ke.many;have x5:=ke.state;have x6:=ke.till;refine Zb.mk rfl ⟨sb,oA o,?_⟩;refine (Zn.readsM (n:=6) (s:=sb) (T:=rkT) (rows:=b.L.map rkV) o (eqS o)).rngM (E:=b.L) (g:=rkV) u λ a _ U=>?_;rw [<-F] at U;refine ⟨x.id,x.flt,x.cls,x.many,x.state,x.till,U.z (by exact ⟨rfl,rfl,rfl,rfl,rfl,rfl,trivial⟩),?_⟩;clear U;refine Za o λ b6 w o=>?_;refine sRu o λ w o=>?_;have o:=o.re (rkC b6 x);refine ⟨x.id,oA o,x.flt,oA o,x.cls,oA o,x.many,oA o,x.state,oA o,x.till,oA o,?_⟩;refine Za o λ h7 w o=>?_;refine (VR (xs:=[x.id,x.flt,x.cls,x.many,x.state,x.till]) rfl (by simp;omega) (by simp) o).u1 λ Y w o=>?_;refine ⟨Y,rfl,?_⟩;rw [nn6s (by omega) (by omega) (by omega) (by omega) (by omega) (by omega)] at o;have e:Zf [x.id]++(Zf [x.flt]++(Zf [x.cls]++(Zf [x.many]++(Zf [x.state]++Zf [x.till]))))=bkB x:=rfl;rw [e] at o;have h8:=ZfP k2.2 ke;have o:=o.m1.b2;refine ZfX (by rw [qb];omega) o λ S w o=>?_;rw [Zc];refine ⟨⟨j + 1,by omega,by omega,?_⟩,by dsimp only;omega⟩;rw [VW u,<-F,<-qn];exact o.cons λ _ h=>h.drop
  ·have V:j=b.L.length:=by omega
   rw [V,jz] at o;have e:Q++(b.L.map bkB).flatten=Gi b:=by
    rw [D,A];unfold Gi;simp only [qn]
   rw [e] at o;exact hK out w (o.cons λ _ h=>Sat.rbook.2 ⟨sf,sb,fs,c,h⟩)
end
section
open Go Go.VC Tryz
open Classical
variable {R:Cx} {Hs Rest:List HP} {w:World}
def Zii (a:Sat R Hs w):Zg prog 11 #[] w λ v w'=>∃ p,v=nP p/\Sat R (Zk p Uv::Hs) w':=by
 apply Zwq;refine Za a λ p w a=>?_;have a:Sat R (pts p (Z1 0 1 Ze Ze)::Hs) w:=a;refine ⟨p,rfl,Sat.rbook.2 ⟨Ze,Ze,[],rfl,?_⟩⟩;refine a.cons λ _ h=>Zn.nil (Zn.nil ?_);show Sat _ (YJ []::Hs) _;unfold YJ;exact Sat.star.2 h
end
section
open Go Go.VC Tryz
open Classical
structure Cl where
 id:Int
 tok:Int
 last:Int
 rep:List Int
structure Tb where
 next:Int
 cl:List Cl
 bk:ZF
def XH (e:Int):Zkg:=⟨e,0,0,[]⟩
noncomputable def Ui (b:ZF) (cmd:List Int):List Int × ZF:=
 if (Z5 cmd).2≠0 then (rpB (Z4 (Z5 cmd).2),b) else (rpB (ZT b (Z5 cmd).1).2,(ZT b (Z5 cmd).1).1)
def Tb.beginT (t:Tb) (tok:Int):Zkg × Tb:=
 match t.cl.find? (λ c=>c.tok==tok) with
 |some c=>(⟨0,c.id,0,[]⟩,t)
 |none=>if t.cl.length >= 64 then (XH 3,t) else (⟨0,t.next,0,[]⟩,{ t with next:=t.next + 1,cl:=t.cl++[⟨t.next,tok,0,[]⟩] })
def VL (c:Cl) (l:List Cl):List Cl:=l.map λ d=>if d.id==c.id then c else d
noncomputable def Tb.doT (t:Tb) (c:Cl) (q:Rq):Zkg × Tb:=
 if q.seq>c.last + 1 then (XH 7,t)
 else if q.seq<c.last\/q.seq=0 then (XH 11,t)
 else if q.seq>c.last then (⟨0,q.client,q.seq,(Ui t.bk q.cmd).1⟩,{ t with bk:=(Ui t.bk q.cmd).2,cl:=VL { c with last:=q.seq,rep:=(Ui t.bk q.cmd).1 } t.cl })
 else (⟨0,q.client,q.seq,c.rep⟩,t)
noncomputable def Tb.askT (t:Tb) (q:Rq):Zkg × Tb:=
 if q.kind=4 then (XH 1,t)
 else if q.kind=1 then t.beginT q.token
 else match t.cl.find? (λ c=>c.id==q.client) with
  |none=>(if 1<=q.client/\q.client<t.next then XH 10 else XH 2,t)
  |some c=>if q.kind=3 then (⟨0,q.client,0,[]⟩,{ t with cl:=t.cl.filter λ d=>d.id !=q.client }) else t.doT c q
noncomputable def Tb.applyT (t:Tb) (bs:List Int):Zkg × Tb:=if (ZU mI bs).2≠0 then (XH (ZU mI bs).2,t) else t.askT (ZU mI bs).1
structure Zye (t:Zkg):Prop where
 code:0<=t.code/\t.code<=1099511627776
 client:0<=t.client/\t.client<=1099511627776
 seq:0<=t.seq/\t.seq<=1099511627776
 rep:t.reply.length<=65536
 by':ZV t.reply
structure Zyl (next:Int) (c:Cl):Prop where
 id:1<=c.id/\c.id<next
 tok:0<=c.tok/\c.tok<=1099511627776
 last:0<=c.last/\c.last<=1099511627776
 rep:c.rep.length<=65536
 by':ZV c.rep
structure ZfY (t:Tb):Prop where
 nx:1<=t.next
 each:∀ c∈t.cl,Zyl t.next c
 ids:(t.cl.map Cl.id).Nodup
 toks:(t.cl.map Cl.tok).Nodup
 few:t.cl.length<=64
 bk:YK t.bk
def Zmw {r:Rp} (h:Zkh r):(rpB r).length<=65536:=by
 have i:=h.code;have p:=h.pnr;have u:=h.state;have v:=h.flt;have z:=h.cls;have g:=h.many;have j:=h.time;have q:=h.ll;have k:=h.left;have m:=h.bl;have a:∀ {x:Int},0<=x/\x<=1099511627776->0<=nn x/\nn x<18446744073709551616:=λ {x} o=>by
  rw [Ve o.1];omega
 have l1:=Zl (a i);have l2:=Yr (d:=ZE r.pnr) (by rw [Yf];omega);have l3:=Zl (a u);have l4:=Zl (a v);have l5:=Zl (a z);have l6:=Zl (a g);have l7:=Zl (a j);have l8:=Zl (x:=(r.left.length:Int)) (by omega);have l9:=Zx (l:=r.left.map nn) λ y n=>by
  obtain ⟨x,o,rfl⟩:=qm.1 n;exact a (k x o)
 have l10:=Zl (x:=(r.labs.length:Int)) (by omega);have l11:∀ l:List ByteArray,(∀ s∈l,s.size<=16)->((l.map ZhZ).flatten).length<=25 * l.length:=λ l=>by
  induction l with
  |nil=>intro _;exact jc _
  |cons s l ih=>
   intro hs;have i1:=ih λ x o=>hs x (qj _ o);have i2:=hs s qq;have i3:=Yr (d:=ZE s) (by rw [Yf];omega);rw [Yf] at i3;rw [qi,jt,qb,qr];unfold ZhZ at *;omega
 have l12:=l11 r.labs h.labs;rw [Yf] at l2;rw [qa] at l9;unfold rpB;simp only [qb];unfold ZhZ at *;omega
def Zrh {e:Int} (h:0<=e) (a:e<=1099511627776):Zye (XH e):=⟨⟨h,a⟩,⟨qG 0,by show (0:Int)<=1099511627776;decide⟩,⟨qG 0,by show (0:Int)<=1099511627776;decide⟩,jB _,λ y d=>by cases d⟩
def ZiT {b:ZF} {cmd:List Int} (k:YK b) (o:ZV cmd):(Ui b cmd).1.length<=65536/\ZV (Ui b cmd).1/\YK (Ui b cmd).2:=by
 obtain ⟨d,_⟩:=ZaD o;unfold Ui;split
 ·rename_i h
  have i:(Z5 cmd).2=6:=by
   unfold Z5 at h ⊢;split
   ·rename_i u
    rw [qf u] at h;exact absurd rfl h
   ·rfl
  have a:Zkh (Z4 (Z5 cmd).2):=Yb (by rw [i];decide);exact ⟨Zmw a,Zj9 a,k⟩
 ·have a:=ZaT (c:=(Z5 cmd).1) k d.sc
  exact ⟨Zmw a,Zj9 a,ZjD k d.sc⟩
def ZjZ {l:List Cl} {P:Cl->Bool} {c:Cl} (h:l.find? P=some c):c∈l/\P c=true:=⟨List.mem_of_find?_eq_some h,List.find?_some h⟩
def ZeQ {bs:List Int} (d:ZV bs) (h:(ZU mI bs).2=0):Y4 (ZU mI bs).1:=by
 unfold ZU at *;split
 ·rename_i a;exact a.2
 ·rename_i a
  rw [qc a] at h;exact absurd h (by show ¬ (6:Int)=0;decide)
def Zhy (c:Cl) (l:List Cl):(VL c l).map Cl.id=l.map Cl.id:=by
 unfold VL;rw [qZ];refine qP λ d _=>?_;show Cl.id (if d.id==c.id then c else d)=d.id
 split
 ·rename_i h;exact (jh.1 h).symm
 ·rfl
def Zlz {c d:Cl} {l:List Cl} (hd:d∈l) (o:d.id=c.id) (a:d.tok=c.tok) (u:(l.map Cl.id).Nodup):(VL c l).map Cl.tok=l.map Cl.tok:=by
 unfold VL;rw [qZ];refine qP λ x v=>?_;show Cl.tok (if x.id==c.id then c else x)=x.tok
 split
 ·rename_i h
  have h:=jh.1 h;have:x=d:=by
   obtain ⟨i,hi,rfl⟩:=je v;obtain ⟨j,hj,rfl⟩:=je hd;have y:(l.map Cl.id)[i]'(by simpa using hi)=(l.map Cl.id)[j]'(by simpa using hj):=by simp only [qX];omega
   have:=(List.getElem_inj u).1 y;subst this;rfl
  rw [this,a]
 ·rfl
def ZfY.apply {t:Tb} (k:ZfY t) (M:t.next<1000000) {bs:List Int} (D:ZV bs) (o:∀ q,(ZU mI bs).1=q->ZV q.cmd):ZfY (t.applyT bs).2/\Zye (t.applyT bs).1/\(t.applyT bs).2.next<=t.next + 1/\t.next<=(t.applyT bs).2.next:=by
 have u:=k.nx;have same:∀ {e:Int},0<=e->e<=1099511627776->ZfY t/\Zye (XH e)/\t.next<=t.next + 1/\t.next<=t.next:=λ E F=>⟨k,Zrh E F,by omega,qG _⟩;unfold Tb.applyT;split
 ·rename_i h
  have G:(ZU mI bs).2=6:=by
   unfold ZU at h ⊢;split
   ·rename_i H
    rw [qf H] at h;exact absurd rfl h
   ·rfl
  rw [G];exact same (by decide) (by decide)
 ·rename_i h
  have l:=ZeQ D (by simpa using h);have v:=o _ rfl;generalize (ZU mI bs).1=q at l v;obtain ⟨m,n⟩:=l.client;obtain ⟨p,r⟩:=l.seq;obtain ⟨I,J⟩:=l.token;unfold Tb.askT;split
  ·exact same (by decide) (by decide)
  ·split
   ·unfold Tb.beginT
    split
    ·rename_i c o
     obtain ⟨hm,_⟩:=ZjZ o;have:=(k.each c hm).id;exact ⟨k,⟨⟨qG 0,by show (0:Int)<=1099511627776;decide⟩,⟨by show 0<=c.id;omega,by show c.id<=1099511627776;omega⟩,⟨qG 0,by show (0:Int)<=1099511627776;decide⟩,jB _,λ y i=>by cases i⟩,by show t.next<=t.next + 1;omega,qG _⟩
    ·rename_i s
     split
     ·exact same (by decide) (by decide)
     ·rename_i f
      have z:∀ c∈t.cl,c.tok≠q.token:=λ c o e=>by
       have:=List.find?_eq_none.1 s c o;exact this (jh.2 e)
      refine ⟨⟨by show 1<=t.next + 1;omega,λ c o=>?_,?_,?_,?_,k.bk⟩,⟨⟨qG 0,by show (0:Int)<=1099511627776;decide⟩,⟨by show 0<=t.next;omega,by show t.next<=1099511627776;omega⟩,⟨qG 0,by show (0:Int)<=1099511627776;decide⟩,jB _,λ y i=>by cases i⟩,qG _,by show t.next<=t.next + 1;omega⟩
      ·rcases qt.1 o with o|o
       ·have a:=k.each c o
        exact ⟨⟨a.id.1,by have:=a.id.2;show c.id<t.next + 1;omega⟩,a.tok,a.last,a.rep,a.by'⟩
       ·rw [qK] at o
        subst o;exact ⟨⟨u,by show t.next<t.next + 1;omega⟩,⟨I,J⟩,⟨qG 0,by show (0:Int)<=1099511627776;decide⟩,jB _,λ y i=>by cases i⟩
      ·show ((t.cl++[_]).map Cl.id).Nodup
       rw [qe,jQ];refine ⟨k.ids,by simp,λ x g y i e=>?_⟩;obtain ⟨c,o,rfl⟩:=qm.1 g;have:=(k.each c o).id.2;simp only [qi,jR,qK] at i;omega
      ·show ((t.cl++[_]).map Cl.tok).Nodup
       rw [qe,jQ];refine ⟨k.toks,by simp,λ x g y i e=>?_⟩;obtain ⟨c,o,rfl⟩:=qm.1 g;simp only [qi,jR,qK] at i;exact z c o (by omega)
      ·show (t.cl++[_]).length<=64
       rw [qb];simp only [qr,qN];omega
   ·split
    ·split
     ·exact same (by decide) (by decide)
     ·exact same (by decide) (by decide)
    ·rename_i c o
     obtain ⟨hm,j⟩:=ZjZ o;have j:=jh.1 j;have a:=k.each c hm;split
     ·refine ⟨⟨u,λ d hd=>k.each d (vE.1 hd).1,?_,?_,jf (ze _ _) k.few,k.bk⟩,⟨⟨qG 0,by show (0:Int)<=1099511627776;decide⟩,⟨m,n⟩,⟨qG 0,by show (0:Int)<=1099511627776;decide⟩,jB _,λ y i=>by cases i⟩,by show t.next<=t.next + 1;omega,qG _⟩
      ·exact (vf.map Cl.id).nodup k.ids
      ·exact (vf.map Cl.tok).nodup k.toks
     ·unfold Tb.doT
      split
      ·exact same (by decide) (by decide)
      ·split
       ·exact same (by decide) (by decide)
       ·split
        ·obtain ⟨b,A,L⟩:=ZiT k.bk v
         refine ⟨⟨u,λ d hd=>?_,?_,?_,?_,L⟩,⟨⟨qG 0,by show (0:Int)<=1099511627776;decide⟩,⟨m,n⟩,⟨p,r⟩,b,A⟩,by show t.next<=t.next + 1;omega,qG _⟩
         ·obtain ⟨x,g,rfl⟩:=qm.1 hd
          dsimp only;split
          ·exact ⟨a.id,a.tok,⟨p,r⟩,b,A⟩
          ·exact k.each x g
         ·show ((VL _ t.cl).map Cl.id).Nodup
          rw [Zhy];exact k.ids
         ·show ((VL _ t.cl).map Cl.tok).Nodup
          rw [Zlz (c:={ c with last:=q.seq,rep:=(Ui t.bk q.cmd).1 }) hm rfl rfl k.ids];exact k.toks
         ·show (VL _ t.cl).length<=64
          unfold VL;rw [qa];exact k.few
        ·exact ⟨k,⟨⟨qG 0,by show (0:Int)<=1099511627776;decide⟩,⟨m,n⟩,⟨p,r⟩,a.rep,a.by'⟩,by show t.next<=t.next + 1;omega,qG _⟩
end
section
open Go Go.VC Tryz
open Classical
variable {R:Cx} {Hs Rest:List HP} {w:World}
abbrev SE:=Nat × Cl
abbrev WH (c:Cl) (s:Sl):Obj:=.cells [nI c.tok,nI c.last,.slice s.a s.len s.cap].toArray 134 (0,0)
def Xs (e:SE):HP:=exs λ s:Sl=>XS [pts e.1 (WH e.2 s),Own s 5 (b8 e.2.rep)]
def VD (e:SE):Int × Value:=(e.2.id,xP (some ⟨e.1,0,none⟩))
abbrev GX (bk:Nat) (next:Int) (m:Nat):Obj:=.cells [nP bk,nI next,.map (some m)].toArray 128 (0,0)
def Zbz (p:Nat) (t:Tb):HP:=exs λ m:Nat=>exs λ bk:Nat=>exs λ E:List SE=>XS [pur (E.map Prod.snd=t.cl),pts p (GX bk t.next m),MapAt m (E.map VD),XS (E.map Xs),Zp bk t.bk]
def Sat.tb {p:Nat} {t:Tb}:Sat R (Zbz p t::Hs) w↔∃ m bk,∃ E:List SE,E.map Prod.snd=t.cl/\Sat R (pts p (GX bk t.next m)::MapAt m (E.map VD)::XS (E.map Xs)::Zp bk t.bk::Hs) w:=by
 unfold Zbz;simp only [Sat.exs];constructor
 ·rintro ⟨m,b,E,h⟩
  obtain ⟨a,d⟩:=Sat.pur.1 (Sat.star.1 h);exact ⟨m,b,E,a,d⟩
 ·rintro ⟨m,b,E,a,d⟩
  exact ⟨m,b,E,Sat.star.2 (Sat.pur.2 ⟨a,d⟩)⟩
def Sat.cli {e:SE}:Sat R (Xs e::Hs) w↔∃ s:Sl,Sat R (pts e.1 (WH e.2 s)::Own s 5 (b8 e.2.rep)::Hs) w:=by
 unfold Xs;simp only [Sat.exs];exact ⟨λ⟨s,h⟩=>⟨s,Sat.star.1 h⟩,λ⟨s,h⟩=>⟨s,Sat.star.2 h⟩⟩
def ZaE {A:HP} {B C:List HP}:Sat R (XS (B++A::C)::Hs) w↔Sat R (A::XS (B++C)::Hs) w:=by
 have key:∀ (B:List HP) {R:Cx} {Hs:List HP},Sat R (B++A::Hs) w↔Sat R (A::(B++Hs)) w:=λ B=>by
  induction B with
  |nil=>exact λ {R Hs}=>zU
  |cons X B ih=>
   intro R Hs;constructor
   ·intro h
    have h:Sat R (X::(B++A::Hs)) w:=h;exact (h.cons λ _ h=>ih.1 h).swap
   ·intro h
    have h:Sat R (A::X::(B++Hs)) w:=h;exact (h.swap.cons λ _ h=>ih.2 h)
 rw [Sat.star,qn,qU,key B];constructor
 ·intro h
  exact h.cons λ _ h=>Sat.star.2 (by rw [qn];exact h)
 ·intro h
  refine h.cons λ _ h=>?_;have:=Sat.star.1 h;rwa [qn] at this
def UH {A C:List SE} {e:SE}:Sat R (XS ((A++e::C).map Xs)::Hs) w↔∃ s:Sl,Sat R (pts e.1 (WH e.2 s)::Own s 5 (b8 e.2.rep)::XS (A.map Xs++C.map Xs)::Hs) w:=by
 rw [qe,qi,ZaE,Sat.cli]
abbrev Zwt:ZqW prog 126 Int 3 131 (xP none):=⟨underlying126,underlying3,zeroValue131⟩
def Zop {k:Int}:∀ {E:List SE},ZL k (E.map VD)=(E.find? λ e=>e.2.id==k).map λ e=>xP (some ⟨e.1,0,none⟩)
 |[]=>rfl
 |e::E=>by
  rw [qi,ZL,List.find?_cons];show (if k==e.2.id then some (Value.pointer (some ⟨e.1,0,none⟩)) else _)=_
  by_cases h:e.2.id=k
  ·rw [qf (by rw [h];simp),show (e.2.id==k)=true by simpa using h]
   rfl
  ·rw [qc (by simpa using λ a=>h a.symm),show (e.2.id==k)=false by simpa using h,Zop]
def Zsj {E:List SE} {P:Cl->Bool}:(E.map Prod.snd).find? P=(E.find? λ e=>P e.2).map Prod.snd:=by
 rw [List.find?_map];rfl
def Zfw {l:List Cl} {f:Cl->Int} (h:(l.map f).Nodup) {c:Cl} (o:c∈l):l.find? (λ d=>f d==f c)=some c:=by
 induction l with
 |nil=>cases o
 |cons x l ih=>
  rw [qi,j8] at h;rw [List.find?_cons];rcases qk.1 o with a|a
  ·subst a
   simp
  ·have:f x≠f c:=λ e=>h.1 (qm.2 ⟨c,a,e.symm⟩)
   rw [show (f x==f c)=false by simpa using this];exact ih h.2 a
def Yw {b4:Nat} {t4 τ:Zkg} {y s:Sl} {K:Int->Int->Int->Sl->xE} (o:Sat R (tdC b4 t4 y::Hs) w) (k:∀ w',Sat R Hs w'->K τ.code τ.client τ.seq s w'):
  ∃ d:World,((Instr.storeAt 54 (xP ((some ⟨b4,0,none⟩))) (.agg #[nI τ.code,nI τ.client,nI τ.seq,.slice s.a s.len s.cap])).run prog w=.ok () d)/\
  ∃ u:Int,∃ i:Int,∃ v:Int,∃ h:Sl,(At (λ w'=>w'=d) ⟨b4,0,none⟩ [nI u,nI i,nI v,.slice h.a h.len h.cap])/\
  K u i v h d:=by
 refine sRu o λ w o=>?_;have o:=o.re (tdC b4 τ s);exact ⟨τ.code,τ.client,τ.seq,s,oA o,k _ o.drop⟩
def YF {e:Int} (h:Sat R Hs w):Zg prog 72 #[nI e] w λ v w'=>v=.agg (tdV (XH e) Yt).toArray/\Sat R Hs w':=by
 apply ZvD;refine Za h λ b w h=>?_;have h:Sat R (GW b::Hs) w:=h;exact Yw (τ:=XH e) (s:=Yt) h λ w h=>⟨rfl,h⟩
def XP.mk2 {g:FuncId} {x y:Value} {Q:Ending->xE} (a:cl g=true) (h:Calls prog g #[x,y] w Q):XP prog cl (.func (.func g) #[x] #[]) [y] w Q:=XP.mkB a (by
 have e:((#[x]:Array Value).toList++(([y]:List Value)++(#[]:Array Value).toList)).toArray=#[x,y]:=rfl;rw [e];exact h)
def Zn9 {p:Nat} {b:ZF} {s:Sl} {cmd:List Int} (k:YK b) (n:ZV cmd) (hl:cmd.length<=1099511627776) (hs:Ro R s (b8 cmd)) (d:Sat R (Zp p b::Hs) w):
  Zg prog 74 #[.slice s.a s.len s.cap,.func (.func 12) #[nP p] #[]] w λ v w'=>
   ∃ t:Sl,v=.slice t.a t.len t.cap/\Sat R (Own t 5 (b8 (Ui b cmd).1)::Zp p (Ui b cmd).2::Hs) w':=by
 apply ZqR;obtain ⟨u,y,z⟩:=ZaD n;refine (ZhK n hl hs d).use ?_;clear d;rintro _ w ⟨sg,sp,rfl,d⟩;obtain ⟨c,g⟩:=xx ((Z5 cmd).1);obtain ⟨e,j⟩:=xx ((Z5 cmd).2);have hd:Ui b cmd=if e≠0 then (rpB (Z4 e),b) else (rpB (ZT b c).2,(ZT b c).1):=by unfold Ui;rw [<-g,<-j]
 have A:e=0\/e=6:=by
  rw [j];unfold Z5;split
  ·exact .inl rfl
  ·exact .inr rfl
 rw [hd];rw [<-g] at d u y z;rw [<-g,<-j];refine ⟨c.kind,c.pnr,c.flt,c.cls,c.many,c.time,c.sc,c.lab,c.rows,sg,sp,e,rfl,?_⟩;refine Za d λ b5 w d=>?_;refine sRu d λ w d=>?_;have d:=d.re (cmC b5 c sg sp);refine Br.ne (λ h=>?_) (λ h=>?_)
 ·rw [qf h]
  have o:Zkh (Z4 e):=Yb (by omega);refine (VF (r:=Z4 e) (sl:=Ze) (sb:=Ze) (ZdR o) ⟨rfl,by show 0<=9223372036854775807;omega,λ h=>absurd rfl h⟩ ⟨rfl,jc _,λ h=>absurd rfl h⟩ d).u1 λ t w d=>?_;exact ⟨t,rfl,t,rfl,d.cons λ _ h=>h.drop.drop.drop⟩
 ·rw [qc (by simpa using h)]
  have d:=d.b3;obtain ⟨M,D,E,d⟩:=Own.leak d;obtain ⟨N,q,F,d⟩:=Own.leak d;refine ⟨c.kind,c.pnr,c.flt,c.cls,c.many,c.time,c.sc,c.lab,c.rows,sg,sp,oA d,?_⟩;have o:=ZaT (c:=c) k u.sc;refine XP.mk2 (by kernel_rfl) ((ZlH k u.sc (q.ro (E.ro)) (by omega) F d).use ?_);clear d;rintro _ w ⟨sl,sb,rfl,d⟩;obtain ⟨i,l⟩:=xx ((ZT b c).2);obtain ⟨nb,m⟩:=xx ((ZT b c).1);rw [<-l] at o d ⊢;rw [<-m] at d ⊢;have G:=o.ll;have H:=o.bl;obtain ⟨O,I,J,d⟩:=Own.leak d;obtain ⟨Q,f,L,d⟩:=Own.leak d;refine ⟨i.code,i.pnr,i.state,i.flt,i.cls,i.many,i.time,sl,sb,rfl,?_⟩;refine (VF (ZdR o) (f.ro (J.ro)) L d).u1 λ t w d=>?_;exact ⟨t,rfl,t,rfl,D.back (q.back (I.back (f.back (d.cons λ _ h=>h.cons λ _ h=>h.drop))))⟩
def Zh2 {p:Nat} {t:Tb} {tok:Int} (ok:ZfY t) (hn:t.next<1000000) (o:Sat R (Zbz p t::Hs) w):
  Zg prog 73 #[nP p,nI tok] w λ v w'=>v=.agg (tdV (t.beginT tok).1 Yt).toArray/\Sat R (Zbz p (t.beginT tok).2::Hs) w':=by
 obtain ⟨m,bk,E,j,o⟩:=Sat.tb.1 o;have B:=ok.nx;have K:E.length=t.cl.length:=by rw [<-j,qa]
 apply ZvC;refine Za o λ b4 w o=>?_;have o:Sat R (MapAt m (E.map VD)::pts p (GX bk t.next m)::XS (E.map Xs)::Zp bk t.bk::GW b4::Hs) w:=by
  have o:Sat R (GW b4::pts p (GX bk t.next m)::MapAt m (E.map VD)::XS (E.map Xs)::Zp bk t.bk::Hs) w:=o;exact o.arr
 refine Zb.mk rfl ⟨some m,oA o,?_⟩;refine ZkW underlying126 o λ r w o=>?_;refine ⟨λ w=>∃ left:List (Int × Value),(∀ e∈E,e.2.tok=tok->VD e∈left)/\(∀ x∈left,x∈E.map VD)/\Sat R (ZfS r m (E.map VD) left::pts p (GX bk t.next m)::XS (E.map Xs)::Zp bk t.bk::GW b4::Hs) w,ZnJ r m,⟨_,λ e l _=>qm.2 ⟨e,l,rfl⟩,λ x G=>G,o⟩,?_⟩;clear o;rintro _ w ⟨left,q,H,o⟩;have I:=Zhf o;rcases Zk7 (P:=prog) (T:=0) o with ⟨rfl,z⟩|⟨a,k,v,b,w',rfl,z,J,i⟩
 ·refine ⟨w,.inl ⟨z,?_⟩⟩
  have U:t.cl.find? (λ c=>c.tok==tok)=none:=List.find?_eq_none.2 λ c Y h=>by
   rw [<-j] at Y;obtain ⟨e,l,rfl⟩:=qm.1 Y;have:=q e l (jh.1 h);cases this
  unfold Tb.beginT;rw [U];dsimp only;have o:=ZfS.map o;refine Zb.mk rfl ⟨some m,oA o,((E.map VD).length:Int),λ w' e=>?_,?_⟩
  ·rw [show w'=w from e]
   exact MapAt.len (by kernel_rfl) o
  rw [qa];refine Br.d (λ h=>?_) (λ h=>?_)
  ·rw [qf (by omega)]
   refine (YF (e:=3) o).u λ w o=>?_;refine ⟨3,0,0,Yt,rfl,?_⟩;have o:=o.m1.m4;exact Yw (τ:=XH 3) (s:=Yt) o λ w o=>⟨rfl,Sat.tb.2 ⟨m,bk,E,j,o⟩⟩
  rw [qc (by omega)];refine Zi o λ w o=>?_;refine Zb.mk rfl ⟨some m,oS,Zb.mk rfl ⟨t.next,oS,?_⟩⟩;refine Za o λ c w o=>⟨o.drop,?_⟩;obtain ⟨n,g⟩:=xx (⟨t.next,tok,0,[]⟩:Cl);have o:Sat R (pts c (WH n Yt)::MapAt m (E.map VD)::pts p (GX bk t.next m)::XS (E.map Xs)::Zp bk t.bk::GW b4::Hs) w:=by rw [g];exact o
  refine MapAt.put Zwt o.swap t.next (nP c) λ w o=>?_;have L:Gl t.next (nP c) (E.map VD)=(E++[(c,n)]).map VD:=by
   unfold Gl;have:ZL t.next (E.map VD)=none:=GL.2 λ x G=>by
    obtain ⟨e,l,rfl⟩:=qm.1 G;have:=(ok.each e.2 (by rw [<-j];exact qm.2 ⟨e,l,rfl⟩)).id;show e.2.id≠t.next;omega
   rw [this];simp [VD,g]
  rw [L] at o;have o:=o.m2;refine Zb.mk rfl ⟨t.next,oA o,Zb.mk rfl ?_⟩;rw [Zc];refine sRu o λ w o=>?_;have o:=o.re (pts p (GX bk (t.next + 1) m));refine Zb.mk rfl ⟨t.next + 1,oA o,?_⟩;rw [Zc,show t.next + 1 - 1=t.next by omega];have o:=o.m5;refine Yw (τ:=⟨0,t.next,0,[]⟩) (s:=Yt) o λ w o=>⟨rfl,?_⟩;refine Sat.tb.2 ⟨m,bk,E++[(c,n)],by rw [qe,j,g];rfl,?_⟩;refine o.cons λ _ h=>h.cons λ _ h=>?_;refine UH (A:=E) (C:=[])|>.2 ⟨Yt,?_⟩
  refine h.cons λ _ h=>?_;rw [show b8 (c,n).2.rep=[] by rw [g];rfl];refine Own.nil ?_;rw [jR,jl];exact h
 ·obtain ⟨e,l,M⟩:=qm.1 (H (k,v) (by simp))
  have hk:e.2.id=k:=qH Prod.fst M;have hv:Value.pointer (some ⟨e.1,0,none⟩)=v:=qH Prod.snd M;subst hk hv;have N:e.2∈t.cl:=by rw [<-j];exact qm.2 ⟨e,l,rfl⟩
  refine ⟨w',.inr ⟨_,_,z,e.2.id,some ⟨e.1,0,none⟩,λ w2 h2=>by rw [show w2=w' from h2];exact J,Zb.mk rfl ?_⟩⟩
  obtain ⟨A,C,O⟩:=j5 l;obtain ⟨s,hp⟩:∃ s:Sl,Sat R (pts e.1 (WH e.2 s)::Own s 5 (b8 e.2.rep)::XS (A.map Xs++C.map Xs)::ZfS r m (E.map VD) (a++b)::pts p (GX bk t.next m)::Zp bk t.bk::GW b4::Hs) w':=by
   have S:Sat R (XS (E.map Xs)::ZfS r m (E.map VD) (a++b)::pts p (GX bk t.next m)::Zp bk t.bk::GW b4::Hs) w':=i.arr;rw [O] at S;rw [O];exact UH.1 S
  refine ⟨e.2.tok,At.own (b:=e.1) (eqS hp) (by exact ⟨rfl,trivial⟩),Br.e (λ ht=>?_) (λ ht=>?_)⟩
  ·have i:=i.m4
   have V:t.cl.find? (λ c=>c.tok==tok)=some e.2:=by rw [<-ht];exact Zfw (f:=Cl.tok) ok.toks N
   unfold Tb.beginT;rw [V];refine Yw (τ:=⟨0,e.2.id,0,[]⟩) (s:=Yt) i λ w o=>⟨rfl,?_⟩;exact Sat.tb.2 ⟨m,bk,E,j,(ZfS.map o).swap⟩
  ·have D:=Zhf i
   refine ⟨⟨a++b,λ F Q W=>?_,λ x G=>H x ?_,i⟩,?_⟩
   ·have y:=q F Q W
    rcases qt.1 y with y|y
    ·exact qt.2 (.inl y)
    ·rcases qk.1 y with y|y
     ·have X:F.2.id=e.2.id:=show (VD F).1=(VD e).1 from qH Prod.fst y
      have:F.2=e.2:=by
       have k1:=Zfw (f:=Cl.id) ok.ids N;have k2:=Zfw (f:=Cl.id) ok.ids (c:=F.2) (by rw [<-j];exact qm.2 ⟨F,Q,rfl⟩);rw [X,k1] at k2;exact (jp k2).symm
      rw [this] at W;exact absurd W ht
     ·exact qt.2 (.inr y)
   ·rcases qt.1 G with y|y
    ·exact qt.2 (.inl y)
    ·exact qt.2 (.inr (qj _ y))
   ·rw [I,D]
    simp
def ZwH:Tb:=⟨1,[],Uv⟩
def Znh:ZfY ZwH:=⟨qG 1,λ _ h=>(by cases h),vS,vS,jB _,ZuV⟩
def Zgh (a:Sat R Hs w):Zg prog 22 #[] w λ v w'=>∃ p,v=nP p/\Sat R (Zbz p ZwH::Hs) w':=by
 apply Zwh;refine (ZoB a).u1 λ d w a=>?_;refine ⟨_,rfl,Za a λ m w a=>?_⟩;have a:=MapAt.new (α:=Int) rfl a;refine Za a λ p w a=>⟨p,rfl,Sat.tb.2 ⟨m,d,[],rfl,?_⟩⟩;exact a.cons λ _ h=>h.cons λ _ h=>Sat.star.2 h
def G6 {m:Int} {bs:List Int} (h:ZV bs):ZV (ZU m bs).1.cmd:=by
 unfold ZU;split
 ·exact (ZgK (Zo (Zo (Zo (Zo (rd:=⟨bs,false⟩) h))))).1
 ·intro y a
  cases a
def Zp6 {t:Tb} {E:List SE} (ok:ZfY t) (y:E.map Prod.snd=t.cl) {id:Int} {e:SE} (h:(E.find? λ e=>e.2.id==id)=some e):
  ∃ A C,E=A++e::C/\e.2.id=id/\(∀ x∈A,x.2.id≠id)/\(∀ x∈C,x.2.id≠id):=by
 have z:=List.mem_of_find?_eq_some h;have d:e.2.id=id:=jh.1 (List.find?_some (p:=λ e:SE=>e.2.id==id) h);obtain ⟨A,C,a⟩:=j5 z;have u:((A++e::C).map λ x:SE=>x.2.id).Nodup:=by
  have:=ok.ids;rw [<-y,qZ,a] at this;exact this
 rw [qe,qi,jQ] at u;obtain ⟨j,v,g⟩:=u;rw [j8] at v;refine ⟨A,C,a,d,λ x o i=>?_,λ x o i=>?_⟩
 ·exact g _ (qm.2 ⟨x,o,rfl⟩) _ qq (by rw [i,d])
 ·exact v.1 (qm.2 ⟨x,o,by rw [i,d]⟩)
def ZmX {A C:List SE} {b:Nat} {c d:Cl} (h:d.id=c.id) (a:∀ x∈A,x.2.id≠c.id) (o:∀ x∈C,x.2.id≠c.id):(A++(b,c)::C).map Prod.snd=VL c ((A++(b,d)::C).map Prod.snd):=by
 have key:∀ l:List SE,(∀ x∈l,x.2.id≠c.id)->VL c (l.map Prod.snd)=l.map Prod.snd:=λ l hl=>by
  unfold VL;rw [qZ];refine qP λ x i=>?_;show (if x.2.id==c.id then c else x.2)=x.2
  rw [qc (by simpa using hl x i)]
 have k1:=key A a;have k2:=key C o;unfold VL at *;rw [qe,qi,qe,qi,qe,qi,k1,k2]
 congr 2
 show c=if d.id==c.id then c else d
 rw [qf (by simpa using h)]
def Zoc {A C:List SE} {e:SE} {id:Int} (h:e.2.id=id) (i:∀ x∈A,x.2.id≠id) (u:∀ x∈C,x.2.id≠id):
  GT id ((A++e::C).map VD)=(A++C).map VD/\(A++C).map Prod.snd=((A++e::C).map Prod.snd).filter λ d=>d.id !=id:=by
 constructor
 ·rw [qe,qi,qe,show VD e=(id,xP (some ⟨e.1,0,none⟩)) by unfold VD;rw [h]]
  refine Ga (GL.2 λ x a=>?_) (by simp);obtain ⟨y,o,rfl⟩:=qm.1 a;exact i y o
 ·have key:∀ l:List SE,(∀ x∈l,x.2.id≠id)->(l.map Prod.snd).filter (λ d=>d.id !=id)=l.map Prod.snd:=λ l hl=>by
   refine jS.2 λ x a=>?_;obtain ⟨y,o,rfl⟩:=qm.1 a;simpa using hl y o
  rw [qe,qe,j4,qi,vy,qc (by simpa using h),key A i,key C u]
def Zcg {p:Nat} {t:Tb} {bs:List Int} {s:Sl} (ok:ZfY t) (hn:t.next<1000000) (F:ZV bs) (hl:bs.length<=1099511627776) (hs:Ro R s (b8 bs)) (o:Sat R (Zbz p t::Hs) w):
  Zg prog 23 #[nP p,.slice s.a s.len s.cap] w λ v w'=>
   ∃ x:Sl,v=.agg (tdV (t.applyT bs).1 x).toArray/\Sat R (Own x 5 (b8 (t.applyT bs).1.reply)::Zbz p (t.applyT bs).2::Hs) w':=by
 apply Zwg;refine Za o λ b4 w o=>?_;have o:Sat R (GW b4::Zbz p t::Hs) w:=o;refine (Zgq F hl hs o).use ?_;clear o;rintro _ w ⟨cs,rfl,o⟩;have H:=G6 (m:=mI) F;have J:=ZeQ (bs:=bs) F;have h0:(ZU mI bs).1.cmd.length<=4000:=by
  unfold ZU;split
  ·rename_i h
   exact h.2.cmd
  ·exact jB _
 have h2:(ZU mI bs).2=0\/(ZU mI bs).2=6:=by
  unfold ZU;split
  ·exact .inl rfl
  ·exact .inr rfl
 have hT:t.applyT bs=if (ZU mI bs).2≠0 then (XH (ZU mI bs).2,t) else t.askT (ZU mI bs).1:=rfl
 rw [hT];clear hT;generalize L:(ZU mI bs).1=q at *;generalize (ZU mI bs).2=e at *;clear L;obtain ⟨i,e1,g1,o⟩:=Own.leak o;have M:Ro i cs (b8 q.cmd):=g1.ro;refine ⟨q.kind,q.client,q.seq,q.token,cs,e,rfl,?_⟩;refine Za o λ b5 w o=>?_;refine sRu o λ w o=>?_;have o:=o.re (rqC b5 q cs);have o:=o.m1.m2;have fin:∀ {τ:Zkg} {x:Sl} {t2:Tb} {w:World},Sat i (Own x 5 (b8 τ.reply)::Zbz p t2::rqC b5 q cs::Hs) w->∃ y:Sl,Value.agg (tdV τ x).toArray=.agg (tdV τ y).toArray/\Sat R (Own y 5 (b8 τ.reply)::Zbz p t2::Hs) w:=λ {τ x t2 w} o=>
  ⟨x,rfl,e1.back (o.cons λ _ h=>h.cons λ _ h=>h.drop)⟩
 have ref:∀ {n:Int} {t2:Tb} {w:World},Sat i (Zbz p t2::rqC b5 q cs::Hs) w->∃ y:Sl,Value.agg (tdV (XH n) Yt).toArray=.agg (tdV (XH n) y).toArray/\Sat R (Own y 5 (b8 (XH n).reply)::Zbz p t2::Hs) w:=λ {n t2 w} o=>
  fin (τ:=XH n) (x:=Yt) (Own.nil o)
 refine Br.ne (λ h=>?_) (λ h=>?_)
 ·rw [qf h]
  refine (YF (e:=e) o).use ?_;clear o;rintro _ w ⟨rfl,o⟩;refine ⟨e,0,0,Yt,rfl,?_⟩;exact Yw (τ:=XH e) (s:=Yt) o.swap λ w o=>ref o
 rw [qc (by simpa using h)];have N:=J h;have hk:=N.kind;obtain ⟨q1,q2⟩:=N.client;obtain ⟨q3,q4⟩:=N.seq;unfold Tb.askT;refine ⟨q.kind,oA o,Br.e (λ k4=>?_) (λ k4=>?_)⟩
 ·rw [qf k4]
  refine (YF (e:=1) o).use ?_;clear o;rintro _ w ⟨rfl,o⟩;refine ⟨1,0,0,Yt,rfl,?_⟩;exact Yw (τ:=XH 1) (s:=Yt) o.swap λ w o=>ref o
 rw [qc k4];refine ⟨q.kind,oA o,Br.e (λ O=>?_) (λ O=>?_)⟩
 ·rw [qf O]
  refine ⟨q.token,oA o,?_⟩;refine (Zh2 (tok:=q.token) ok hn o).use ?_;clear o;rintro _ w ⟨rfl,o⟩;have hr:(t.beginT q.token).1.reply=[]:=by
   unfold Tb.beginT;split
   ·rfl
   ·split
    ·rfl
    ·rfl
  refine ⟨_,_,_,Yt,rfl,?_⟩;refine Yw (τ:=(t.beginT q.token).1) (s:=Yt) o.swap λ w o=>fin ?_;rw [hr];exact Own.nil o
 rw [qc O];obtain ⟨m,bk,E,l,o⟩:=Sat.tb.1 o;have h4:=ok.nx;refine Zi o λ w o=>?_;refine Zb.mk rfl ⟨some m,oS,q.client,oS,?_⟩;have g:t.cl.find? (λ c=>c.id==q.client)=(E.find? λ e=>e.2.id==q.client).map Prod.snd:=by rw [<-l];exact Zsj
 have I:=Zop (k:=q.client) (E:=E);cases Q:E.find? λ e=>e.2.id==q.client with
 |none=>
  rw [Q] at g I;rw [g];dsimp only [Option.map_none];refine ⟨none,false,λ w' h=>?_,?_⟩
  ·have:=MapAt.look Zwt h.swap q.client true
   rw [I] at this;exact this
  refine ⟨λ b w=>b=decide (1<=q.client/\q.client<t.next)/\Sat i (GW b4::pts p (GX bk t.next m)::MapAt m (E.map VD)::XS (E.map Xs)::Zp bk t.bk::rqC b5 q cs::Hs) w,?_,?_⟩
  ·refine Zi o λ w o=>?_
   refine Br.t rfl ⟨q.client,oS,Br.d (λ G=>?_) (λ G=>?_)⟩
   ·refine ⟨q.client,oS,Zb.mk rfl ⟨t.next,oS,?_,o.arr⟩⟩
    exact qJ.2 ⟨λ h=>⟨G,h⟩,λ h=>h.2⟩
   ·exact ⟨by rw [qz (by omega)],o.arr⟩
  clear o;rintro _ _ w ⟨rfl,o⟩;refine Br.d (λ G=>?_) (λ G=>?_)
  ·rw [qf G]
   refine (YF (e:=10) o).use ?_;clear o;rintro _ w ⟨rfl,o⟩;refine ⟨10,0,0,Yt,rfl,?_⟩;exact Yw (τ:=XH 10) (s:=Yt) o λ w o=>ref (Sat.tb.2 ⟨m,bk,E,l,o⟩)
  ·rw [qc G]
   refine Br.t rfl ?_;refine (YF (e:=2) o).use ?_;clear o;rintro _ w ⟨rfl,o⟩;refine ⟨2,0,0,Yt,rfl,?_⟩;exact Yw (τ:=XH 2) (s:=Yt) o λ w o=>ref (Sat.tb.2 ⟨m,bk,E,l,o⟩)
 |some e=>
  rw [Q] at g I;rw [g];dsimp only [Option.map_some];obtain ⟨A,C,u,r,T,P⟩:=Zp6 ok l Q;have U:e.2∈t.cl:=by rw [<-l,u];exact qm.2 ⟨e,by simp,rfl⟩
  have ec:=ok.each _ U;have ecl:=ec.last;have ecr:=ec.rep;refine ⟨some ⟨e.1,0,none⟩,true,λ w' h=>?_,?_⟩
  ·have:=MapAt.look Zwt h.swap q.client true
   rw [I] at this;exact this
  refine ⟨λ b w=>b=false/\Sat i (GW b4::pts p (GX bk t.next m)::MapAt m (E.map VD)::XS (E.map Xs)::Zp bk t.bk::rqC b5 q cs::Hs) w,?_,?_⟩
  ·refine Zi o λ w o=>?_
   exact Br.f rfl ⟨rfl,o.arr⟩
  clear o;rintro _ _ w ⟨rfl,o⟩;refine Br.f rfl (Br.f rfl ?_);refine ⟨q.kind,oA o,Br.e (λ V=>?_) (λ V=>?_)⟩
  ·rw [qf V]
   refine Zi o λ w o=>?_;refine Zb.mk rfl ⟨some m,oS,q.client,oS,?_⟩;have o:=o.m2;obtain ⟨d1,d2⟩:=Zoc r T P;refine MapAt.del Zwt o q.client λ w o=>?_;rw [u,d1] at o;refine ⟨q.client,oA o,?_⟩;have o:=o.b2;refine Yw (τ:=⟨0,q.client,0,[]⟩) (s:=Yt) o λ w o=>fin (τ:=⟨0,q.client,0,[]⟩) (x:=Yt) (Own.nil ?_);refine Sat.tb.2 ⟨m,bk,A++C,?_,?_⟩
   ·rw [d2,<-l,u]
   ·refine o.cons λ _ h=>h.cons λ _ h=>?_
    obtain ⟨_,h⟩:=UH.1 h;rw [qe];exact h.drop.drop
  rw [qc V];unfold Tb.doT;have W:∃ z:Sl,Sat i (pts e.1 (WH e.2 z)::Own z 5 (b8 e.2.rep)::XS (A.map Xs++C.map Xs)::GW b4::pts p (GX bk t.next m)::MapAt m (E.map VD)::Zp bk t.bk::rqC b5 q cs::Hs) w:=by
   have K:Sat i (XS (E.map Xs)::GW b4::pts p (GX bk t.next m)::MapAt m (E.map VD)::Zp bk t.bk::rqC b5 q cs::Hs) w:=o.arr;rw [u] at K ⊢;exact UH.1 K
  obtain ⟨z,o⟩:=W;have close:∀ {i:Cx} {b:Nat} {c:Cl} {x:Sl} {nb:ZF} {w:World},b=e.1->c.id=e.2.id->Sat i (pts b (WH c x)::Own x 5 (b8 c.rep)::XS (A.map Xs++C.map Xs)::pts p (GX bk t.next m)::MapAt m (E.map VD)::Zp bk nb::rqC b5 q cs::Hs) w->Sat i (Zbz p { t with bk:=nb,cl:=VL c t.cl }::rqC b5 q cs::Hs) w:=λ {i b c x nb w} F j o=>by
   refine Sat.tb.2 ⟨m,bk,A++(b,c)::C,?_,?_⟩
   ·rw [ZmX (d:=e.2) j.symm (λ x X=>by rw [j,r];exact T x X) (λ x X=>by rw [j,r];exact P x X),<-l,u,F]
   ·have hm:(A++(b,c)::C).map VD=E.map VD:=by
     rw [u,qe,qe,qi,qi];unfold VD;rw [F,j]
    rw [hm];have o:Sat i (pts b (WH c x)::Own x 5 (b8 c.rep)::XS (A.map Xs++C.map Xs)::pts p (GX bk t.next m)::MapAt m (E.map VD)::Zp bk nb::rqC b5 q cs::Hs) w:=o;have o:=UH (e:=(b,c)).2 ⟨x,o⟩;exact o.arr
  have same:∀ {i:Cx} {w:World},Sat i (pts e.1 (WH e.2 z)::Own z 5 (b8 e.2.rep)::XS (A.map Xs++C.map Xs)::pts p (GX bk t.next m)::MapAt m (E.map VD)::Zp bk t.bk::rqC b5 q cs::Hs) w->Sat i (Zbz p t::rqC b5 q cs::Hs) w:=λ {i w} o=>by
   refine Sat.tb.2 ⟨m,bk,E,l,?_⟩;have o:=UH.2 ⟨z,o⟩;rw [<-u] at o;exact o.arr
  refine Zi o λ w o=>?_;refine ⟨q.seq,oS,Zb.mk rfl ⟨e.2.last,oS,?_⟩⟩;rw [Zc];refine Br.d (λ Y=>?_) (λ Y=>?_)
  ·rw [qf Y]
   refine (YF (e:=7) o).use ?_;clear o;rintro _ w ⟨rfl,o⟩;refine ⟨7,0,0,Yt,rfl,?_⟩;have o:=o.m3;exact Yw (τ:=XH 7) (s:=Yt) o λ w o=>ref (same o)
  rw [qc Y];refine ⟨λ b w=>b=decide (q.seq<e.2.last\/q.seq=0)/\Sat i (pts e.1 (WH e.2 z)::Own z 5 (b8 e.2.rep)::XS (A.map Xs++C.map Xs)::GW b4::pts p (GX bk t.next m)::MapAt m (E.map VD)::Zp bk t.bk::rqC b5 q cs::Hs) w,?_,?_⟩
  ·refine Zi o λ w o=>?_
   refine ⟨q.seq,oS,Zb.mk rfl ⟨e.2.last,oS,Br.d (λ D=>?_) (λ D=>?_)⟩⟩
   ·exact ⟨by rw [qE (.inl D)],o⟩
   ·refine ⟨q.seq,oS,?_,o⟩
    rw [show (q.seq==0)=decide (q.seq=0) from rfl]
    exact qJ.2 ⟨λ h=>.inr h,λ h=>h.resolve_left D⟩
  clear o;rintro _ _ w ⟨rfl,o⟩;refine Br.d (λ D=>?_) (λ D=>?_)
  ·rw [qf D]
   refine (YF (e:=11) o).use ?_;clear o;rintro _ w ⟨rfl,o⟩;refine ⟨11,0,0,Yt,rfl,?_⟩;have o:=o.m3;exact Yw (τ:=XH 11) (s:=Yt) o λ w o=>ref (same o)
  rw [qc D];refine Zi o λ w o=>?_;refine ⟨q.seq,oS,Zb.mk rfl ⟨e.2.last,oS,Br.d (λ S=>?_) (λ S=>?_)⟩⟩
  ·rw [qf S]
   have o:=o.m6.m5.m7;refine Zj (Sat i [rqC b5 q cs,pts p (GX bk t.next m),VC.tru]) o (λ w o=>o.cons λ _ h=>h.restTru2) λ w o=>?_;refine ⟨q.seq,oS,cs,oS,Zb.mk rfl ⟨some ⟨bk,0,none⟩,by rw [Zs];exact oS,?_⟩⟩;have o:=o.m2;refine (Zn9 ok.bk H (by omega) M o).use ?_;clear o;rintro _ w ⟨x,rfl,o⟩;obtain ⟨o1,_,_⟩:=ZiT ok.bk H;have o:=o.b4.b4;refine ⟨x,rfl,o.cons λ _ h=>h.restTru2,Zb.mk rfl ?_⟩;refine sRu o λ w o=>?_;have o:=o.re (pts e.1 (WH { e.2 with last:=q.seq } z));have o:=o.b2;refine ⟨o.cons λ _ h=>h.restTru2,Zb.mk rfl ?_⟩;obtain ⟨c,j⟩:=xx ({ e.2 with last:=q.seq,rep:=(Ui t.bk q.cmd).1 }:Cl);refine sRu o λ w o=>?_;have o:=o.re (pts e.1 (WH c x)) (by rw [j];rfl);have o:Sat i (rqC b5 q cs::pts e.1 (WH c x)::Own x 5 (b8 c.rep)::pts p (GX bk t.next m)::Zp bk (Ui t.bk q.cmd).2::XS (A.map Xs++C.map Xs)::GW b4::MapAt m (E.map VD)::Hs) w:=by
    have o:=o.m1.m2.b3.m5;rw [j] at o ⊢;exact o.drop
   refine Zj (Sat i [rqC b5 q cs,pts e.1 (WH c x),VC.tru]) o (λ w o=>o.cons λ _ h=>h.restTru2) λ w o=>?_;refine ⟨q.client,oS,q.seq,oS,Zb.mk rfl ⟨x,oS,?_⟩⟩;have h5:c.rep.length<=65536:=by rw [j];exact o1
   have o:=o.m2;obtain ⟨R2,B,_,o,back⟩:=Own.lend o (by rw [qa];omega);refine (Gd B (by omega) o).use ?_;clear o;rintro _ w ⟨y,rfl,o⟩;have o:=back o;have o:=o.m3.m3;refine ⟨y,rfl,o.cons λ _ h=>h.restTru2,?_⟩;have o:=o.m3.m1.m5.m8.m6.m7.m7.m7.m8;refine Yw (τ:=⟨0,q.client,q.seq,c.rep⟩) (s:=y) o λ w o=>?_;have o:=o.m7;subst j;exact fin (τ:=⟨0,q.client,q.seq,(Ui t.bk q.cmd).1⟩) (x:=y) (o.cons λ _ h=>close rfl rfl h)
  ·rw [qc S]
   have o:=o.m5.m4.m4.m6.m6.m6.m6.m7;refine Zj (Sat i [rqC b5 q cs,pts e.1 (WH e.2 z),VC.tru]) o (λ w o=>o.cons λ _ h=>h.restTru2) λ w o=>?_;refine ⟨q.client,oS,q.seq,oS,Zb.mk rfl ⟨z,oS,?_⟩⟩;have o:=o.m2;obtain ⟨R2,B,_,o,back⟩:=Own.lend o (by rw [qa];omega);refine (Gd B (by omega) o).use ?_;clear o;rintro _ w ⟨y,rfl,o⟩;have o:=back o;have o:=o.m3.m3;refine ⟨y,rfl,o.cons λ _ h=>h.restTru2,?_⟩;have o:=o.m5.m8.m6.m7.m6.m6.m7.m8;exact Yw (τ:=⟨0,q.client,q.seq,e.2.rep⟩) (s:=y) o λ w o=>fin (τ:=⟨0,q.client,q.seq,e.2.rep⟩) (x:=y) (o.cons λ _ h=>same h)
def Zwu (tok:Int):Rq:=⟨1,0,0,tok,[]⟩
def Gg {tok:Int} (h:inI tok):Y4 (Zwu tok):=⟨⟨qG 0,by show (0:Int)<=1099511627776;omega⟩,⟨qG 0,by show (0:Int)<=1099511627776;omega⟩,h,by show 0<=4000;omega,.inl ⟨rfl,rfl,rfl,rfl⟩⟩
def Zmu {q:Rq} (h:Y4 q) (o:ZV q.cmd):ZV (rqB q):=by
 have i:=h.k4;obtain ⟨u,v⟩:=h.client;obtain ⟨z,g⟩:=h.seq;obtain ⟨j,k⟩:=h.token;have m:=h.cmd;intro y a;unfold rqB at a;rcases qt.1 a with a|a
 ·refine WX (l:=[q.kind,q.client,q.seq,q.token]) (λ x d=>?_) y a
  simp only [qk,qO,jP] at d;rcases d with rfl|rfl|rfl|rfl<;>omega
 ·unfold XI at a
  rcases qt.1 a with a|a
  ·exact Zip (n:=q.cmd.length) (by omega) y a
  ·exact o y a
def Zht {q:Rq} {s:Sl} (hs:Ro R s (b8 q.cmd)) (d:Sat R Hs w):
  Zg prog 24 #[.agg #[nI q.kind,nI q.client,nI q.seq,nI q.token,.slice s.a s.len s.cap]] w λ v w'=>∃ t:Sl,v=.slice t.a t.len t.cap/\Sat R (Own t 5 (b8 (ZqC q).1)::Hs) w':=by
 apply Zwf;refine Za d λ b w d=>?_;have d:Sat R (rqC b q s::Hs) w:=d;refine ⟨q.kind,q.client,q.seq,q.token,s,oA d,?_⟩;refine (Zmm hs d).u1 λ t w d=>?_;exact ⟨t,_,rfl,t,rfl,d.cons λ _ h=>h.drop⟩
def beg9:ZwH.applyT (rqB (Zwu 9))=(⟨0,1,0,[]⟩,⟨2,[⟨1,9,0,[]⟩],Uv⟩):=by
 unfold Tb.applyT;rw [ZkJ (Gg ⟨by omega,by omega⟩),qc (by simp)];rfl
def ZoL (a:Sat R Hs w):Zg prog 20 #[] w λ v w'=>v=.bool true/\Sat R Hs w':=by
 apply Zwj;refine (Zgh a).u1 λ p w a=>?_;refine ⟨_,rfl,Br.f rfl ?_⟩;have d:inI 9:=⟨by omega,by omega⟩;refine (Zht (q:=Zwu 9) (s:=Yt) ⟨rfl,by show 0<=9223372036854775807;omega,λ h=>absurd rfl h⟩ a).u1 λ t w a=>?_;have i:(ZqC (Zwu 9)).1=rqB (Zwu 9):=by unfold ZqC;rw [qf (Gg d)]
 rw [i] at a;have o:=Zrf (Gg d);obtain ⟨z,u,y,a⟩:=Own.leak a;refine ⟨t,rfl,?_⟩;refine (Zcg Znh (by show (1:Int)<1000000;omega) (Zmu (Gg d) (λ _ h=>by cases h)) (by omega) (y.ro) a).u1 λ x w a=>?_;rw [beg9] at a ⊢;refine ⟨0,1,0,x,rfl,?_⟩;refine Za a λ b w a=>?_;refine sRu a λ w a=>?_;have a:=a.re (tdC b ⟨0,1,0,[]⟩ x);refine ⟨0,oA a,Br.e (λ _=>?_) (λ h=>absurd rfl h)⟩;exact ⟨1,oA a,rfl,u.back a.drop.drop.drop⟩
abbrev sls (ps:List (Sl × List Int)):List Sl:=ps.map (·.1)
structure ZwC (R:Cx) (s:Sl) (ps:List (Sl × List Int)):Prop where
 rows:Ro R s ((sls ps).map Sl.v)
 each:∀ e∈ps,SlR R.m e.1 (b8 e.2)
 by':∀ e∈ps,ZV e.2
def ZwC.len {s:Sl} {ps:List (Sl × List Int)} (h:ZwC R s ps):s.len=ps.length:=by have:=h.rows.len;simpa using this
def Zir {s:Sl} {ps:List (Sl × List Int)} (h:ZwC R s ps) (o:Sat R Hs w):
  Zg prog 21 #[.slice s.a s.len s.cap] w λ v w'=>∃ b,v=.bool b/\(b=false->∀ k (hk:k<ps.length),k<200->ps[k].2.length<=10000)/\Sat R Hs w':=by
 have l:=h.len;apply Zwi;refine ⟨λ i w=>∃ k:Nat,i=k/\k<=200/\(∀ j (hj:j<ps.length),j<k->ps[j].2.length<=10000)/\Sat R Hs w,λ i _=>200 - i.toNat,⟨0,rfl,by omega,λ j _ hj=>by omega,o⟩,?_⟩;clear o;rintro _ _ w ⟨k,rfl,hk,u,o⟩
 with_reducible refine Br.d (λ m=>?_) (λ m=>?_)
 case refine_2=>exact ⟨false,rfl,λ _ j hj _=>u j hj (by omega),o⟩
 with_reducible refine Br.d (λ n=>?_) (λ n=>?_)
 case refine_2=>exact ⟨false,rfl,λ _ j hj g=>u j hj (by omega),o⟩
 have y:k<(sls ps).length:=by rw [qa];omega
 refine h.rows.idxS (eqS o) y ?_;have z:k<ps.length:=by omega
 have p:(sls ps)[k].len=ps[k].2.length:=by
  rw [qX];have:=(h.each _ (qh z)).len;rw [this,qa]
 with_reducible refine Br.d (λ g=>?_) (λ g=>?_)
 ·exact ⟨true,rfl,λ h=>(by cases h),o⟩
 rw [Zc];refine ⟨⟨k + 1,by omega,by omega,λ j hj q=>?_,o⟩,by dsimp only;omega⟩;by_cases e:j=k
 ·subst e;omega
 ·exact u j hj (by omega)
def ZlN (t:Tb):Prop:=(t.cl.map Cl.id).Pairwise λ a b=>a<b
def ZlN.apply {t:Tb} (k:ZfY t) (h:ZlN t) (bs:List Int):ZlN (t.applyT bs).2:=by
 unfold Tb.applyT;split
 ·exact h
 ·unfold Tb.askT
  split
  ·exact h
  ·split
   ·unfold Tb.beginT
    split
    ·exact h
    ·split
     ·exact h
     ·show ((t.cl++[_]).map Cl.id).Pairwise _
      rw [qe,ji];refine ⟨h,by simp,λ x a y d=>?_⟩;obtain ⟨c,o,rfl⟩:=qm.1 a;have:=(k.each c o).id.2;simp only [qi,jR,qK] at d;omega
   ·split
    ·split
     ·exact h
     ·exact h
    ·split
     ·exact List.Pairwise.sublist (vf.map Cl.id) h
     ·unfold Tb.doT
      split
      ·exact h
      ·split
       ·exact h
       ·split
        ·show ((VL _ t.cl).map Cl.id).Pairwise _
         rw [Zhy];exact h
        ·exact h
structure TbC (t:Tb):Prop where
 nx:1<=t.next
 each:∀ c∈t.cl,Zyl t.next c
 ids:(t.cl.map Cl.id).Nodup
 few:t.cl.length<=64
 core:Core t.bk
def ZfY.c {t:Tb} (k:ZfY t):TbC t:=⟨k.nx,k.each,k.ids,k.few,k.bk.core⟩
def clB (c:Cl):List Int:=Zf ([c.id,c.tok,c.last].map nn)++XI c.rep
def G4 (t:Tb):List Int:=Zf ([t.next,(t.cl.length:Int)].map nn)++(t.cl.map clB).flatten++XI (Gi t.bk)
def nnl {l:List Int} (h:∀ x∈l,x<9223372036854775808):(Zf (l.map nn)).length<=9 * l.length:=by
 have:=Zx (l:=l.map nn) λ y a=>by
  obtain ⟨x,d,rfl⟩:=qm.1 a;have:=ZcF (h x d);omega
 rwa [qa] at this
def ZfN {n:Int} {c:Cl} (h:Zyl n c) (o:n<=1099511627776):(clB c).length<=66000:=by
 have i:=h.id;have u:=h.tok;have v:=h.last;have y:=h.rep;have l1:=nnl (l:=[c.id,c.tok,c.last]) λ x a=>by
  simp only [qk,qO,jP] at a;rcases a with rfl|rfl|rfl<;>omega
 have l2:=Yr (d:=c.rep) (by omega);simp only [qr,qN] at l1;unfold clB;rw [qb];omega
def Zn4 {α:Type} {l:List α} {f:α->Int} (h:(l.map f).Nodup) {c:α} (o:c∈l):l.find? (λ d=>f d==f c)=some c:=by
 induction l with
 |nil=>cases o
 |cons x l ih=>
  rw [qi,j8] at h;rw [List.find?_cons];rcases qk.1 o with a|a
  ·subst a
   simp
  ·have:f x≠f c:=λ e=>h.1 (qm.2 ⟨c,a,e.symm⟩)
   rw [show (f x==f c)=false by simpa using this];exact ih h.2 a
def Zku {m:Nat} {t:Tb} {E:List SE} {K:Sl->xE} (k:TbC t) (n:ZlN t) (H:t.next<=1099511627776) (z:E.map Prod.snd=t.cl) (g:Sat R (MapAt m (E.map VD)::Hs) w)
  (p:∀ s w',Sat R (Own s 3 (Zd (t.cl.map Cl.id))::MapAt m (E.map VD)::Hs) w'->K s w'):
  nC 82 #[.map (some m)] w λ e q=>∃ t:Value,e=xR t/\nC 61 #[t] q λ e r=>∃ t:Sl,e=xR (.slice t.a t.len t.cap)/\K t r:=by
 have hk:(E.map VD).map (·.1)=t.cl.map Cl.id:=by
  rw [<-z,qZ,qZ];rfl
 obtain ⟨l,c,hs,u,f⟩:=MapAt.iff.1 g;obtain ⟨b,d,A,h⟩:=Zhe hs u (by rw [hk];exact k.ids) (λ i hi=>by
  rw [hk] at hi;obtain ⟨x,D,rfl⟩:=qm.1 hi;have:=(k.each x D).id;omega) (by have:=k.few;rw [<-z,qa] at this;rw [qa];omega) f.at
 refine (callsIn_wide.1 (Tryz.maps_Keys_82 (some m) w)).mono ?_;rintro _ _ ⟨rfl,rfl⟩;refine ⟨_,rfl,?_⟩;refine (callsIn_wide.1 (Tryz.slices_Sorted_keys_61_82 m _ b _ w d (by unfold maxLen;omega) (by omega))).mono ?_;rintro _ w' ⟨v,ss,rfl,hS,o,j,F⟩;have y:Sat R (MapAt m (E.map VD)::Hs) (w.alloc (.cells #[.map (some m)] 126)):=(Sat.alloc _ g).drop;obtain ⟨s,rfl,G⟩:=Sat.ownsRow y F o;refine ⟨s,rfl,p s _ ?_⟩;have e:=ZeM (uk hk) n;rw [<-VO (h ss hS)] at e;rw [<-e];exact G
def Zoq {j:Nat} {l:List Cl} (h:j<l.length):((l.take (j + 1)).map clB).flatten=((l.take j).map clB).flatten++clB l[j]:=by
 rw [qp,List.getElem?_eq_getElem h,qe,ja];simp
def Zmr {t:Tb} (k:TbC t) (a:t.next<=1099511627776):(G4 t).length<=5000000:=by
 have knx:=k.nx;have kfew:=k.few;have a5:=YT (l:=t.cl) (code:=clB) (m:=66000) λ c o=>ZfN (k.each c o) a;have i:=ut 66000 kfew;have l1:=nnl (l:=[t.next,(t.cl.length:Int)]) λ x h=>by
  simp only [qk,qO,jP] at h;rcases h with rfl|rfl<;>omega
 have u:=Zcf k.core;have l5:=Yr (d:=Gi t.bk) (by omega);simp only [qr,qN] at l1;unfold G4;simp only [qb];omega
def Zkt {p:Nat} {t:Tb} (k:TbC t) (hr:ZlN t) (hn:t.next<=1099511627776) (u:Sat R (Zbz p t::Hs) w):
  Zg prog 26 #[nP p] w λ v w'=>∃ s:Sl,v=.slice s.a s.len s.cap/\Sat R (Own s 5 (b8 (G4 t))::Zbz p t::Hs) w':=by
 apply Zwe
 suffices H:∀ K:Value->xE,(∀ (s:Sl) w',Sat R (Own s 5 (b8 (G4 t))::Zbz p t::Hs) w'->K (.slice s.a s.len s.cap) w')->B26 (some ⟨p,0,none⟩) K w from H _ λ t w' h=>⟨t,rfl,h⟩
 intro K hK;have knx:=k.nx;have kfew:=k.few;obtain ⟨m,bk,E,J,u⟩:=Sat.tb.1 u;have U:E.length=t.cl.length:=by rw [<-J,qa]
 have V:(E.map λ e:SE=>e.2.id).Nodup:=by
  have:=k.ids;rw [<-J,qZ] at this;exact this
 have a5:∀ j,(((t.cl.take j).map clB).flatten).length<=66000 * 64:=λ j=>by
  have:=YT (l:=t.cl.take j) (code:=clB) (m:=66000) λ c hc=>ZfN (k.each c (qw hc)) hn;rw [qd] at this;have h2:min j t.cl.length<=64:=by omega
  have:=ut 66000 h2;omega
 have u:Sat R (pts p (GX bk t.next m)::MapAt m (E.map VD)::XS (E.map Xs)::Zp bk t.bk::Hs) w:=u;have toS:∀ {A:List HP} {R:Cx} {w:World},Sat R (pts p (GX bk t.next m)::MapAt m (E.map VD)::A) w->Sat R [pts p (GX bk t.next m),MapAt m (E.map VD),VC.tru] w:=λ h=>h.cons λ _ h=>h.restTru2;refine Zj (Sat R [pts p (GX bk t.next m),MapAt m (E.map VD),VC.tru]) u (λ w u=>toS u) λ w u=>?_;refine Zb.mk rfl ⟨t.next,oS,Zb.mk rfl ⟨some m,oS,((E.map VD).length:Int),λ w' h=>MapAt.len (by kernel_rfl) h.swap,?_⟩⟩;rw [qa,U];refine Za u λ h4 w u=>⟨?_,?_⟩
 ·exact toS u.drop
 refine (Zcb (xs:=[t.next,(t.cl.length:Int)]) rfl (λ x q=>by
  simp only [qk,qO,jP] at q;rcases q with rfl|rfl<;>omega) (by simp) u).u1 λ s1 w u=>?_
 refine ⟨s1,rfl,toS u.drop,?_⟩;obtain ⟨z,r⟩:=xx (Zf ([t.next,(t.cl.length:Int)].map nn));have h5:z.length<=18:=by
  rw [r];exact nnl (l:=[t.next,(t.cl.length:Int)]) λ x q=>by
   simp only [qk,qO,jP] at q;rcases q with rfl|rfl<;>omega
 have W:G4 t=z++(t.cl.map clB).flatten++XI (Gi t.bk):=by rw [r];rfl
 rw [<-r] at u;refine Zb.mk rfl ⟨some m,oA u,?_⟩;have u:=u.m2;refine Zku k hr hn J u ?_;clear u;intro s w u;obtain ⟨G,b⟩:=xx (E.map VD);obtain ⟨nums,y⟩:=xx (t.cl.map Cl.id);have h6:nums.length=t.cl.length:=by rw [y,qa]
 rw [<-b,<-y] at u;have X:=Own.len u;rw [qa] at X;have u:=u.b2.b3;refine ⟨λ o i w=>∃ j:Nat,i=j/\j<=t.cl.length/\Sat R (Own o 5 (b8 (z++((t.cl.take j).map clB).flatten))::Own s 3 (Zd nums)::pts p (GX bk t.next m)::MapAt m G::XS (E.map Xs)::Zp bk t.bk::Hs) w,
  λ _ i _=>t.cl.length - i.toNat,⟨0,rfl,by omega,by simpa using u⟩,?_⟩
 clear u;rintro _ o _ w ⟨j,rfl,hj,u⟩;have h7:=a5 j;refine Br.d (λ h=>?_) (λ h=>?_)
 ·have L:j<t.cl.length:=by omega
  have h8:j<E.length:=by omega
  obtain ⟨e,he⟩:=xx (E[j]);have D:t.cl[j]=e.2:=by
   rw [he];have:t.cl[j]? =(E.map Prod.snd)[j]?:=by rw [J]
   rw [List.getElem?_eq_getElem L,List.getElem?_eq_getElem (by rw [qa];omega),qX] at this;exact jp this
  have N:e∈E:=by rw [he];exact qh _
  have Y:e.2∈t.cl:=by rw [<-D];exact qh _
  have S:nums[j]'(by omega)=e.2.id:=by subst y;rw [qX,D]
  have g:=k.each _ Y;have c1:=g.id;have c2:=g.tok;have c3:=g.last;have c4:=g.rep;obtain ⟨A,C,O⟩:=j5 N;have B:ZL e.2.id G=some (xP (some ⟨e.1,0,none⟩)):=by
   rw [b,Zop,Zn4 (f:=λ e:SE=>e.2.id) V N];rfl
  have F:Sat R (Own s 3 (Zd nums)::Own o 5 (b8 (z++((t.cl.take j).map clB).flatten))::pts p (GX bk t.next m)::MapAt m G::XS (E.map Xs)::Zp bk t.bk::Hs) w:=u.swap;refine Own.ix F (eqS F) j rfl (by omega) ?_;rw [S];refine Zb.mk rfl ⟨some m,oA u,some ⟨e.1,0,none⟩,λ w' e2=>?_,?_⟩
  ·rw [show w'=w from e2]
   have T:Sat R (MapAt m G::Own s 3 (Zd nums)::Own o 5 (b8 (z++((t.cl.take j).map clB).flatten))::pts p (GX bk t.next m)::XS (E.map Xs)::Zp bk t.bk::Hs) w:=u.arr;have:=MapAt.look Zwt T e.2.id false;rw [B] at this;exact this
  clear F;obtain ⟨I,u⟩:∃ I:Sl,Sat R (pts e.1 (WH e.2 I)::Own I 5 (b8 e.2.rep)::XS (A.map Xs++C.map Xs)::Own o 5 (b8 (z++((t.cl.take j).map clB).flatten))::Own s 3 (Zd nums)::pts p (GX bk t.next m)::MapAt m G::Zp bk t.bk::Hs) w:=by
   have h3:Sat R (XS (E.map Xs)::Own o 5 (b8 (z++((t.cl.take j).map clB).flatten))::Own s 3 (Zd nums)::pts p (GX bk t.next m)::MapAt m G::Zp bk t.bk::Hs) w:=u.arr;rw [O] at h3;exact UH.1 h3
  refine Zj (Sat R [pts e.1 (WH e.2 I),VC.tru]) u (λ w u=>u.restTru2) λ w u=>?_;refine Zb.mk rfl ⟨e.2.tok,by rw [Zs];exact oS,Zb.mk rfl ⟨e.2.last,oS,?_⟩⟩;refine Za u λ h9 w u=>?_;have Q:∀ x∈[e.2.id,e.2.tok,e.2.last],x<9223372036854775808:=λ x q=>by
   simp only [qk,qO,jP] at q;rcases q with rfl|rfl|rfl<;>omega
  refine (Zcb (xs:=[e.2.id,e.2.tok,e.2.last]) rfl Q (by simp) u).u1 λ s2 w u=>?_;refine ⟨s2,rfl,u.drop.restTru2,?_⟩;have l3:=nnl Q;simp only [qr,qN] at l3;have u:=u.m4.m1;refine ZfX (by rw [qb];omega) u λ o2 w u=>?_;have u:=u.b2;refine ⟨u.restTru2,Zb.mk rfl ⟨I,oA u,?_⟩⟩;obtain ⟨R2,P,_,u,back⟩:=Own.lend u.swap (by rw [qa];omega);refine (U6 P (by omega) u).u1 λ s3 w u=>?_;have u:=back u;have l4:=Yr (d:=e.2.rep) (by omega);refine ⟨s3,rfl,?_⟩;have u:=u.m2.m3.m3;refine ZfX (by simp only [qb];omega) u λ o3 w u=>?_;rw [Zc (x:=(j:Int) + 1)];refine ⟨⟨j + 1,by omega,by omega,?_⟩,by dsimp only;omega⟩;have ebs:z++((t.cl.take j).map clB).flatten++Zf ([e.2.id,e.2.tok,e.2.last].map nn)++XI e.2.rep=z++((t.cl.take (j + 1)).map clB).flatten:=by
   rw [Zoq L,D];unfold clB;simp only [qn]
  rw [ebs] at u;have u:=u.b3;have u:=UH.2 ⟨I,u⟩;rw [<-O] at u;exact u.arr
 ·refine Zb.mk rfl ⟨some ⟨bk,0,none⟩,by rw [Zs];exact oA u,?_⟩
  have u:=u.m5;refine (ZlC k.core u).u1 λ s4 w u=>?_;have h1:=Zcf k.core;refine ⟨s4,rfl,?_⟩;obtain ⟨R2,P,_,u,back⟩:=Own.lend u (by rw [qa];omega);refine (U6 P (by omega) u).u1 λ s5 w u=>?_;have u:=(back u).drop;have l5:=Yr (d:=Gi t.bk) (by omega);refine ⟨s5,rfl,?_⟩;have u:=u.m1.b6;refine ZfX (by rw [qb];omega) u λ o2 w u=>?_;rw [qg (by omega),<-W] at u;rw [b] at u;refine hK _ _ (u.cons λ _ h=>Sat.tb.2 ⟨m,bk,E,J,?_⟩);have h:=h.drop;exact h
end
end Go.Proofs.YtlplemdmegpoeaaGreatDoor




namespace Go.Proofs.YtlplemdmegpoeaaGreatDoor
section
open Go Go.VC Tryz
open Classical
variable {R:Cx} {Hs Rest:List HP} {w:World}
abbrev seT:TypeId:=66
abbrev CE:=Cl × Sl
def seV (e:CE):List Value:=[nI e.1.id,nI e.1.tok,nI e.1.last,.slice e.2.a e.2.len e.2.cap]
abbrev Vx (next:Int) (sl:Sl) (bp:xA):Obj:=.cells [nI next,.slice sl.a sl.len sl.cap,xP bp].toArray 64 (0,0)
def XK (e:CE):HP:=Own e.2 5 (b8 e.1.rep)
abbrev RTO (p:Nat) (next:Int) (sl:Sl) (bp:xA) (E:List CE) (Hs:List HP):List HP:=pts p (Vx next sl bp)::Zn 4 sl seT (E.map seV)::XS (E.map XK)::Hs
def XN (p:Nat) (t:Tb):HP:=exs λ sl:Sl=>exs λ bk:Nat=>exs λ E:List CE=>XS [pur (E.map Prod.fst=t.cl),pts p (Vx t.next sl (some ⟨bk,0,none⟩)),Zn 4 sl seT (E.map seV),XS (E.map XK),Zk bk t.bk]
def Sat.rtb {p:Nat} {t:Tb}:Sat R (XN p t::Hs) w↔∃ sl bk,∃ E:List CE,E.map Prod.fst=t.cl/\Sat R (RTO p t.next sl (some ⟨bk,0,none⟩) E (Zk bk t.bk::Hs)) w:=by
 unfold XN;simp only [Sat.exs];constructor
 ·rintro ⟨sl,b,E,h⟩
  obtain ⟨a,d⟩:=Sat.pur.1 (Sat.star.1 h);exact ⟨sl,b,E,a,d⟩
 ·rintro ⟨sl,b,E,a,d⟩
  exact ⟨sl,b,E,Sat.star.2 (Sat.pur.2 ⟨a,d⟩)⟩
def Zx9:ElN prog 62 62 seT 4 48:=⟨underlying62,⟨_,underlying62⟩,by kernel_rfl⟩
abbrev seC (b:Nat) (e:CE):HP:=pts b (.cells (seV e).toArray seT (0,0))
def Zme {A:List HP} {B:HP}:Sat R (XS (A++[B])::Hs) w↔Sat R (B::XS A::Hs) w:=by
 have:=ZaE (R:=R) (Hs:=Hs) (w:=w) (A:=B) (B:=A) (C:=[]);rw [jl] at this;exact this
end
section
open Go Go.VC Tryz
open Classical
variable {R:Cx} {Hs Rest:List HP} {w:World} {p:Nat}
def Zih (a:Sat R Hs w):Zg prog 29 #[] w λ v w'=>∃ p,v=nP p/\Sat R (XN p ZwH::Hs) w':=by
 apply Zwb;refine (Zii a).u1 λ bk w a=>?_;refine ⟨_,rfl,?_⟩;refine Za a λ p w a=>⟨p,rfl,Sat.rtb.2 ⟨Yt,bk,[],rfl,?_⟩⟩;have a:Sat R (pts p (Vx 1 Yt (some ⟨bk,0,none⟩))::Zk bk Uv::Hs) w:=a;refine a.cons λ _ h=>Zn.nil ?_;show Sat _ (XS []::_) _;exact Sat.star.2 h
def Zcm {next:Int} {sl:Sl} {a:Option Addr} {E:List CE} (d:Sat R (RTO p next sl a E Hs) w):sl.len=E.length:=by
 have h:=Zn.len d.swap;rwa [qa] at h
def ZgM {next:Int} {sl:Sl} {q:Option Addr} {E:List CE} {id:Int} (hl:E.length<=1000) (u:Sat R (RTO p next sl q E Hs) w):
  Zg prog 86 #[nP p,nI id] w λ v w'=>(∃ i:Int,v=nI i/\((i=-1/\(E.map Prod.fst).find? (λ c=>c.id==id)=none)\/∃ A e C,i=(A.length:Nat)/\E=A++e::C/\e.1.id=id/\(E.map Prod.fst).find? (λ c=>c.id==id)=some e.1))/\Sat R (RTO p next sl q E Hs) w':=by
 apply Zvs;have r:=Zcm u;refine ⟨λ i w=>∃ k:Nat,i=k/\k<=E.length/\(∀ x∈E.take k,x.1.id≠id)/\Sat R (RTO p next sl q E Hs) w,λ i _=>E.length - i.toNat,⟨0,rfl,by omega,by simp,u⟩,?_⟩;clear u;rintro _ _ w ⟨k,rfl,hk,j,u⟩;have o:(E.take k).map Prod.fst|>.find? (λ c=>c.id==id)|>(·=none):=by
  refine List.find?_eq_none.2 λ c t=>?_;obtain ⟨x,y,rfl⟩:=qm.1 t;simpa using j x y
 refine Zb.mk rfl ⟨sl,oA u,Br.d (λ h=>?_) (λ h=>?_)⟩
 ·have z:k<E.length:=by omega
  refine Zb.mk rfl ⟨sl,oA u,?_⟩;refine (Zn.readsM (n:=4) (s:=sl) (T:=seT) (rows:=E.map seV) u (eqS u)).rngM (E:=E) (g:=seV) z λ a _ f=>?_;refine ⟨E[k].1.id,f.zz (by exact ⟨rfl,trivial⟩),Br.e (λ m=>?_) (λ m=>?_)⟩
  ·have l:E=E.take k++E[k]::E.drop (k + 1):=by
    conv=>lhs;rw [<-qD k E,qv z]
   refine ⟨⟨k,rfl,.inr ⟨E.take k,E[k],E.drop (k + 1),by rw [qd];omega,l,m,?_⟩⟩,u⟩;have e:E.map Prod.fst=(E.take k).map Prod.fst++E[k].1::(E.drop (k + 1)).map Prod.fst:=by
    conv=>lhs;rw [l]
    rw [qe,qi]
   rw [e,List.find?_append,o,Option.none_or,List.find?_cons_of_pos (by simpa using m)]
  ·rw [Zc]
   refine ⟨⟨k + 1,by omega,by omega,λ x y=>?_,u⟩,by dsimp only;omega⟩;rw [qp,List.getElem?_eq_getElem z] at y;rcases qt.1 y with y|y
   ·exact j x y
   ·rw [show x=E[k] by simpa using y];exact m
 ·rw [qg (by omega)] at o
  exact ⟨⟨-1,rfl,.inl ⟨rfl,o⟩⟩,u⟩
def ZgN {t:Tb} {q:Rq} {s:Sl} (ok:ZfY t) (V:t.next<1000000) (o:Sat R (XN p t::Hs) w):
  Zg prog 85 #[nP p,.agg (rqV q s).toArray] w λ v w'=>v=.agg (tdV (t.beginT q.token).1 Yt).toArray/\Sat R (XN p (t.beginT q.token).2::Hs) w':=by
 have N:=ok.nx;have L:=ok.few;apply Zvt
 suffices H:∀ K:Value->xE,(∀ w',Sat R (XN p (t.beginT q.token).2::Hs) w'->K (.agg (tdV (t.beginT q.token).1 Yt).toArray) w')->B85 (some ⟨p,0,none⟩) q.kind q.client q.seq q.token s K w from H _ λ w' h=>⟨rfl,h⟩
 intro K hK;refine Za o λ b3 w o=>Za o λ b4 w o=>?_;obtain ⟨sl,bk,E,j,o⟩:=Sat.rtb.1 (show Sat R (XN p t::tdC b4 (XH 0) Yt::rqC b3 q s::Hs) w from Sat.arr (show Sat R (tdC b4 (XH 0) Yt::rqC b3 q s::XN p t::Hs) w from o))
 have M:=Zcm o;have O:E.length=t.cl.length:=by rw [<-j,qa]
 have o:=o.m5.m5;have close:∀ {w:World},Sat R (rqC b3 q s::RTO p t.next sl (some ⟨bk,0,none⟩) E (Zk bk t.bk::Hs)) w->Sat R (XN p t::Hs) w:=λ o=>Sat.rtb.2 ⟨sl,bk,E,j,o.drop⟩;refine ⟨λ i w=>∃ k:Nat,i=k/\k<=E.length/\(∀ x∈E.take k,x.1.tok≠q.token)/\Sat R (tdC b4 (XH 0) Yt::rqC b3 q s::RTO p t.next sl (some ⟨bk,0,none⟩) E (Zk bk t.bk::Hs)) w,λ i _=>E.length - i.toNat,⟨0,rfl,by omega,by simp,o⟩,?_⟩;clear o;rintro _ _ w ⟨k,rfl,hk,l,o⟩;have u:((E.take k).map Prod.fst).find? (λ c=>c.tok==q.token)=none:=by
  refine List.find?_eq_none.2 λ c m=>?_;obtain ⟨x,z,rfl⟩:=qm.1 m;simpa using l x z
 refine Zb.mk rfl ⟨sl,oA o,Br.d (λ h=>?_) (λ h=>?_)⟩
 ·have y:k<E.length:=by omega
  refine Zi o λ w o=>Zb.mk rfl ⟨sl,oS,?_⟩;refine (Zn.readsM (n:=4) (s:=sl) (T:=seT) (rows:=E.map seV) o (λ w h=>h)).rngM (E:=E) (g:=seV) y λ a _ G=>?_;refine ⟨E[k].1.tok,G.f 1 (by exact ⟨rfl,trivial⟩),q.token,oS,Br.e (λ I=>?_) (λ I=>?_)⟩
  ·refine Zb.mk rfl ⟨sl,oA o,?_⟩
   refine (Zn.readsM (n:=4) (s:=sl) (T:=seT) (rows:=E.map seV) o (eqS o)).rngM (E:=E) (g:=seV) y λ a _ G=>?_;refine ⟨E[k].1.id,G.zz (by exact ⟨rfl,trivial⟩),?_⟩;have J:E=E.take k++E[k]::E.drop (k + 1):=by
    conv=>lhs;rw [<-qD k E,qv y]
   have Q:t.cl.find? (λ c=>c.tok==q.token)=some E[k].1:=by
    have e:E.map Prod.fst=(E.take k).map Prod.fst++E[k].1::(E.drop (k + 1)).map Prod.fst:=by
     conv=>lhs;rw [J]
     rw [qe,qi]
    rw [<-j,e,List.find?_append,u,Option.none_or,List.find?_cons_of_pos (by simpa using I)]
   have r:t.beginT q.token=(⟨0,E[k].1.id,0,[]⟩,t):=by unfold Tb.beginT;rw [Q]
   rw [r] at hK;exact Yw (τ:=⟨0,E[k].1.id,0,[]⟩) (s:=Yt) o λ w o=>hK w (close o)
  ·rw [Zc]
   refine ⟨⟨k + 1,by omega,by omega,λ x z=>?_,o⟩,by dsimp only;omega⟩;rw [qp,List.getElem?_eq_getElem y] at z;rcases qt.1 z with z|z
   ·exact l x z
   ·rw [show x=E[k] by simpa using z];exact I
 ·rw [qg (by omega),j] at u
  refine Zb.mk rfl ⟨sl,oA o,Br.d (λ U=>?_) (λ U=>?_)⟩
  ·have r:t.beginT q.token=(XH 3,t):=by unfold Tb.beginT;rw [u];exact qf (by omega)
   rw [r] at hK;exact Yw (τ:=XH 3) (s:=Yt) o λ w o=>hK w (close o)
  ·have r:t.beginT q.token=(⟨0,t.next,0,[]⟩,{ t with next:=t.next + 1,cl:=t.cl++[⟨t.next,q.token,0,[]⟩] }):=by unfold Tb.beginT;rw [u];exact qc (by omega)
   rw [r] at hK;obtain ⟨c,m⟩:=xx (⟨t.next,q.token,0,[]⟩:Cl);refine Zj (Sat R [pts p (Vx t.next sl (some ⟨bk,0,none⟩)),rqC b3 q s,VC.tru]) o (λ w o=>Sat.two o) λ w o=>?_;refine Zb.mk rfl ⟨sl,oS,Zb.mk rfl ⟨t.next,oS,q.token,oS,?_⟩⟩;refine Za o λ A w o=>⟨Sat.two o,?_⟩;have o:Sat R (seC A (c,Yt)::tdC b4 (XH 0) Yt::rqC b3 q s::RTO p t.next sl (some ⟨bk,0,none⟩) E (Zk bk t.bk::Hs)) w:=by rw [m];exact o
   have o:=o.m4;refine ZY (ys:=[seV (c,Yt)]) Zx9 o (Gh ⟨_,underlying62⟩ (b:=A) 1 o rfl rfl) (Wid.one rfl) (by rw [qT,qa];omega) (by rw [qT,qa];omega) λ D w o=>⟨Sat.two o,Zb.mk rfl ?_⟩;have o:=o.m1.m4;refine sRu o λ w o=>?_;have o:=o.re (pts p (Vx t.next D (some ⟨bk,0,none⟩)));refine Zb.mk rfl ⟨t.next,oA o,Zb.mk rfl ?_⟩;rw [Zs,Zc];refine sRu o λ w o=>?_;have o:=o.re (pts p (Vx (t.next + 1) D (some ⟨bk,0,none⟩)));refine Zb.mk rfl ⟨t.next + 1,oA o,?_⟩;rw [Zc,show t.next + 1 - 1=t.next by omega];have o:=o.b5.b2.b5;refine Yw (τ:=⟨0,t.next,0,[]⟩) (s:=Yt) o λ w o=>hK w (Sat.rtb.2 ⟨D,bk,E++[(c,Yt)],?_,?_⟩)
   ·rw [qe,j,m]
    rfl
   ·have o:=o.drop.drop
    have o:Sat R (XK (c,Yt)::XS (E.map XK)::pts p (Vx (t.next + 1) D (some ⟨bk,0,none⟩))::Zn 4 D seT (E.map seV++[seV (c,Yt)])::Zk bk t.bk::Hs) w:=by
     have F:c.rep=[]:=by rw [m]
     show Sat R (Own Yt 5 (b8 c.rep)::_) w;rw [F];exact Own.nil o
    have o:=Zme.2 o;have e1:E.map seV++[seV (c,Yt)]=(E++[(c,Yt)]).map seV:=by rw [qe];rfl
    have e2:E.map XK++[XK (c,Yt)]=(E++[(c,Yt)]).map XK:=by rw [qe];rfl
    rw [e1,e2] at o;exact o.arr
def Xz (R:Cx) (Hs:List HP) (p:Nat) (rep:List Int) (t':Tb) (s:Sl) (w:nW):Prop:=
 ∃ (R':Cx) (Ks:List HP),(∀ s' xs',Ro R s' xs'->Ro R' s' xs')/\Ro R' s (b8 rep)/\Sat R' (Ks++Hs) w/\∀ (Hs':List HP) (w':World),Sat R' (Ks++Hs') w'->Sat R (XN p t'::Hs') w'
def Xz.nil {t':Tb} (a:Sat R (XN p t'::Hs) w):Xz R Hs p [] t' Yt w:=
 ⟨R,[XN p t'],λ _ _ h=>h,⟨rfl,by show 0<=9223372036854775807;omega,λ h=>absurd rfl h⟩,a,λ _ _ h=>h⟩
def Xz.ext {d:Cx} {rep:List Int} {t':Tb} {s:Sl} (e:R.Ext d) (h:Xz d Hs p rep t' s w):Xz R Hs p rep t' s w:=by
 obtain ⟨R',o,i,u,v,y⟩:=h;exact ⟨R',o,λ z a h=>i z a (e.ro h),u,v,λ Hs' w' h=>e.back (y Hs' w' h)⟩
def Xz.drop {A:HP} {rep:List Int} {t':Tb} {s:Sl} (h:Xz R (A::Hs) p rep t' s w):Xz R Hs p rep t' s w:=by
 obtain ⟨R',a,d,o,i,u⟩:=h;exact ⟨R',a,d,o,(i.perm qY).drop,u⟩
def Xz.own {t':Tb} {sl s:Sl} {bk:Nat} {A C:List CE} {c:Cl} (hl:c.rep.length<=1000000) (d:(A++(c,s)::C).map Prod.fst=t'.cl) (a:Sat R (RTO p t'.next sl (some ⟨bk,0,none⟩) (A++(c,s)::C) (Zk bk t'.bk::Hs)) w):Xz R Hs p c.rep t' s w:=by
 have e:(A++(c,s)::C).map XK=A.map XK++Own s 5 (b8 c.rep)::C.map XK:=by
  rw [qe,qi];rfl
 have a:=a.m2;rw [e] at a;obtain ⟨R',o,i,a,back⟩:=Own.lend (ZaE.1 a) (by rw [qa];omega);refine ⟨R',[XS (A.map XK++C.map XK),pts p (Vx t'.next sl (some ⟨bk,0,none⟩)),Zn 4 sl seT ((A++(c,s)::C).map seV),Zk bk t'.bk],i,o,a,λ Hs' w' h=>?_⟩;have h:=ZaE.2 (back h);rw [<-e] at h;have h:Sat R (XS ((A++(c,s)::C).map XK)::pts p (Vx t'.next sl (some ⟨bk,0,none⟩))::Zn 4 sl seT ((A++(c,s)::C).map seV)::Zk bk t'.bk::Hs') w':=h;exact Sat.rtb.2 ⟨sl,bk,_,d,h.arr⟩
def ZqQ {A C:List CE} {e:CE} (d:(((A++e::C).map Prod.fst).map Cl.id).Nodup):(∀ x∈A,x.1.id≠e.1.id)/\(∀ x∈C,x.1.id≠e.1.id):=by
 rw [qZ,qe,qi,jQ] at d;obtain ⟨u,o,i⟩:=d;rw [j8] at o;refine ⟨λ x h a=>?_,λ x h a=>?_⟩
 ·exact i _ (qm.2 ⟨x,h,rfl⟩) _ qq a
 ·exact o.1 (qm.2 ⟨x,h,a⟩)
def Zp7 {A C:List CE} {e:CE} {c:Cl} {x:Sl} (h:c.id=e.1.id) (a:(((A++e::C).map Prod.fst).map Cl.id).Nodup):(A++(c,x)::C).map Prod.fst=VL c ((A++e::C).map Prod.fst):=by
 obtain ⟨d,o⟩:=ZqQ a;have key:∀ l:List CE,(∀ x∈l,x.1.id≠e.1.id)->VL c (l.map Prod.fst)=l.map Prod.fst:=λ l hl=>by
  unfold VL;rw [qZ];refine qP λ x i=>?_;show (if x.1.id==c.id then c else x.1)=x.1
  rw [qc (by rw [h];simpa using hl x i)]
 have k1:=key A d;have k2:=key C o;unfold VL at *;rw [qe,qi,qe,qi,qe,qi,k1,k2]
 congr 2
 show c=if e.1.id==c.id then c else e.1
 rw [qf (by simp [h])]
def Zvc {A C:List CE} {e:CE} (h:(((A++e::C).map Prod.fst).map Cl.id).Nodup):(A++C).map Prod.fst=((A++e::C).map Prod.fst).filter λ d=>d.id !=e.1.id:=by
 obtain ⟨a,o⟩:=ZqQ h;have key:∀ l:List CE,(∀ x∈l,x.1.id≠e.1.id)->(l.map Prod.fst).filter (λ d=>d.id !=e.1.id)=l.map Prod.fst:=λ l hl=>by
  refine jS.2 λ x i=>?_;obtain ⟨y,u,rfl⟩:=qm.1 i;simpa using hl y u
 rw [qe,qe,j4,qi,vy,qc (by simp),key A a,key C o]
def ZmO {t:Tb} {q:Rq} {s sl:Sl} {bk:Nat} {A C:List CE} {e:CE} (ok:ZfY t) (hq:Y4 q) (hp:e.1.id=q.client) (W:(A++e::C).map Prod.fst=t.cl) (hs:SlR R.m s (b8 q.cmd)) (M:ZV q.cmd) (o:Sat R (RTO p t.next sl (some ⟨bk,0,none⟩) (A++e::C) (Zk bk t.bk::Hs)) w):
  Zg prog 87 #[nP p,nI (A.length:Nat),.agg (rqV q s).toArray] w λ v w'=>∃ x:Sl,v=.agg (tdV (t.doT e.1 q).1 x).toArray/\Xz R Hs p (t.doT e.1 q).1.reply (t.doT e.1 q).2 x w':=by
 have hb:e.1∈t.cl:=by rw [<-W];simp
 have Y:=ok.each _ hb;have hr:=Y.last;have ht:=Y.rep;have hn:=ok.few;have hu:(A++e::C).length=t.cl.length:=by rw [<-W,qa]
 have hg:=hq.seq;unfold inI at hg;have hv:=hq.cmd;have J:=ok.ids;rw [<-W] at J;have N:A.length<(A++e::C).length:=by simp
 have S:(A++e::C)[A.length]=e:=by simp
 apply Zvr
 suffices H:∀ K:Value->xE,(∀ x w',Xz R Hs p (t.doT e.1 q).1.reply (t.doT e.1 q).2 x w'->K (.agg (tdV (t.doT e.1 q).1 x).toArray) w')->B87 (some ⟨p,0,none⟩) (A.length:Nat) q.kind q.client q.seq q.token s K w from H _ λ x w' h=>⟨x,rfl,h⟩
 intro K hK;have ho:=Zcm o;refine Za o λ b5 w o=>Za o λ b6 w o=>?_;refine Zb.mk rfl ⟨sl,oA o,?_⟩;refine (Zn.readsM (n:=4) (s:=sl) (T:=seT) (rows:=(A++e::C).map seV) o (eqS o)).rngM (E:=A++e::C) (g:=seV) N λ a _ X=>?_;rw [S] at X;refine ⟨e.1.id,e.1.tok,e.1.last,e.2,X.z (by exact ⟨rfl,rfl,rfl,rfl,trivial⟩),?_⟩;clear X;refine Za o λ b7 w o=>?_;refine sRu o λ w o=>?_;have o:=o.re (seC b7 e);have o:Sat R (tdC b6 (XH 0) Yt::rqC b5 q s::seC b7 e::RTO p t.next sl (some ⟨bk,0,none⟩) (A++e::C) (Zk bk t.bk::Hs)) w:=(show Sat R (seC b7 e::tdC b6 (XH 0) Yt::rqC b5 q s::RTO p t.next sl (some ⟨bk,0,none⟩) (A++e::C) (Zk bk t.bk::Hs)) w from o).arr
 have close:∀ {w:World},Sat R (rqC b5 q s::seC b7 e::RTO p t.next sl (some ⟨bk,0,none⟩) (A++e::C) (Zk bk t.bk::Hs)) w->Sat R (XN p t::Hs) w:=λ o=>Sat.rtb.2 ⟨sl,bk,_,W,o.drop.drop⟩;refine ⟨λ w=>(e.1.last<q.seq/\¬ q.seq>e.1.last + 1)/\Sat R (tdC b6 (XH 0) Yt::rqC b5 q s::seC b7 e::RTO p t.next sl (some ⟨bk,0,none⟩) (A++e::C) (Zk bk t.bk::Hs)) w,
  ⟨λ b w=>b=decide (q.seq=e.1.last/\q.seq≠0)/\Sat R (tdC b6 (XH 0) Yt::rqC b5 q s::seC b7 e::RTO p t.next sl (some ⟨bk,0,none⟩) (A++e::C) (Zk bk t.bk::Hs)) w,?_,?_⟩,?_⟩
 ·refine ⟨q.seq,oA o,e.1.last,oA o,Br.e (λ O=>?_) (λ O=>?_)⟩
  ·refine ⟨q.seq,oA o,?_,o⟩
   exact vG.2 ⟨λ h=>qE ⟨O,by simpa using h⟩,λ h=>by simpa using (qF h).2⟩
  ·exact ⟨(qz λ h=>O h.1).symm,o⟩
 ·clear o
  rintro _ _ w ⟨rfl,o⟩;refine Br.d (λ h=>?_) (λ h=>?_)
  ·have hd:t.doT e.1 q=(⟨0,q.client,q.seq,e.1.rep⟩,t):=by
    unfold Tb.doT;rw [qc (by omega),qc (by omega),qc (by omega)]
   rw [hd] at hK;refine ⟨q.client,oA o,q.seq,oA o,e.2,oA o,?_⟩;exact Yw (τ:=⟨0,q.client,q.seq,e.1.rep⟩) (s:=e.2) o λ w o=>hK _ _ (Xz.own (c:=e.1) (s:=e.2) (by omega) W o.drop.drop)
  ·refine ⟨q.seq,oA o,e.1.last,oA o,Br.d (λ O=>?_) (λ O=>?_)⟩
   ·have hd:t.doT e.1 q=(XH 11,t):=by
     unfold Tb.doT;rw [qc (by omega),qf (by omega)]
    rw [hd] at hK;exact Yw (τ:=XH 11) (s:=Yt) o λ w o=>hK _ _ (Xz.nil (close o))
   ·refine ⟨q.seq,oA o,e.1.last,oA o,?_⟩
    rw [Zc];refine Br.d (λ B=>?_) (λ B=>⟨⟨by omega,B⟩,o⟩);have hd:t.doT e.1 q=(XH 7,t):=by
     unfold Tb.doT;rw [qf B]
    rw [hd] at hK;exact Yw (τ:=XH 7) (s:=Yt) o λ w o=>hK _ _ (Xz.nil (close o))
 clear o close;rintro _ w ⟨⟨O,B⟩,o⟩;obtain ⟨rep,r⟩:=xx ((Ui t.bk q.cmd).1);obtain ⟨nb,P⟩:=xx ((Ui t.bk q.cmd).2);have hh:=ZiT ok.bk M;rw [<-r] at hh;have hd:t.doT e.1 q=(⟨0,q.client,q.seq,rep⟩,{ t with bk:=nb,cl:=VL { e.1 with last:=q.seq,rep:=rep } t.cl }):=by
  unfold Tb.doT;rw [qc B,qc (by omega),qf O,<-r,<-P]
 rw [hd] at hK;obtain ⟨hf,hi,hj⟩:=ZaD M;have h0:(Z5 q.cmd).2=0\/(Z5 q.cmd).2=6:=by
  unfold Z5;split
  ·exact .inl rfl
  ·exact .inr rfl
 obtain ⟨j,i⟩:=xx (if (Z5 q.cmd).2≠0 then Z4 (Z5 q.cmd).2 else (ZT t.bk (Z5 q.cmd).1).2:Rp)
 have hk:rep=rpB j:=by rw [r,i];unfold Ui;split<;>rfl
 have u:nb=if (Z5 q.cmd).2≠0 then t.bk else (ZT t.bk (Z5 q.cmd).1).1:=by rw [P];unfold Ui;split<;>rfl
 have Q:Zkh j:=by
  rw [i];split
  ·exact Yb (by omega)
  ·exact ZaT ok.bk hf.sc
 refine Za o λ bR w o=>?_;refine sRu o λ w o=>?_;have o:=o.re (rpC bR (Z4 6) Ze Ze);refine ⟨s,oA o,?_⟩;refine (Zcx M (by omega) hs o).use ?_;clear o;rintro _ w ⟨sg,sp,rfl,o⟩;obtain ⟨c,hc⟩:=xx ((Z5 q.cmd).1);obtain ⟨er,h3⟩:=xx ((Z5 q.cmd).2);rw [<-hc] at o hf hi hj i u;rw [<-h3] at h0 i u;rw [<-hc,<-h3];refine ⟨c.kind,c.pnr,c.flt,c.cls,c.many,c.time,c.sc,c.lab,c.rows,sg,sp,er,rfl,?_⟩;refine Za o λ b9 w o=>?_;refine sRu o λ w o=>?_;have o:=o.re (cmC b9 c sg sp);refine ⟨λ w=>∃ F G:Sl,Sat R (Own F 3 (Zd j.left)::Own G 9 (j.labs.map Value.string)::rpC bR j F G::tdC b6 (XH 0) Yt::rqC b5 q s::RTO p t.next sl (some ⟨bk,0,none⟩) (A++e::C) (Zk bk nb::Hs)) w,?_,?_⟩
 ·refine Br.e (λ h=>?_) (λ h=>?_)
  ·rw [qc (by simpa using h)] at i u
   have o:=o.b2.m10.b2;obtain ⟨R1,l,g1,o⟩:=Own.leak o;obtain ⟨R2,e2,g2,o⟩:=Own.leak o;refine Zi o λ w o=>Zb.mk rfl ⟨some ⟨bk,0,none⟩,oS,c.kind,c.pnr,c.flt,c.cls,c.many,c.time,c.sc,c.lab,c.rows,sg,sp,oS,?_⟩;refine (Zie ok.bk.core hf.sc (e2.ro (g1.ro)) (by omega) g2 o).use ?_;clear o;rintro _ w ⟨F,G,rfl,o⟩;rw [<-i,<-u] at o;rw [<-i];refine ⟨_,_,_,_,_,_,_,F,G,rfl,?_⟩;have o:=o.m2.m10.m10.m10.m9.m9.m10.m9.m9.m9.m10;refine sRu o λ w o=>?_;have o:=o.re (rpC bR j F G);have o:=o.b2.m4.m4;exact ⟨F,G,l.back (e2.back o.drop.drop)⟩
  ·rw [qf h] at i u
   have h6:er=6:=h0.resolve_left h;rw [h6] at i;have o:=o.m6.b3;have o:=o.drop.drop.drop.drop;rw [<-i,<-u] at o;have hl:j.left=[]:=by rw [i];rfl
   have hm:j.labs=[]:=by rw [i];rfl
   rw [hl,hm];exact ⟨Ze,Ze,Own.nil (Own.nil o)⟩
 clear o;rintro _ w ⟨F,G,o⟩;refine Zi o λ w o=>Zb.mk rfl ⟨sl,oS,q.seq,oS,?_⟩;refine (Zn.readsM (n:=4) (s:=sl) (T:=seT) (rows:=(A++e::C).map seV) o (eqS o)).rngM (E:=A++e::C) (g:=seV) N λ a ha _=>?_;obtain ⟨l,h4⟩:=xx (({ e.1 with last:=q.seq },e.2):CE);refine Zn.storeM (n:=4) (s:=sl) (T:=seT) (E:=A++e::C) (g:=seV) 2 l o ha N (by kernel_rfl) rfl (by simp [Value.cells]) (by rw [S,h4];rfl) λ w o=>?_;have U:(A++e::C).set A.length l=A++l::C:=by simp
 rw [U] at o;have L:A.length<(A++l::C).length:=by simp
 have h5:(A++l::C)[A.length]=l:=by simp
 refine Zj (Sat R [pts p (Vx t.next sl (some ⟨bk,0,none⟩)),rpC bR j F G,VC.tru]) o (λ w o=>Sat.two o) λ w o=>?_;refine Zb.mk rfl ⟨sl,oS,j.code,j.pnr,j.state,j.flt,j.cls,j.many,j.time,F,G,oS,?_⟩;have hx:=Q.ll;have hy:=Q.bl;have o:=o.b2;obtain ⟨R3,e3,r3,o⟩:=Own.leak o;obtain ⟨R4,e4,r4,o⟩:=Own.leak o;refine (Gk (ZdR Q) (e4.ro (r3.ro)) r4 o).u1 λ y w o=>?_;have o:=e3.back (e4.back o);rw [<-hk] at o;refine ⟨y,rfl,Sat.two o,?_⟩;refine (Zn.readsM (n:=4) (s:=sl) (T:=seT) (rows:=(A++l::C).map seV) o (eqS o)).rngM (E:=A++l::C) (g:=seV) L λ a ha _=>?_;obtain ⟨k,I⟩:=xx ({ e.1 with last:=q.seq,rep:=rep }:Cl);refine Zn.storeM (n:=4) (s:=sl) (T:=seT) (E:=A++l::C) (g:=seV) 3 (k,y) o ha L (by kernel_rfl) rfl (by simp [Value.cells]) (by rw [h5,h4,I];rfl) λ w o=>?_;have V:(A++l::C).set A.length (k,y)=A++(k,y)::C:=by simp
 rw [V] at o;have h7:A.length<(A++(k,y)::C).length:=by simp
 have h8:(A++(k,y)::C)[A.length]=(k,y):=by simp
 refine Zi o λ w o=>⟨q.client,oS,q.seq,oS,Zb.mk rfl ⟨sl,oS,?_⟩⟩;refine (Zn.readsM (n:=4) (s:=sl) (T:=seT) (rows:=(A++(k,y)::C).map seV) o (λ w h=>h)).rngM (E:=A++(k,y)::C) (g:=seV) h7 λ a _ X=>?_;rw [h8] at X;refine ⟨y,X.f 3 (by exact ⟨rfl,trivial⟩),?_⟩;have o:=o.m5.m6.m3.m6.m5.m6;refine Yw (τ:=⟨0,q.client,q.seq,rep⟩) (s:=y) o λ w o=>hK _ _ ?_;have o:=o.drop.drop;have ee:(A++e::C).map XK=A.map XK++XK e::C.map XK:=by rw [qe,qi]
 have o:=o.m1;rw [ee] at o;have o:=(ZaE.1 o).drop;have D:k.rep=rep:=by rw [I]
 have o:Sat R (XK (k,y)::XS (A.map XK++C.map XK)::pts p (Vx t.next sl (some ⟨bk,0,none⟩))::Zn 4 sl seT ((A++(k,y)::C).map seV)::Zk bk nb::Hs) w:=by
  have e9:XK (k,y)=Own y 5 (b8 rep):=by show Own y 5 (b8 k.rep)=_;rw [D]
  rw [e9];exact o.swap
 have o:=ZaE.2 o;have ee2:(A++(k,y)::C).map XK=A.map XK++XK (k,y)::C.map XK:=by rw [qe,qi]
 rw [<-ee2] at o;have h9:=Xz.own (t':={ t with bk:=nb,cl:=VL { e.1 with last:=q.seq,rep:=rep } t.cl }) (sl:=sl) (bk:=bk) (A:=A) (C:=C) (c:=k) (s:=y) (Hs:=Hs) (p:=p) (R:=R) (w:=w) (by rw [D];omega) (by rw [Zp7 (e:=e) (by rw [I]) J,W,I]) o.arr;rw [D] at h9;exact h9
end
end Go.Proofs.YtlplemdmegpoeaaGreatDoor
