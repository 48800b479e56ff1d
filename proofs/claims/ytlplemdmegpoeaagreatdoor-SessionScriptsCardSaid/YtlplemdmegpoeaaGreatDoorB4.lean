/- The names of seats: reference 13; groups of a row. Condition: none. -/
import Derived.Test.YtlplemdmegpoeaaGreatDoorB3
import Derived.Test.YtlplemdmegpoeaaGreatDoorB2
import Derived.Laws.Externs
import Derived.Lib.Overlaps
import Derived.Shelf.SlIterI.Nil
import Derived.Shelf.SlIterI.Collect
import Derived.Shelf.SlIterI.Sorted
import Derived.Shelf.SortM.Plain
import Derived.Shelf.SortM.SortNone
import Derived.Ground.GgzProg
import Derived.Ground.SlgmProg
import Derived.Test.YtlplemdmegpoeaaGreatDoorProg
import Derived.Test.YtlplemdmegpoeaaGreatDoorB1
set_option linter.unusedVariables false
set_option linter.defProp false
set_option linter.unusedSimpArgs false
set_option maxHeartbeats 8000000
namespace Go.Proofs.YtlplemdmegpoeaaGreatDoor
section
open Go Go.VC Tryz
variable {R:Cx} {Hs Rest:List HP} {w:World}
def ZuJ {x:Int} (h:0<=x) (a:x<256):IntKind.u8.wrap x=x:=by rw [IntKind.wrap_u8];omega
def GC {n k:Int} {s:Sl} {g:List Int} (hs:RoI R s g) (o:Sat R Hs w):
  Zg prog 200 #[.agg #[nI n,.slice s.a s.len s.cap],nI k] w λ v w'=>v=.tuple #[xZ (Zfe n g k).1,nI (Zfe n g k).2]/\Sat R Hs w':=by
 apply Zs9;refine Za o λ p w o=>?_;have o:Sat R (pts p (WQ n s)::Hs) w:=o;refine ⟨λ w=>(0<=k/\k<YN n g)/\Sat R (pts p (WQ n s)::Hs) w,Br.d (λ h=>⟨?_,o.drop⟩) (λ F=>?_),?_⟩
 ·unfold Zfe;rw [qc (by omega)]
 ·refine ⟨n,s,oA o,?_⟩
  refine (W9 hs o).u λ w o=>?_;refine ⟨_,rfl,Br.d (λ h=>⟨?_,o.drop⟩) (λ h=>⟨⟨by omega,by omega⟩,o⟩)⟩;unfold Zfe;rw [qc (by omega)]
 clear o;rintro _ w ⟨h,o⟩;have e:Zfe n g k=(Zo2 g.sum k,0):=by unfold Zfe;rw [qf h]
 rw [e];obtain ⟨a,b,q,m,rfl,j,G,b2,H,I,hl,l,i,r,f⟩:=Ziz h;rw [hl];refine ⟨n,s,oA o,?_⟩;refine (X0 hs (λ x z=>by have:=l x z;omega) i o).u λ w o=>?_;refine ⟨b,by rw [j],?_⟩;have w2:wI (q:Int)=(q:Int):=Zc;have w3:wI ((q:Int) + 1)=((q + 1:Nat):Int):=Zc;rw [f,w2,w3];have t1:(((q + 1:Nat):Int)).tdiv 10=(((q + 1) / 10:Nat):Int):=rfl;have t2:(((q + 1:Nat):Int)).tmod 10=(((q + 1) % 10:Nat):Int):=rfl;rw [t1,t2];refine Nz.mk (by omega) ⟨λ t w=>Sat R (Own t 5 (b8 (if 10<=q + 1 then [48 + (((q + 1) / 10:Nat):Int)] else []))::pts p (WQ n s)::Hs) w,Br.d (λ h=>?_) (λ h=>?_),?_⟩
 ·refine Wz ZbX (s:=⟨none,0,0⟩) (xs:=[]) (Own.nil o) rfl rfl (by simp) (by simp) λ t w o=>?_
  rw [qf (by omega)];rw [Zc (x:=(((q + 1) / 10:Nat):Int)) (by omega) (by omega),Zc,ZuJ (by omega) (by omega)] at o;exact o
 ·rw [qc (by omega)]
  exact Own.nil o
 clear o;rintro _ t w o;refine ⟨n,s,oA o,?_⟩;refine (X0 hs (λ x z=>by have:=l x z;omega) i o).u λ w o=>?_;refine ⟨b,by rw [j],Nz.mk (by omega) ?_⟩;obtain ⟨c,A,D⟩:=Zg8 ⟨m,by omega⟩;refine ⟨c,by omega,?_,?_⟩
 ·rw [r];exact A
 rw [D,Zc,ZuJ (by omega) (by omega)];dsimp only;refine Za o λ b2 w o=>?_;have o:Sat R (Own ⟨some ⟨b2,0,none⟩,2,2⟩ 5 (b8 [48 + (((q + 1) % 10:Nat):Int),YY m])::Own t 5 (b8 (if 10<=q + 1 then [48 + (((q + 1) / 10:Nat):Int)] else []))::pts p (WQ n s)::Hs) w:=YL o
 refine YI ZbX (t:=⟨some ⟨b2,0,none⟩,2,2⟩) (n:=5) underlying47 o.swap (by split<;>simp) (by omega) (by omega) λ J w o=>?_;obtain ⟨R',E,_,y,back⟩:=Own.lend o (by rw [qa];split<;>simp);refine ⟨VC.strOf ((if 10<=q + 1 then [48 + (((q + 1) / 10:Nat):Int)] else [])++[48 + (((q + 1) % 10:Nat):Int),YY m]),λ w' e=>?_,?_,(back y).drop.drop.drop⟩
 ·subst e;exact Uk (T:=5) underlying47 underlying5 underlying9 y E
 ·have e:(if 10<=q + 1 then [48 + (((q + 1) / 10:Nat):Int)] else [])++[48 + (((q + 1) % 10:Nat):Int),YY m]=Uy (q + 1) m:=by
   unfold Uy Zh6;split<;>rfl
  rw [e]
def ZkQ {n:Int} {s:Sl} {g:List Int} {lab:ByteArray} (hs:RoI R s g) (o:Sat R Hs w):
  Zg prog 195 #[.agg #[nI n,.slice s.a s.len s.cap],xZ lab] w λ v w'=>v=.tuple #[nI (YG n g lab).1,nI (YG n g lab).2]/\Sat R Hs w':=by
 apply Zte;refine Za o λ p w o=>?_;have o:Sat R (pts p (WQ n s)::Hs) w:=o;refine ⟨n,s,oA o,?_⟩;refine (GA hs o).u λ w o=>?_;refine ⟨_,rfl,Br.nb (λ h=>⟨?_,o.drop⟩) (λ y=>?_)⟩
 ·unfold YG;rw [h];rfl
 have e:YG n g lab=GO n g.sum lab:=by unfold YG;rw [qf y]
 rw [e];obtain ⟨c,r,l⟩:=Z7.1 y;have A:=Gu r (by omega);have t:=Wq n g;have D:=ZcS y;refine ⟨λ i w=>∃ j:Nat,i=j/\(j:Int)<=YN n g/\(∀ k:Int,0<=k->k<j->Zo2 g.sum k≠lab)/\Sat R (pts p (WQ n s)::Hs) w,λ i _=>600 - i.toNat,⟨0,rfl,by omega,λ k m x=>by omega,o⟩,?_⟩;clear o;rintro _ _ w ⟨j,rfl,hj,q,o⟩;refine ⟨n,s,oA o,?_⟩;refine (W9 hs o).u λ w o=>?_;refine ⟨_,rfl,Br.d (λ h=>?_) (λ h=>⟨?_,o.drop⟩)⟩
 ·refine ⟨n,s,oA o,?_⟩
  refine (GC hs o).use ?_;have e:Zfe n g j=(Zo2 g.sum j,0):=by unfold Zfe;rw [qf ⟨by omega,h⟩]
  rw [e];rintro _ w ⟨rfl,o⟩;refine ⟨_,_,rfl,Br.se (λ z=>⟨?_,o.drop⟩) (λ z=>?_)⟩
  ·rw [(Zfx (by omega) (by omega) l).2 ⟨by omega,by omega,z⟩]
  ·rw [Zc]
   refine ⟨⟨j + 1,by omega,by omega,λ k m x=>?_,o⟩,by dsimp only;omega⟩;by_cases hk:k=j
   ·rw [hk];exact z
   ·exact q k m (by omega)
 ·have:(GO n g.sum lab).2≠0:=λ z=>by
   obtain ⟨f,E,b⟩:=(Zfx (n:=n) (w:=g.sum) (k:=(GO n g.sum lab).1) (lab:=lab) (by omega) (by omega) l).1 (Prod.ext rfl z);exact q _ f (by omega) b
  rw [Zr1 this]
def Zap:List Int->Int->Nat
 |[],_=>0
 |x::g,a=>if a<x then 0 else Zap g (a - x) + 1
def G3:List Int->Int->Int × Int
 |[],_=>(0,0)
 |x::g,a=>if a<x then (a,x - 1 - a) else G3 g (a - x)
def ZdJ (x:Int) (g:List Int) (a:Int):G3 (x::g) a=if a<x then (a,x - 1 - a) else G3 g (a - x):=rfl
def U4 (x:Int) (g:List Int) (a:Int):Zap (x::g) a=if a<x then 0 else Zap g (a - x) + 1:=rfl
def Zkz {n k:Int} {s:Sl} {g:List Int} (hs:RoI R s g) (l:∀ x∈g,1<=x/\x<=10) (hl:g.length<=4) (q:1<=g.length) (hk:0<=k) (o:Sat R Hs w):
  Zg prog 251 #[.agg #[nI n,.slice s.a s.len s.cap],nI k] w λ v w'=>v=.tuple #[nI (G3 g (k % g.sum)).1,nI (G3 g (k % g.sum)).2]/\Sat R Hs w':=by
 have t:=hs.len;have f:=Gu l q;apply ZsG;refine Za o λ p w o=>?_;have o:Sat R (pts p (WQ n s)::Hs) w:=o;refine ⟨n,s,oA o,?_⟩;refine (Ws hs (λ x m=>by have:=l x m;omega) hl o).use ?_;rintro _ w ⟨rfl,o⟩;refine ⟨_,rfl,Nz.mk (by omega) ⟨s,oA o,?_⟩⟩;rw [jj hk];have m0:=vH k (show g.sum≠0 by omega);have m1:=vk k (show 0<g.sum by omega);have e:=ZdE (g:=g) (λ x m=>by have:=l x m;omega);generalize k % g.sum=a at *;refine ⟨λ u i w=>∃ j:Nat,i=j/\j<=g.length/\0<=u/\u<=a/\G3 (g.drop j) u=G3 g a/\Sat R (pts p (WQ n s)::Hs) w,λ _ i _=>g.length - i.toNat,⟨0,rfl,by omega,by omega,by omega,rfl,o⟩,?_⟩;clear o;rintro _ u _ w ⟨j,rfl,hj,b,c,y,o⟩;refine Br.d (λ h=>?_) (λ h=>?_)
 ·have z:j<g.length:=by omega
  have m:=l g[j] (qh _);rw [qv z,ZdJ] at y;refine hs.idx (eqS o) z ?_;refine Br.d (λ r=>⟨?_,o.drop⟩) (λ r=>?_)
  ·rw [qf r] at y
   rw [Zc (x:=g[j] - 1),Zc];have:=y.symm;rw [show G3 g a=(u,g[j] - 1 - u) from this]
  ·rw [qc r] at y
   rw [Zc (x:=u - g[j]),Zc];exact ⟨⟨j + 1,by omega,by omega,by omega,by omega,y,o⟩,by dsimp only;omega⟩
 ·rw [jg (by omega)] at y
  refine ⟨?_,o.drop⟩;rw [show G3 g a=(0,0) from y.symm]
end
section
open Go Go.VC Tryz
section
variable (u z:Nat->Bool)
def ZJ:Nat->List Nat
 |0=>[]
 |j + 1=>ZJ j++(if u j then [] else [j])
def UR:Nat->Nat
 |0=>0
 |j + 1=>if u j then 0 else (if z j then 0 else UR j) + 1
def Zdq (j many:Nat):List Nat:=(List.range many).map λ t=>j - many + t
def V3 (N many:Nat):List Nat × Int:=
 match (List.range N).find? λ j=>UR u z (j + 1)==many with
 |some j=>(Zdq (j + 1) many,0)
 |none=>if (ZJ u N).length<many then ([],3) else ((ZJ u N).take many,0)
variable {u z}
def X3 (j:Nat):ZJ u (j + 1)=ZJ u j++(if u j then [] else [j]):=rfl
def Zho {j:Nat}:∀ {N:Nat},j<=N->∃ l,ZJ u N=ZJ u j++l
 |0,h=>⟨[],by rw [show j=0 by omega];rfl⟩
 |N + 1,h=>by
  by_cases hj:j=N + 1
  ·exact ⟨[],by rw [hj];simp⟩
  ·obtain ⟨l,hl⟩:=Zho (N:=N) (j:=j) (by omega)
   exact ⟨l++(if u N then [] else [N]),by rw [X3,hl,qn]⟩
def ZiO {j N:Nat} (hj:j<N) (h:u j=false):(ZJ u N)[(ZJ u j).length]? =some j:=by
 obtain ⟨l,hl⟩:=Zho (u:=u) (j:=j + 1) (N:=N) (by omega);rw [hl,X3,h];simp
def Vj {i j:Nat}:∀ {N:Nat},(ZJ u N)[i]? =some j->j<N/\u j=false/\(ZJ u j).length=i
 |0,h=>by simp [ZJ] at h
 |N + 1,h=>by
  rw [X3] at h;by_cases hi:i<(ZJ u N).length
  ·rw [List.getElem?_append_left hi] at h
   obtain ⟨o,a⟩:=Vj h;exact ⟨by omega,a⟩
  ·rw [List.getElem?_append_right (by omega)] at h
   split at h
   ·simp at h
   ·rename_i d
    rcases hk:i - (ZJ u N).length with _|k
    ·rw [hk] at h
     simp at h;subst h;exact ⟨by omega,by simpa using d,by omega⟩
    ·rw [hk] at h;simp at h
def We (j:Nat):(ZJ u (j + 1)).length=(ZJ u j).length + (if u j then 0 else 1):=by
 rw [X3,qb];split<;>rfl
def ZiM {j:Nat}:∀ t:Nat,(ZJ u (j + t)).length<=(ZJ u j).length + t
 |0=>by simp
 |t + 1=>by
  have:=ZiM (j:=j) t;rw [<-jL,We];split<;>omega
def ZiN {j:Nat}:∀ t:Nat,(ZJ u j).length<=(ZJ u (j + t)).length
 |0=>by simp
 |t + 1=>by
  have:=ZiN (j:=j) t;rw [<-jL,We];omega
def Zft {j t:Nat} (h:∀ x,j<=x->x<j + t->u x=false):(ZJ u (j + t)).length=(ZJ u j).length + t:=by
 induction t with
 |zero=>simp
 |succ t ih=>
  rw [<-jL,We,ih λ x a d=>h x a (by omega),h (j + t) (by omega) (by omega)];simp;omega
def Zhn {j t:Nat} (h:(ZJ u (j + t)).length=(ZJ u j).length + t):∀ x,j<=x->x<j + t->u x=false:=by
 intro x o i;cases d:u x with
 |false=>rfl
 |true=>
  have a:=ZiM (u:=u) (j:=j) (x - j);have b:=ZiM (u:=u) (j:=x + 1) (j + t - (x + 1));have c:=We (u:=u) x;rw [d] at c;simp only [vp] at c;rw [show j + (x - j)=x by omega] at a;rw [show x + 1 + (j + t - (x + 1))=j + t by omega] at b;omega
def W4 (j:Nat):UR u z (j + 1)=if u j then 0 else (if z j then 0 else UR u z j) + 1:=rfl
def ZeP:∀ {j m:Nat},m<=UR u z j↔m<=j/\∀ x,j - m<=x->x<j->u x=false/\(j - m<x->z x=false)
 |j,0=>⟨λ _=>⟨by omega,λ x d a=>by omega⟩,λ _=>by omega⟩
 |0,m + 1=>⟨λ h=>by simp [UR] at h,λ h=>by omega⟩
 |j + 1,m + 1=>by
  rw [W4];cases o:u j with
  |true=>
   refine ⟨λ h=>by simp at h,λ h=>?_⟩;have:=(h.2 j (by omega) (by omega)).1;rw [o] at this;cases this
  |false=>
   simp only [qy,jq];cases hz:z j with
   |true=>
    simp only [vp];constructor
    ·intro h
     obtain rfl:m=0:=by omega
     exact ⟨by omega,λ x d a=>by
      obtain rfl:x=j:=by omega
      exact ⟨o,λ h=>by omega⟩⟩
    ·intro h
     by_cases hm:m=0
     ·omega
     ·have:=(h.2 j (by omega) (by omega)).2 (by omega)
      rw [hz] at this;cases this
   |false=>
    simp only [qy,jq];have ih:=ZeP (j:=j) (m:=m);constructor
    ·intro h
     obtain ⟨d,a⟩:=ih.1 (by omega);refine ⟨by omega,λ x y g=>?_⟩;by_cases k:x=j
     ·subst k;exact ⟨o,λ _=>hz⟩
     ·obtain ⟨i,v⟩:=a x (by omega) (by omega)
      exact ⟨i,λ h=>v (by omega)⟩
    ·rintro ⟨d,a⟩
     have:=ih.2 ⟨by omega,λ x y g=>by
      obtain ⟨i,v⟩:=a x (by omega) (by omega);exact ⟨i,λ h=>v (by omega)⟩⟩
     omega
variable {N many:Nat} {grp:Nat->Int}
def ZnT (i:∀ k,k + 1<N->z (k + 1)=true->grp k<grp (k + 1)) (o:∀ k,k + 1<N->z (k + 1)=false->grp k=grp (k + 1)) {a:Nat}:
  ∀ t:Nat,a + t<N->grp a<=grp (a + t)/\(grp a=grp (a + t)↔∀ x,a<x->x<=a + t->z x=false)
 |0,h=>⟨qG _,⟨λ _ x o d=>by omega,λ _=>rfl⟩⟩
 |t + 1,h=>by
  obtain ⟨g,u⟩:=ZnT i o (a:=a) t (by omega);cases hz:z (a + t + 1) with
  |true=>
   have:=i (a + t) (by omega) hz;refine ⟨by rw [<-jL];omega,⟨λ h=>by rw [<-jL] at h;omega,λ h=>?_⟩⟩;have:=h (a + t + 1) (by omega) (by omega);rw [hz] at this;cases this
  |false=>
   have:=o (a + t) (by omega) hz;rw [<-jL];refine ⟨by omega,⟨λ h x d v=>?_,λ h=>?_⟩⟩
   ·by_cases y:x=a + t + 1
    ·rw [y];exact hz
    ·exact u.1 (by omega) x d (by omega)
   ·rw [<-this];exact u.2 λ x d v=>h x d (by omega)
def Zo6 (f:List Nat) (grp:Nat->Int) (many i:Nat):Prop:=∃ a b,f[i]? =some a/\f[i + many - 1]? =some b/\b - a=many - 1/\a<=b/\grp a=grp b
def ZeE (g:∀ k,k + 1<N->z (k + 1)=true->grp k<grp (k + 1)) (l:∀ k,k + 1<N->z (k + 1)=false->grp k=grp (k + 1)) (hm:1<=many) {i j:Nat} (hj:(ZJ u N)[i + many - 1]? =some j):
  Zo6 (ZJ u N) grp many i↔many<=UR u z (j + 1):=by
 obtain ⟨f,q,c⟩:=Vj hj;rw [ZeP];constructor
 ·rintro ⟨a,b,v,m,hd,r,s⟩
  rw [hj] at m;obtain rfl:j=b:=jp m;obtain ⟨A,D,E⟩:=Vj v;have d:=Zhn (u:=u) (j:=a) (t:=many - 1) (by rw [show a + (many - 1)=j by omega];omega);have h:=(ZnT g l (a:=a) (many - 1) (by omega)).2;rw [show a + (many - 1)=j by omega] at h;refine ⟨by omega,λ x y n=>⟨?_,λ p=>h.1 s x (by omega) (by omega)⟩⟩;by_cases e:x=j
  ·rw [e];exact q
  ·exact d x (by omega) (by omega)
 ·rintro ⟨F,y⟩
  have o:=Zft (u:=u) (j:=j + 1 - many) (t:=many - 1) λ x n p=>(y x (by omega) (by omega)).1;rw [show j + 1 - many + (many - 1)=j by omega] at o;have v:=ZiO (u:=u) (j:=j + 1 - many) (N:=N) (by omega) (y _ (by omega) (by omega)).1;rw [show (ZJ u (j + 1 - many)).length=i by omega] at v;refine ⟨j + 1 - many,j,v,hj,by omega,by omega,?_⟩;have h:=(ZnT g l (a:=j + 1 - many) (many - 1) (by omega)).2;rw [show j + 1 - many + (many - 1)=j by omega] at h;exact h.2 λ x n p=>(y x (by omega) (by omega)).2 (by omega)
def Zgs (hm:1<=many) {j:Nat} (hj:j<N) (h:many<=UR u z (j + 1)):∃ i,(ZJ u j).length=i + many - 1/\(ZJ u N)[i + many - 1]? =some j/\i + many<=(ZJ u N).length:=by
 have o:=(ZeP.1 h);have a:=Zft (u:=u) (j:=j + 1 - many) (t:=many - 1) λ x v y=>(o.2 x (by omega) (by omega)).1;rw [show j + 1 - many + (many - 1)=j by omega] at a;have d:=ZiO (u:=u) hj (o.2 j (by omega) (by omega)).1;refine ⟨(ZJ u (j + 1 - many)).length,by omega,by rw [show (ZJ u (j + 1 - many)).length + many - 1=(ZJ u j).length by omega];exact d,?_⟩;have:=(List.getElem?_eq_some_iff.1 d).1;omega
def ZhJ (hm:1<=many) (h:∀ j,j<N->¬ many<=UR u z (j + 1)):V3 u z N many=if (ZJ u N).length<many then ([],3) else ((ZJ u N).take many,0):=by
 unfold V3;have:((List.range N).find? λ j=>UR u z (j + 1)==many)=none:=by
  rw [List.find?_eq_none];intro j hj a;have a:=jh.1 a;exact h j (jC.1 hj) (by omega)
 rw [this]
def ZhG (hm:1<=many) {j:Nat} (hj:j<N) (h:UR u z (j + 1)=many) (a:∀ k,k<j->¬ many<=UR u z (k + 1)):V3 u z N many=(Zdq (j + 1) many,0):=by
 unfold V3;have:((List.range N).find? λ j=>UR u z (j + 1)==many)=some j:=by
  rw [List.find?_range_eq_some];exact ⟨by simpa using h,jC.2 hj,λ k hk=>by
   have:=a k hk;simp only [vq,jW];omega⟩
 rw [this]
def ZpT {i a:Nat} (v:(ZJ u N)[i]? =some a) (o:(ZJ u N)[i + many - 1]? =some (a + many - 1)) (hm:1<=many):((ZJ u N).drop i).take many=Zdq (a + many) many:=by
 obtain ⟨g,k,l⟩:=Vj v;obtain ⟨m,b2,b3⟩:=Vj o;have h:=Zhn (u:=u) (j:=a) (t:=many - 1) (by rw [show a + (many - 1)=a + many - 1 by omega];omega);have hl:=(List.getElem?_eq_some_iff.1 o).1;apply List.ext_getElem?;intro t;by_cases ht:t<many
 ·rw [List.getElem?_take_of_lt ht,List.getElem?_drop]
  have d:u (a + t)=false:=by
   by_cases d:a + t=a + many - 1
   ·rw [d];exact b2
   ·exact h _ (by omega) (by omega)
  have y:(ZJ u (a + t)).length=i + t:=by
   rw [Zft (u:=u) (j:=a) (t:=t) λ x z n=>by exact h x z (by omega)];omega
  have:=ZiO (u:=u) (j:=a + t) (N:=N) (by omega) d;rw [y] at this;rw [this];unfold Zdq;rw [List.getElem?_map,List.getElem?_range ht];simp
 ·rw [List.getElem?_eq_none (by rw [qd];omega),List.getElem?_eq_none (by unfold Zdq;simp;omega)]
def Zke (l:∀ k,k + 1<N->z (k + 1)=true->grp k<grp (k + 1)) (m:∀ k,k + 1<N->z (k + 1)=false->grp k=grp (k + 1)) (hm:1<=many) {i:Nat}
  (hP:Zo6 (ZJ u N) grp many i) (s:∀ k,k<i->¬ Zo6 (ZJ u N) grp many k):V3 u z N many=(((ZJ u N).drop i).take many,0):=by
 obtain ⟨a,j,n,hj,hd,y,t⟩:=hP;have p:=(ZeE l m hm hj).1 ⟨a,j,n,hj,hd,y,t⟩;obtain ⟨x,e,E⟩:=Vj hj;have d:∀ k,k<j->¬ many<=UR u z (k + 1):=λ k hk q=>by
  obtain ⟨r,f,v,b⟩:=Zgs hm (N:=N) (by omega) q;have F:r + many - 1<i + many - 1:=by
   have o:=ZiN (u:=u) (j:=k + 1) (j - (k + 1));rw [show k + 1 + (j - (k + 1))=j by omega,We] at o;have c:=(Vj v).2.1;rw [c] at o;simp only [qy,jq] at o;omega
  exact s r (by omega) ((ZeE l m hm v).2 q)
 have g:UR u z (j + 1)=many:=by
  by_cases A:UR u z (j + 1)=many
  ·exact A
  ·exfalso
   have o:many<=UR u z j:=by
    have:=W4 (u:=u) (z:=z) j;rw [e] at this;simp only [qy,jq] at this;split at this<;>omega
   have D:0<j:=by
    by_cases h:j=0
    ·rw [h] at o;simp [UR] at o;omega
    ·omega
   exact d (j - 1) (by omega) (by rw [show j - 1 + 1=j by omega];exact o)
 rw [ZhG hm x g d,ZpT n (by rw [show a + many - 1=j by omega];exact hj) hm,show a + many=j + 1 by omega]
def ZhI (o:∀ k,k + 1<N->z (k + 1)=true->grp k<grp (k + 1)) (i:∀ k,k + 1<N->z (k + 1)=false->grp k=grp (k + 1)) (hm:1<=many)
  (v:∀ k,k + many<=(ZJ u N).length->¬ Zo6 (ZJ u N) grp many k):V3 u z N many=if (ZJ u N).length<many then ([],3) else ((ZJ u N).take many,0):=by
 refine ZhJ hm λ j hj d=>?_;obtain ⟨y,g,h,a⟩:=Zgs hm hj d;exact v y a ((ZeE o i hm h).2 d)
end
def ZbJ:∀ {g:List Int} {a:Int},(∀ x∈g,1<=x/\x<=10)->0<=a->a<g.sum->0<=(G3 g a).1/\Zap g a<g.length/\((G3 g a).1=0->1<=a->Zap g (a - 1) + 1=Zap g a)/\((G3 g a).1≠0->1<=a/\Zap g (a - 1)=Zap g a)
 |[],a,_,h0,o=>by simp at o;omega
 |x::g,a,i,h0,o=>by
  have p:=i x qq;rw [ZdJ,U4,U4];by_cases h:a<x
  ·rw [qf h,qf h,qf (by omega)]
   simp only [qr];exact ⟨h0,by omega,λ d z=>by omega,λ d=>⟨by omega,trivial⟩⟩
  ·rw [qc h,qc h]
   have ih:=ZbJ (g:=g) (a:=a - x) (λ y j=>i y (qj _ j)) (by omega) (by simp only [vn] at o;omega);obtain ⟨k,u,l,m⟩:=ih;simp only [qr];refine ⟨k,by omega,λ d z=>?_,λ d=>?_⟩
   ·by_cases v:a=x
    ·subst v
     rw [qf (by omega)]
     match g,u,o with
     |[],u,_=>simp at u
     |y::g,_,_=>
      have:=i y (by simp);rw [U4,qf (by omega)]
    ·rw [qc (by omega),show a - 1 - x=a - x - 1 by omega]
     have:=l d (by omega);omega
   ·obtain ⟨q,n⟩:=m d
    rw [qc (by omega),show a - 1 - x=a - x - 1 by omega,n];exact ⟨by omega,rfl⟩
def ZfW (g:List Int) (k:Nat):Int:=(k:Int) / g.sum * g.length + Zap g ((k:Int) % g.sum)
def zF (g:List Int) (k:Nat):Bool:=(G3 g ((k:Int) % g.sum)).1==0
def Zhj {g:List Int} (o:∀ x∈g,1<=x/\x<=10) (hl:1<=g.length) (k:Nat):(zF g (k + 1)=true->ZfW g k<ZfW g (k + 1))/\(zF g (k + 1)=false->ZfW g k=ZfW g (k + 1)):=by
 have y:=Gu o hl;have m0:=vH ((k + 1:Nat):Int) (show g.sum≠0 by omega);have m1:=vk ((k + 1:Nat):Int) (show 0<g.sum by omega);have n0:=vH (k:Int) (show g.sum≠0 by omega);have n1:=vk (k:Int) (show 0<g.sum by omega);have e1:=zb ((k + 1:Nat):Int) g.sum;have hs:=ZbJ o m0 m1;unfold zF ZfW;obtain ⟨z,j,v,u⟩:=hs;have ek:(k:Int)=((k + 1:Nat):Int) % g.sum - 1 + g.sum * (((k + 1:Nat):Int) / g.sum):=by omega
 by_cases hm:((k + 1:Nat):Int) % g.sum=0
 ·-- a row begins
  have d:(k:Int) / g.sum=((k + 1:Nat):Int) / g.sum - 1/\(k:Int) % g.sum=g.sum - 1:=by
   have:(k:Int)=(g.sum - 1) + g.sum * (((k + 1:Nat):Int) / g.sum - 1):=by rw [Int.mul_sub];omega
   constructor
   ·rw [this,vZ _ _ (by omega),vY (by omega) (by omega)]
    omega
   ·rw [this,vx,vU (by omega) (by omega)]
  obtain ⟨_,t1,_,_⟩:=ZbJ o (a:=g.sum - 1) (by omega) (by omega);have i:(k:Int) / g.sum * g.length + Zap g ((k:Int) % g.sum)<((k + 1:Nat):Int) / g.sum * g.length + Zap g (((k + 1:Nat):Int) % g.sum):=by
   rw [d.1,d.2,Int.sub_mul];omega
  refine ⟨λ _=>i,λ h=>?_⟩;have h:=jW.1 h;have:=(u h).1;omega
 ·have d:(k:Int) / g.sum=((k + 1:Nat):Int) / g.sum/\(k:Int) % g.sum=((k + 1:Nat):Int) % g.sum - 1:=by
   constructor
   ·rw [ek,vZ _ _ (by omega),vY (by omega) (by omega)];omega
   ·rw [ek,vx,vU (by omega) (by omega)]
  rw [d.1,d.2];refine ⟨λ h=>?_,λ h=>?_⟩
  ·have:=v (jh.1 h) (by omega);omega
  ·have:=(u (jW.1 h)).2;omega
end
section
open Go Go.VC Tryz
variable {R:Cx} {Hs Rest:List HP} {w:World}
def Zdn:El prog 30 30 3 8:=⟨underlying30,⟨_,underlying30⟩,by kernel_rfl⟩
abbrev ints (l:List Nat):List Value:=(l.map λ (j:Nat)=>(j:Int)).map (Value.int .i64)
def Xu (taken:List Int) (j:Nat):Bool:=decide ((j:Int)∈taken)
def Z8 (n:Int) (g:List Int) (taken:List Int) (many:Int):List Int × Int:=
 if many<1\/many>YN n g then ([],1)
 else ((V3 (Xu taken) (zF g) (YN n g).toNat many.toNat).1.map λ (j:Nat)=>(j:Int),(V3 (Xu taken) (zF g) (YN n g).toNat many.toNat).2)
def Zh4 {u z:Nat->Bool}:∀ j,UR u z j<=j
 |0=>jc _
 |j + 1=>by
  have:=Zh4 (u:=u) (z:=z) j;rw [W4];split
  ·omega
  ·split<;>omega
def ZlY {j m:Nat} (h:m<=j):Zdq (j + 1) (m + 1)=Zdq j m++[j]:=by
 unfold Zdq;rw [List.range_succ,qe]
 congr 1
 ·refine qP λ t _=>by omega
 ·simp;omega
def ZbH (j m:Nat):(Zdq j m).length=m:=by unfold Zdq;simp
def Zc1 {u:Nat->Bool}:∀ j,(ZJ u j).length<=j
 |0=>jc _
 |j + 1=>by
  have:=Zc1 (u:=u) j;rw [We];split<;>omega
def U2 (l:List Nat):(ints l).length=l.length:=by simp [ints]
def Zjz {s:Sl} {T:TypeId} {xs:List Value} {k:Nat} (hk:k<=xs.length) (o:Sat R (Own s T xs::Hs) w):Sat R (Own ⟨s.a,k,s.cap⟩ T (xs.take k)::Hs) w:=by
 rcases Own.cases o with ⟨rfl,rfl,i⟩|⟨b,rest,fr,rfl,h,d⟩
 ·obtain rfl:k=0:=by simpa using hk
  exact Own.nil i
 ·have e:xs++rest=xs.take k++(xs.drop k++rest):=by rw [<-qn,qD]
  rw [e] at d h ⊢;have:=Own.of_pts d h;rw [show (xs.take k).length=k by rw [qd];omega] at this;exact this
def ZoF {n many:Int} {s st:Sl} {g taken:List Int} (hs:RoI R s g) (ht:RoI R st taken) (o:Sat R Hs w):
  Zg prog 179 #[.agg #[nI n,.slice s.a s.len s.cap],.slice st.a st.len st.cap,nI many] w λ v w'=>∃ t:Sl,v=.tuple #[.slice t.a t.len t.cap,nI (Z8 n g taken many).2]/\Sat R (Zv t ((Z8 n g taken many).1.map (Value.int .i64))::Hs) w':=by
 have A:=Wq n g;have K:=ht.len;have h0:=ht.bound;have bad:(many<1\/many>YN n g)->∀ w,Sat R (pts 0 (.cells #[] 0 (0,0))::Hs) w\/Sat R Hs w->∃ t:Sl,Value.tuple #[.slice none 0 0,nI 1]=.tuple #[.slice t.a t.len t.cap,nI (Z8 n g taken many).2]/\Sat R (Zv t ((Z8 n g taken many).1.map (Value.int .i64))::Hs) w:=λ h w o=>by
  have e:Z8 n g taken many=([],1):=by unfold Z8;rw [qf h]
  rw [e];exact ⟨⟨none,0,0⟩,rfl,Own.reads (T:=0) (Own.nil (by rcases o with h|h;exact h.drop;exact h))⟩
 apply Ztt;refine Za o λ p w o=>?_;have o:Sat R (pts p (WQ n s)::Hs) w:=o;refine ⟨λ w=>(1<=many/\many<=YN n g)/\Sat R (pts p (WQ n s)::Hs) w,Br.d (λ h=>bad (.inl h) _ (.inr o.drop)) (λ h1=>?_),?_⟩
 ·refine ⟨n,s,oA o,?_⟩
  refine (V0 hs o).u λ w o=>?_;exact ⟨_,rfl,Br.d (λ h=>bad (.inr h) _ (.inr o.drop)) (λ h=>⟨⟨by omega,by omega⟩,o⟩)⟩
 clear o;rintro _ w ⟨⟨h6,f⟩,o⟩;have l:VK n g=true:=by
  by_cases l:VK n g=true
  ·exact l
  ·unfold YN at f;rw [qc l] at f;omega
 obtain ⟨l1,l2,l3⟩:=Z7.1 l;have eT:Z8 n g taken many=((V3 (Xu taken) (zF g) (YN n g).toNat many.toNat).1.map λ (j:Nat)=>(j:Int),(V3 (Xu taken) (zF g) (YN n g).toNat many.toNat).2):=by
  unfold Z8;rw [qc (by omega)]
 rw [eT];obtain ⟨N,Q⟩:=qs A.1;obtain ⟨m,rfl⟩:=qs (show 0<=many by omega);rw [Q] at A f ⊢;rw [qo,qo];clear bad eT;generalize hu:Xu taken=u;generalize hz:zF g=z;refine ⟨n,s,oA o,?_⟩;refine (V0 hs o).use ?_;rw [Q];rintro _ w ⟨rfl,o⟩;refine ⟨_,rfl,?_⟩;refine ZcM (bytes:=1) (z:=.bool false) underlying291 (by kernel_rfl) zeroValue4 rfl (by omega) (by omega) o λ q w o=>?_
 -- which ones are taken
 refine ⟨λ i w=>∃ j:Nat,i=j/\j<=taken.length/\Sat R (Own q 4 (((List.range N).map (Xu (taken.take j))).map Value.bool)::pts p (WQ n s)::Hs) w,λ i _=>taken.length - i.toNat,⟨0,rfl,by omega,?_⟩,?_⟩
 ·have e:((List.range N).map (Xu (taken.take 0))).map Value.bool=List.replicate N (.bool false):=by
   apply j0
   ·simp
   ·intro i h1 r;simp [Xu]
  rw [e];exact o
 clear o;rintro _ _ w ⟨j,rfl,hj,o⟩;have D:=Own.len o;simp only [qa,vu] at D;refine Br.d (λ h=>?_) (λ h=>?_)
 ·have E:j<taken.length:=by omega
  refine ht.idx (eqS o) E ?_;refine ⟨n,s,oA o,?_⟩;refine (Zgn hs o).use ?_;rw [Q];rintro _ w ⟨rfl,o⟩;have x:∀ k:Nat,Xu (taken.take (j + 1)) k=(Xu (taken.take j) k||decide ((k:Int)=taken[j])):=λ k=>by
   unfold Xu;rw [qp,List.getElem?_eq_getElem E];simp only [q9,qt,qK];rw [Bool.decide_or]
  rw [Zc];refine ⟨_,rfl,Br.d (λ r=>?_) (λ r=>?_)⟩
  ·obtain ⟨k,hk⟩:=qs r.1
   refine Own.storeV (by kernel_rfl) rfl rfl o k hk (by simp;omega) λ w o=>?_;refine ⟨⟨j + 1,by omega,by omega,?_⟩,by dsimp only;omega⟩;have e:(((List.range N).map (Xu (taken.take j))).map Value.bool).set k (.bool true)=((List.range N).map (Xu (taken.take (j + 1)))).map Value.bool:=by
    rw [<-uv]
    congr 1
    apply j0
    ·simp
    ·intro i y F
     simp only [qa,vu,jd] at y F;rw [vz];simp only [qX,uC];rw [x];split
     ·rename_i h5;subst h5;rw [qE hk.symm,Bool.or_true]
     ·rw [qz (by omega),zt]
   rw [e] at o;exact o
  ·refine ⟨⟨j + 1,by omega,by omega,?_⟩,by dsimp only;omega⟩
   have e:(List.range N).map (Xu (taken.take j))=(List.range N).map (Xu (taken.take (j + 1))):=by
    refine qP λ i hi=>?_;have hi:=jC.1 hi;rw [x,qz (by omega),zt]
   rw [e] at o;exact o
 rw [qg (show taken.length<=j by omega),hu] at o
 -- the seats, one behind the other
 refine ⟨n,s,oA o,?_⟩;refine (V0 hs o).use ?_;rw [Q];rintro _ w ⟨rfl,o⟩;refine ⟨_,rfl,?_⟩;clear h hj D;refine ⟨λ sf G i w=>∃ j:Nat,i=j/\j<=N/\(∀ k,k<j->¬ m<=UR u z (k + 1))/\Sat R (Own sf 3 (ints (ZJ u j))::Own G 3 (ints (Zdq j (UR u z j)))::Own q 4 (((List.range N).map u).map Value.bool)::pts p (WQ n s)::Hs) w,
  λ _ _ i _=>N - i.toNat,⟨0,rfl,by omega,λ k h=>by omega,Own.nil (Own.nil o)⟩,?_⟩
 clear o;rintro _ sf G _ w ⟨j,rfl,hj,H,o⟩;have h7:=Zc1 (u:=u) j;have U:=Zh4 (u:=u) (z:=z) j;refine Br.d (λ h=>?_) (λ h=>?_)
 ·have I:j<N:=by omega
  have V:((List.range N).map u)[j]? =some (u j):=by rw [List.getElem?_map,List.getElem?_range I];rfl
  have J:∀ (hh:j<((List.range N).map u).length),((List.range N).map u)[j]=u j:=λ hh=>by simp
  refine ⟨λ G w=>Sat R (Own sf 3 (ints (ZJ u j))::Own G 3 (ints (if z j||u j then [] else Zdq j (UR u z j)))::Own q 4 (((List.range N).map u).map Value.bool)::pts p (WQ n s)::Hs) w,?_,?_⟩
  ·refine ⟨n,s,oA o,?_⟩
   refine (Zkz hs l2 (by omega) (by omega) (by omega) o).u λ w o=>?_;have W:z j=((G3 g ((j:Int) % g.sum)).1==0):=by rw [<-hz];rfl
   refine ⟨_,_,rfl,?_⟩;rw [<-W];refine Br.mk (λ r=>?_) (λ r=>?_)
   ·rw [r];exact Own.nil (o.swap.drop)|>.swap
   ·refine Own.idxB (o.take (Own q 4 (((List.range N).map u).map Value.bool))) (eqS (o.take (Own q 4 (((List.range N).map u).map Value.bool)))) j rfl (by simp;omega) ?_
    rw [J];refine Br.mk (λ y=>?_) (λ y=>?_)
    ·rw [r,y];exact Own.nil (o.swap.drop)|>.swap
    ·rw [r,y];exact o
  clear o;rintro _ G w o;refine Own.idxB (o.take (Own q 4 (((List.range N).map u).map Value.bool))) (eqS (o.take (Own q 4 (((List.range N).map u).map Value.bool)))) j rfl (by simp;omega) ?_;rw [J,Zc];refine Br.mk (λ y=>?_) (λ y=>?_)
  ·refine ⟨⟨j + 1,by omega,by omega,λ k hk=>?_,?_⟩,by dsimp only;omega⟩
   ·by_cases b:k=j
    ·rw [b,W4,y];simp;omega
    ·exact H k (by omega)
   ·rw [y,Bool.or_true,qf rfl] at o
    rw [X3,W4,y];simp only [vp,jl];exact o
  ·refine YA Zdn o (by rw [qa];omega) λ X w o=>?_
   have L:(if z j||u j then [] else Zdq j (UR u z j))++[j]=Zdq (j + 1) (UR u z (j + 1)):=by
    rw [W4,y,zt];simp only [qy,jq];cases h8:z j with
    |true=>simp [Zdq]
    |false=>
     simp only [qy,jq];exact (ZlY U).symm
   have B:=Zh4 (u:=u) (z:=z) (j + 1);refine YA Zdn o.swap (by rw [qa];split<;>simp [ZbH]<;>omega) λ M w o=>?_;have o:Sat R (Own M 3 (ints (Zdq (j + 1) (UR u z (j + 1))))::Own X 3 (ints (ZJ u (j + 1)))::Own q 4 (((List.range N).map u).map Value.bool)::pts p (WQ n s)::Hs) w:=by
    have e1:ints (ZJ u (j + 1))=(((ZJ u j).map λ (j:Nat)=>(j:Int))++[(j:Int)]).map (Value.int .i64):=by rw [X3,y];simp [ints]
    have e2:ints (Zdq (j + 1) (UR u z (j + 1)))=(((if z j||u j then [] else Zdq j (UR u z j)).map λ (j:Nat)=>(j:Int))++[(j:Int)]).map (Value.int .i64):=by rw [<-L];simp only [ints,qe,qi,jR]
    rw [e1,e2];exact o
   have c:=Own.len o;rw [U2,ZbH] at c;refine Br.e (λ F=>?_) (λ F=>?_)
   ·have Y:=ZhG (u:=u) (z:=z) (many:=m) (N:=N) (by omega) I (by omega) H
    rw [Y];refine ⟨M,rfl,?_⟩;have:=Own.reads o;rw [show UR u z (j + 1)=m by omega] at this;exact Sat.cons (λ R' h=>h.drop.drop.drop) this
   ·refine ⟨⟨j + 1,by omega,by omega,λ k hk hr=>?_,o.swap⟩,by dsimp only;omega⟩
    by_cases b:k=j
    ·subst b
     have:UR u z (k + 1)<=UR u z k + 1:=by rw [W4];split<;>(try split)<;>omega
     have:UR u z k<m:=by
      by_cases S:k=0
      ·rw [S];simp only [UR];omega
      ·have:=H (k - 1) (by omega)
       rw [show k - 1 + 1=k by omega] at this;omega
     omega
    ·exact H k (by omega) hr
 ·obtain rfl:j=N:=by omega
  have C:=ZhJ (u:=u) (z:=z) (many:=m) (N:=j) (by omega) H;have O:=Own.len o;have P:=Own.cap o;rw [U2] at O;rw [C];refine Br.d (λ F=>?_) (λ F=>?_)
  ·rw [qf (by omega)]
   exact ⟨⟨none,0,0⟩,rfl,Own.reads (T:=0) (Own.nil o.drop.drop.drop.drop)⟩
  ·rw [qc (by omega)]
   refine ⟨by omega,by omega,⟨sf.a,m,sf.cap⟩,rfl,?_⟩;have:=Own.reads (Zjz (k:=m) (by rw [U2];omega) o);rw [show (ints (ZJ u j)).take m=ints ((ZJ u j).take m) by simp [ints,jk]] at this;exact Sat.cons (λ R' h=>h.drop.drop.drop) this
def _root_.Go.VC.Sat.imp {A B:HP} (h:∀ m,A m->B m) (d:Sat R (A::Hs) w):Sat R (B::Hs) w:=let ⟨m,a,b,c⟩:=d;⟨m,h m a,b,c⟩
def Zcr {n k:Int} {s:Sl} {g:List Int} (hs:RoI R s g) (z:∀ x∈g,1<=x/\x<=10) (hl:g.length<=4) (r:1<=g.length) (hk:0<=k) (b:k<=1000) (o:Sat R Hs w):
  Zg prog 259 #[.agg #[nI n,.slice s.a s.len s.cap],nI k] w λ v w'=>v=nI (ZfW g k.toNat)/\Sat R Hs w':=by
 have m:=hs.len;have D:=Gu z r;apply Zsz;refine Za o λ p w o=>?_;have o:Sat R (pts p (WQ n s)::Hs) w:=o;refine ⟨n,s,oA o,?_⟩;refine (X0 hs (λ x l=>by have:=z x l;omega) hl o).use ?_;rintro _ w ⟨rfl,o⟩;refine ⟨_,rfl,Nz.mk (by omega) ?_⟩;rw [jj hk];have m0:=vH k (show g.sum≠0 by omega);have m1:=vk k (show 0<g.sum by omega);have c:=ZdE (g:=g) (λ x l=>by have:=z x l;omega);have q0:=Int.ediv_nonneg hk (show 0<=g.sum by omega);have q1:k / g.sum<=k:=Int.ediv_le_self _ hk;have eg:ZfW g k.toNat=k / g.sum * g.length + Zap g (k % g.sum):=by unfold ZfW;rw [jx hk]
 rw [eg];generalize k % g.sum=a at *;generalize t:k / g.sum=q at *;have A:=(ZbJ z m0 m1).2.1;refine ⟨λ u i w=>∃ j:Nat,i=j/\j<=g.length/\0<=u/\u<(g.drop j).sum/\u<=a/\j + Zap (g.drop j) u=Zap g a/\Sat R (pts p (WQ n s)::Hs) w,λ _ i _=>g.length - i.toNat,⟨0,rfl,by omega,by omega,m1,by omega,by simp,o⟩,?_⟩;clear o;rintro _ u _ w ⟨j,rfl,hj,E,e,F,f,o⟩;have y:j<g.length:=by
  by_cases y:j<g.length
  ·exact y
  ·rw [jg (by omega)] at e;simp at e;omega
 have l:=z g[j] (qh _);rw [qv y,U4] at f;rw [qv y,vn] at e;refine ⟨s,oA o,hs.idx (eqS o) y ?_⟩;refine Br.d (λ h=>?_) (λ h=>?_)
 ·refine ⟨s,oA o,hs.idx (eqS o) y ?_⟩
  rw [qc (by omega)] at f;rw [Zc (x:=u - g[j]),Zc];exact ⟨⟨j + 1,by omega,by omega,by omega,by omega,by omega,by omega,o⟩,by dsimp only;omega⟩
 ·rw [qf (by omega)] at f
  refine Zi o λ w o=>?_;refine ⟨n,s,oS,s,oS,?_⟩;refine (X0 hs (λ x l=>by have:=z x l;omega) hl o).use ?_;rintro _ w ⟨rfl,o⟩;refine ⟨_,rfl,o,Nz.mk (by omega) ⟨?_,o.drop⟩⟩;rw [m,j6 hk,t];have G:0<=q * (g.length:Int)/\q * (g.length:Int)<=4000:=⟨uB q0 (by omega),by
   have:=zl (show q<=1000 by omega) (show (g.length:Int)<=4 by omega) (by omega) (by omega);omega⟩
  rw [Zc (x:=q),Zc (x:=q * (g.length:Int)),Zc]
  congr 1;omega
def ZmI {s:Sl} {xs:List Value} {i m:Nat} (h:i + m<=xs.length) (d:Sat R (Zv s xs::Hs) w):Sat R (Zv ⟨X4 s.a i s.cap 1,m,s.cap - i⟩ ((xs.drop i).take m)::Hs) w:=
 Sat.imp (λ _ a=>by
  have b:=SlR.drop (k:=i) a (by omega);exact SlR.take (k:=m) b (by rw [qx];omega)) d
def ZkU {n many:Int} {s st:Sl} {g taken:List Int} (hs:RoI R s g) (ht:RoI R st taken) (o:Sat R Hs w):
  Zg prog 199 #[.agg #[nI n,.slice s.a s.len s.cap],.slice st.a st.len st.cap,nI many] w λ v w'=>∃ t:Sl,v=.tuple #[.slice t.a t.len t.cap,nI (Z8 n g taken many).2]/\Sat R (Zv t ((Z8 n g taken many).1.map (Value.int .i64))::Hs) w':=by
 have F:=Wq n g;have bad:(many<1\/many>YN n g)->∀ w,Sat R Hs w->∃ t:Sl,Value.tuple #[.slice none 0 0,nI 1]=.tuple #[.slice t.a t.len t.cap,nI (Z8 n g taken many).2]/\Sat R (Zv t ((Z8 n g taken many).1.map (Value.int .i64))::Hs) w:=λ h w o=>by
  have e:Z8 n g taken many=([],1):=by unfold Z8;rw [qf h]
  rw [e];exact ⟨⟨none,0,0⟩,rfl,Own.reads (T:=0) (Own.nil o)⟩
 apply Zta;refine Za o λ p w o=>?_;have o:Sat R (pts p (WQ n s)::Hs) w:=o;refine ⟨λ w=>(1<=many/\many<=YN n g)/\Sat R (pts p (WQ n s)::Hs) w,Br.d (λ h=>bad (.inl h) _ o.drop) (λ h1=>?_),?_⟩
 ·refine ⟨n,s,oA o,?_⟩
  refine (W9 hs o).use ?_;rintro _ w ⟨rfl,o⟩;exact ⟨_,rfl,Br.d (λ h=>bad (.inr h) _ o.drop) (λ h=>⟨⟨by omega,by omega⟩,o⟩)⟩
 clear o;rintro _ w ⟨⟨K,E⟩,o⟩;have D:VK n g=true:=by
  by_cases D:VK n g=true
  ·exact D
  ·unfold YN at E;rw [qc D] at E;omega
 obtain ⟨l1,M,l3⟩:=Z7.1 D;have eT:Z8 n g taken many=((V3 (Xu taken) (zF g) (YN n g).toNat many.toNat).1.map λ (j:Nat)=>(j:Int),(V3 (Xu taken) (zF g) (YN n g).toNat many.toNat).2):=by
  unfold Z8;rw [qc (by omega)]
 rw [eT];obtain ⟨N,S⟩:=qs F.1;obtain ⟨m,rfl⟩:=qs (show 0<=many by omega);rw [S] at F E ⊢;rw [qo,qo];clear bad eT;have g0:=λ k (_:k + 1<N)=>(Zhj M (by omega) k).1;have g1:=λ k (_:k + 1<N)=>(Zhj M (by omega) k).2;generalize hu:Xu taken=u;generalize zF g=z at *;refine ⟨λ sf i w=>∃ j:Nat,i=j/\j<=N/\Sat R (Own sf 3 (ints (ZJ u j))::pts p (WQ n s)::Hs) w,λ _ i _=>N - i.toNat,⟨0,rfl,by omega,Own.nil o⟩,?_⟩;clear o;rintro _ sf _ w ⟨j,rfl,hj,o⟩;have h0:=Zc1 (u:=u) j;refine ⟨n,s,oA o,?_⟩;refine (W9 hs o).use ?_;rw [S];rintro _ w ⟨rfl,o⟩;refine ⟨_,rfl,Br.d (λ h=>?_) (λ h=>?_)⟩
 ·refine (ZjS ht o).use ?_
  rintro _ w ⟨rfl,o⟩;have V:u j=decide ((j:Int)∈taken):=by rw [<-hu];rfl
  refine ⟨_,rfl,?_⟩;rw [<-V,Zc];refine Br.nb (λ G=>?_) (λ G=>?_)
  ·refine YA Zdn o (by rw [qa];omega) λ h3 w o=>?_
   refine ⟨⟨j + 1,by omega,by omega,?_⟩,by dsimp only;omega⟩;have e1:ints (ZJ u (j + 1))=(((ZJ u j).map λ (j:Nat)=>(j:Int))++[(j:Int)]).map (Value.int .i64):=by rw [X3,G];simp [ints]
   rw [e1];exact o
  ·refine ⟨⟨j + 1,by omega,by omega,?_⟩,by dsimp only;omega⟩
   rw [X3,G,qf rfl,jl];exact o
 obtain rfl:j=N:=by omega
 have H:=Own.len o;have C:=Own.cap o;rw [U2] at H;have gen:∀ k,(ZJ u j)[k]? =some ((ZJ u j).getD k 0)↔k<(ZJ u j).length:=λ k=>by
  rw [List.getD_eq_getElem?_getD];constructor
  ·intro h;exact (List.getElem?_eq_some_iff.1 h).1
  ·intro h;rw [List.getElem?_eq_getElem h];rfl
 generalize A:ZJ u j=f at *;refine Br.d (λ h4=>?_) (λ h4=>?_)
 ·have:=ZhI (u:=u) (z:=z) (grp:=ZfW g) (many:=m) (N:=j) g0 g1 (by omega) (λ k hk=>by rw [A] at hk;omega)
  rw [this,A,qf (by omega)];exact ⟨⟨none,0,0⟩,rfl,Own.reads (T:=0) (Own.nil o.drop.drop)⟩
 refine ⟨λ i w=>∃ k:Nat,i=k/\k<=f.length/\(∀ q,q<k->¬ Zo6 f (ZfW g) m q)/\Sat R (Own sf 3 (ints f)::pts p (WQ n s)::Hs) w,λ i _=>f.length - i.toNat,⟨0,rfl,by omega,λ k h=>by omega,o⟩,?_⟩;clear o h;rintro _ _ w ⟨k,rfl,hk,O,o⟩;rw [Zc (x:=(k:Int) + m),Zc (x:=(k:Int) + m - 1),Zc (x:=(m:Int) - 1),Zc (x:=(k:Int) + 1)];refine Br.d (λ h=>?_) (λ h=>?_)
 ·have y:k<f.length:=by omega
  have r:k + m - 1<f.length:=by omega
  have I:=λ i (hi:i<f.length)=>by
   have G:(ZJ u j)[i]? =some f[i]:=by rw [A];exact List.getElem?_eq_getElem hi
   exact (Vj G).1
  have b1:=I k y;have b2:=I (k + m - 1) r;have next:¬ Zo6 f (ZfW g) m k->∀ w,Sat R (Own sf 3 (ints f)::pts p (WQ n s)::Hs) w->(∃ q:Nat,(k:Int) + 1=q/\q<=f.length/\(∀ J,J<q->¬ Zo6 f (ZfW g) m J)/\Sat R (Own sf 3 (ints f)::pts p (WQ n s)::Hs) w)/\f.length - ((k:Int) + 1).toNat<f.length - (k:Int).toNat:=λ W w o=>
   ⟨⟨k + 1,by omega,by omega,λ q L=>by
    by_cases X:q=k
    ·rw [X];exact W
    ·exact O q (by omega),o⟩,by omega⟩
  have l:Zo6 f (ZfW g) m k↔((f[k + m - 1]:Int) - f[k]=m - 1/\ZfW g f[k]=ZfW g f[k + m - 1]):=by
   unfold Zo6;constructor
   ·rintro ⟨a,b,B,P,hd,h7,Y⟩
    rw [List.getElem?_eq_getElem y] at B;rw [List.getElem?_eq_getElem r] at P;obtain rfl:=jp B;obtain rfl:=jp P;exact ⟨by omega,Y⟩
   ·rintro ⟨hd,Y⟩
    exact ⟨_,_,List.getElem?_eq_getElem y,List.getElem?_eq_getElem r,by omega,by omega,Y⟩
  have c:∀ i (hi:i<f.length),(f.map λ (j:Nat)=>(j:Int))[i]'(by rw [qa];exact hi)=(f[i]:Int):=λ i hi=>by simp
  refine Own.ix (xs:=f.map λ (j:Nat)=>(j:Int)) o (eqS o) (k + m - 1) (by omega) (by rw [qa];exact r) ?_;rw [c _ r];refine Zi o λ w o=>?_;refine Own.ix (xs:=f.map λ (j:Nat)=>(j:Int)) o Wk k rfl (by rw [qa];exact y) ?_;rw [c _ y,Zc (x:=(f[k + m - 1]:Int) - f[k])];refine Br.e (λ Q=>?_) (λ Q=>next (λ o=>Q (l.1 o).1) _ o);refine ⟨n,s,oS,?_⟩;refine Own.ix (xs:=f.map λ (j:Nat)=>(j:Int)) o Wk k rfl (by rw [qa];exact y) ?_;rw [c _ y];refine ⟨n,s,oS,?_⟩;refine (Zcr hs M (by omega) (by omega) (by omega) (by omega) o).use ?_;rintro _ w ⟨rfl,o⟩;refine ⟨_,rfl,o,?_⟩;refine (Zcr hs M (by omega) (by omega) (by omega) (by omega) o).use ?_;rintro _ w ⟨rfl,o⟩;refine ⟨_,rfl,o,?_⟩;rw [qo,qo];refine Br.e (λ U=>?_) (λ U=>next (λ o=>U (l.1 o).2) _ o);refine ⟨by omega,by omega,by omega,by omega,⟨X4 sf.a k sf.cap 1,m,sf.cap - k⟩,?_,?_⟩
  ·rw [Zke (u:=u) (z:=z) (grp:=ZfW g) (many:=m) (N:=j) g0 g1 (by omega) (by rw [A];exact l.2 ⟨Q,U⟩) (by rw [A];exact O),show ((k:Int) + m).toNat - (k:Int).toNat=m by omega]
   rfl
  ·rw [Zke (u:=u) (z:=z) (grp:=ZfW g) (many:=m) (N:=j) g0 g1 (by omega) (by rw [A];exact l.2 ⟨Q,U⟩) (by rw [A];exact O),A]
   have:=ZmI (i:=k) (m:=m) (by rw [U2];omega) (Own.reads o);rw [show ((ints f).drop k).take m=ints ((f.drop k).take m) by simp [ints,jk,jo]] at this;exact Sat.cons (λ R' h=>h.drop) this
 ·have:=ZhI (u:=u) (z:=z) (grp:=ZfW g) (many:=m) (N:=j) g0 g1 (by omega) (λ q L=>by rw [A] at L ⊢;exact O q (by omega))
  rw [this,A,qc (by omega)];refine ⟨by omega,by omega,⟨sf.a,m,sf.cap⟩,rfl,?_⟩;have:=Own.reads (Zjz (k:=m) (by rw [U2];omega) o);rw [show (ints f).take m=ints (f.take m) by simp [ints,jk]] at this;exact Sat.cons (λ R' h=>h.drop) this
def inR (x:Int):Bool:=decide (0<=x/\x<=10000)
def Zah (l:List Int):Bool:=decide (1<=l.length/\l.length<=8) && decide (∀ k,k<l.length->(0<=l.getD k 0/\l.getD k 0<=10000)/\(0<k->l.getD k 0<=l.getD (k - 1) 0))
def Y1 (sold:List Int) (k:Nat):Int:=(sold.drop k).sum
def Yc (lim sold:List Int):Bool:=Zah lim && (decide (sold.length=lim.length) && decide (∀ k,k<lim.length->(0<=sold.getD k 0/\sold.getD k 0<=10000)/\Y1 sold k<=lim.getD k 0))
def mnF (x:Nat->Int):Nat->Int
 |0=>10000
 |k + 1=>if x k<mnF x k then x k else mnF x k
def VI (lim sold:List Int) (k:Nat):Int:=lim.getD k 0 - Y1 sold k
def Xb (lim sold:List Int) (c:Int):Int × Int:=if Yc lim sold=true/\0<=c/\c<lim.length then (mnF (VI lim sold) (c.toNat + 1),0) else (0,1)
def YP (lim sold:List Int) (c many:Int):List Int × Int:=
 if (Xb lim sold c).2≠0\/many<1\/many>10000 then ([],1) else if many>(Xb lim sold c).1 then ([],3)
 else (sold.set c.toNat (sold.getD c.toNat 0 + many),0)
def ZaJ (lim sold:List Int) (c many:Int):List Int × Int:=
 if (Xb lim sold c).2≠0\/many<1\/many>sold.getD c.toNat 0 then ([],1) else (sold.set c.toNat (sold.getD c.toNat 0 - many),0)
def Zjb (x:Nat->Int) (a b:Nat) (L:Int):Prop:=L<=10000/\(∀ k,a<=k->k<b->L<=x k)/\(L=10000\/∃ k,a<=k/\k<b/\L=x k)
def ZjI (x:Nat->Int):∀ k,Zjb x 0 k (mnF x k)
 |0=>⟨by simp [mnF],λ k i d=>by omega,.inl rfl⟩
 |k + 1=>by
  obtain ⟨d,o,h⟩:=ZjI x k;unfold mnF;split
  ·exact ⟨by omega,λ j a b=>by
    by_cases hj:j=k
    ·rw [hj];exact qG _
    ·have:=o j a (by omega);omega,.inr ⟨k,by omega,by omega,rfl⟩⟩
  ·refine ⟨d,λ j a b=>?_,?_⟩
   ·by_cases hj:j=k
    ·rw [hj];omega
    ·exact o j a (by omega)
   ·rcases h with h|⟨j,a,b,c⟩
    ·exact .inl h
    ·exact .inr ⟨j,a,by omega,c⟩
def Zjb.eq {x:Nat->Int} {a b:Nat} {L L':Int} (h:Zjb x a b L) (h':Zjb x a b L'):L=L':=by
 obtain ⟨j,y,z⟩:=h;obtain ⟨g,d,o⟩:=h';have a1:L<=L':=by
  rcases o with h|⟨k,i,u,v⟩
  ·omega
  ·rw [v];exact y k i u
 have a2:L'<=L:=by
  rcases z with h|⟨k,i,u,v⟩
  ·omega
  ·rw [v];exact d k i u
 omega
def Zjb.step {x:Nat->Int} {a b:Nat} {L:Int} (h:Zjb x (a + 1) b L) (o:a<b):Zjb x a b (if x a<L then x a else L):=by
 obtain ⟨v,i,y⟩:=h;split
 ·exact ⟨by omega,λ k u d=>by
   by_cases hk:k=a
   ·rw [hk];exact qG _
   ·have:=i k (by omega) d;omega,.inr ⟨a,by omega,o,rfl⟩⟩
 ·refine ⟨v,λ k u d=>?_,?_⟩
  ·by_cases hk:k=a
   ·rw [hk];omega
   ·exact i k (by omega) d
  ·rcases y with h|⟨k,u,d,z⟩
   ·exact .inl h
   ·exact .inr ⟨k,by omega,d,z⟩
def Zjb.skip {x:Nat->Int} {a b:Nat} {L:Int} (h:Zjb x (a + 1) b L) (d:¬ a<b):Zjb x a b L:=by
 obtain ⟨o,y,i⟩:=h;refine ⟨o,λ k u v=>by omega,?_⟩;rcases i with h|⟨k,u,v,z⟩
 ·exact .inl h
 ·omega
def XF {sold:List Int} {k:Nat} (h:k<sold.length):Y1 sold k=sold[k] + Y1 sold (k + 1):=by
 unfold Y1;rw [qv h,vn]
def WF {sold:List Int} {k:Nat} (h:sold.length<=k):Y1 sold k=0:=by
 unfold Y1;rw [jg h];rfl
def Zfs {sold:List Int} (h:∀ x∈sold,0<=x/\x<=10000):∀ k,0<=Y1 sold k/\Y1 sold k<=10000 * (sold.length - k:Nat):=by
 intro k;unfold Y1;rw [<-qx];have:∀ x∈sold.drop k,0<=x/\x<=10000:=λ x d=>h x (jn d);generalize sold.drop k=l at *
 induction l with
 |nil=>simp
 |cons a l ih=>
  have:=ih λ x d=>this x (qj _ d);have:=‹∀ x∈a::l,0<=x/\x<=10000› a qq;simp only [vn,qr];omega
def ZX {l:List Int} {k:Nat} (h:k<l.length):l.getD k 0=l[k]:=by rw [List.getD_eq_getElem?_getD,List.getElem?_eq_getElem h];rfl
def Yu {l:List Int}:Zah l=true↔(1<=l.length/\l.length<=8)/\∀ k (h:k<l.length),(0<=l[k]/\l[k]<=10000)/\(0<k->l[k]<=l.getD (k - 1) 0):=by
 unfold Zah;rw [ql,qR,qR];constructor
 ·rintro ⟨a,d⟩
  exact ⟨a,λ k h=>by have:=d k h;rw [ZX h] at this;exact this⟩
 ·rintro ⟨a,d⟩
  exact ⟨a,λ k h=>by rw [ZX h];exact d k h⟩
def ZP {lim sold:List Int}:Yc lim sold=true↔Zah lim=true/\sold.length=lim.length/\∀ k,k<lim.length->(0<=sold.getD k 0/\sold.getD k 0<=10000)/\Y1 sold k<=lim.getD k 0:=by
 unfold Yc;rw [ql,ql,qR,qR]
def Uw {lim sold:List Int} (h:¬ (Zah lim=true/\sold.length=lim.length/\∀ k,k<lim.length->(0<=sold.getD k 0/\sold.getD k 0<=10000)/\Y1 sold k<=lim.getD k 0)):Yc lim sold=false:=by
 rw [<-jH,ZP];exact h
def Gt {x:Int} (a:Sat R Hs w):Zg prog 234 #[nI x] w λ v w'=>v=.bool (inR x)/\Sat R Hs w':=by
 apply ZsV;unfold inR;refine Br.d (λ h=>⟨?_,a⟩) (λ h=>⟨?_,a⟩)
 ·congr 1;rw [qJ];omega
 ·rw [qz (by omega)]
def Zea {sl ss:Sl} {lim sold:List Int} {t:Value} {A:Nat->List HP} (hl:RoI R sl lim) (hs:RoI R ss sold)
  (n:∀ j w,j<lim.length->Sat R (A (j + 1)) w->XP prog cl t [nI j,nI (VI lim sold j)] w λ e w'=>e=xR (.tuple #[])/\Sat R (A j) w')
  (o:Sat R (A lim.length) w):
  Zg prog 201 #[.slice sl.a sl.len sl.cap,.slice ss.a ss.len ss.cap,t] w λ v w'=>v=.bool (Yc lim sold)/\∃ j,Sat R (A j) w'/\(Yc lim sold=true->j=0):=by
 have H:=hl.len;have N:=hs.len;have O:=hl.bound;have Q:=hs.bound;apply Zs8;have no:∀ j w,Sat R (A j) w->Yc lim sold=false->Value.bool false=.bool (Yc lim sold)/\∃ j,Sat R (A j) w/\(Yc lim sold=true->j=0):=λ j w h e=>⟨by rw [e],j,h,λ h=>by rw [e] at h;cases h⟩;have nl:¬ (1<=lim.length/\lim.length<=8)->Yc lim sold=false:=λ h=>Uw λ m=>h (Yu.1 m.1).1;refine ⟨λ w=>(1<=lim.length/\lim.length<=8/\sold.length=lim.length)/\Sat R (A lim.length) w,?_,?_⟩
 ·refine Br.d (λ h=>no _ _ o (nl (by omega))) (λ M=>Br.d (λ h=>no _ _ o (nl (by omega))) (λ m=>Br.ne (λ h=>no _ _ o (Uw λ I=>by omega)) (λ I=>⟨⟨by omega,by omega,by omega⟩,o⟩)))
 clear o;rintro _ w ⟨⟨M,m,I⟩,o⟩;refine ⟨λ J p i w=>∃ j:Nat,i=(j:Int) - 1/\j<=lim.length/\J=Y1 sold j/\(∀ x∈sold.drop j,0<=x/\x<=10000)/\
   (∀ k (h:k<lim.length),j<=k->(0<=lim[k]/\lim[k]<=10000)/\(0<k->lim[k]<=lim.getD (k - 1) 0))/\p=decide (∀ k,k<lim.length->j<=k->Y1 sold k<=lim.getD k 0)/\Sat R (A j) w,
  λ _ _ i _=>(i + 1).toNat,⟨lim.length,?_,by omega,?_,?_,λ k h h'=>by omega,?_,o⟩,?_⟩
 ·rw [H,Zc]
 ·rw [WF (by omega)]
 ·rw [jg (by omega)];simp
 ·rw [qE];intro k h h';omega
 clear o;rintro _ _ p _ w ⟨j,rfl,hj,rfl,q,f,rfl,o⟩;refine Br.d (λ h=>?_) (λ h=>?_)
 ·obtain ⟨i,rfl⟩:∃ i,j=i + 1:=⟨j - 1,by omega⟩
  rw [show ((i + 1:Nat):Int) - 1=(i:Int) by omega];have y:i<lim.length:=by omega
  have g:i<sold.length:=by omega
  have nlim:¬ ((0<=lim[i]/\lim[i]<=10000)/\(0<i->lim[i]<=lim.getD (i - 1) 0))->Yc lim sold=false:=λ h=>Uw λ m=>h ((Yu.1 m.1).2 i y);have nsold:¬ (0<=sold[i]/\sold[i]<=10000)->Yc lim sold=false:=λ h=>Uw λ m=>h (by have:=(m.2.2 i y).1;rw [ZX g] at this;exact this);refine ⟨λ w=>(inR lim[i]=true/\inR sold[i]=true/\(0<i->lim[i]<=lim.getD (i - 1) 0))/\Sat R (A (i + 1)) w,?_,?_⟩
  ·refine Zi o λ w o=>?_
   refine Ro.ix hl Wk i rfl y ?_;refine (Gt o).u λ w o=>?_;refine ⟨_,rfl,o,Br.nb (λ h=>no _ _ o (nlim λ m=>by unfold inR at h;have:=qQ h;omega)) (λ z=>?_)⟩;refine Ro.ix hs Wk i rfl g ?_;refine (Gt o).u λ w o=>?_;refine ⟨_,rfl,o,Br.nb (λ h=>no _ _ o (nsold λ m=>by unfold inR at h;have:=qQ h;omega)) (λ s=>?_)⟩;refine Br.d (λ L=>?_) (λ L=>⟨⟨z,s,λ h=>by omega⟩,o⟩);refine Ro.ix hl Wk i rfl y ?_;refine Ro.ix hl Wk (i - 1) (by rw [Zc];omega) (by omega) ?_;refine Br.d (λ D=>no _ _ o (nlim λ U=>?_)) (λ D=>⟨⟨z,s,λ _=>by rw [ZX (by omega)];omega⟩,o⟩);have:=U.2 (by omega);rw [ZX (by omega)] at this;omega
  clear o;rintro _ w ⟨⟨z,s,L⟩,o⟩;have z:=qF z;have s:=qF s;have E:∀ x∈sold.drop i,0<=x/\x<=10000:=λ x G=>by
   rw [qv g] at G;rcases qk.1 G with rfl|G
   ·exact s
   ·exact q x G
  have V:=XF g;have W:0<=Y1 sold (i + 1)/\Y1 sold (i + 1)<=80000:=by
   have:=Zfs (sold:=sold.drop (i + 1)) q 0;unfold Y1 at this ⊢;rw [zk] at this;rw [qx] at this;omega
  have l:wI (lim[i] - Y1 sold i)=VI lim sold i:=by
   rw [Zc];unfold VI;rw [ZX y]
  have F:wI (Y1 sold (i + 1) + sold[i])=Y1 sold i:=by rw [Zc];omega
  have hk:wI ((i:Int) - 1)=(i:Int) - 1:=Zc;have fin:∀ w,Sat R (A i) w->∀ b:Bool,b=(decide (∀ k,k<lim.length->i + 1<=k->Y1 sold k<=lim.getD k 0) && decide (Y1 sold i<=lim[i]))->
    (∃ j:Nat,(i:Int) - 1=(j:Int) - 1/\j<=lim.length/\Y1 sold i=Y1 sold j/\(∀ x∈sold.drop j,0<=x/\x<=10000)/\
     (∀ k (h:k<lim.length),j<=k->(0<=lim[k]/\lim[k]<=10000)/\(0<k->lim[k]<=lim.getD (k - 1) 0))/\b=decide (∀ k,k<lim.length->j<=k->Y1 sold k<=lim.getD k 0)/\Sat R (A j) w)/\((i:Int) - 1 + 1).toNat<((i:Int) + 1).toNat:=λ w o b X=>by
   refine ⟨⟨i,rfl,by omega,rfl,E,λ k h h'=>?_,?_,o⟩,by omega⟩
   ·by_cases r:k=i
    ·subst r;exact ⟨z,L⟩
    ·exact f k h (by omega)
   ·rw [X,<-Bool.decide_and,qJ]
    constructor
    ·rintro ⟨a,b⟩ k c d
     by_cases r:k=i
     ·subst r;rw [ZX y];exact b
     ·exact a k c (by omega)
    ·intro a
     exact ⟨λ k c d=>a k c (by omega),by have:=a i y (by omega);rw [ZX y] at this;exact this⟩
  refine Ro.ix hs (eqS o) i rfl g ?_;rw [F,hk];refine Br.d (λ D=>?_) (λ D=>?_)
  ·refine Ro.ix hl (eqS o) i rfl y (Ro.ix hl (eqS o) i rfl y ?_)
   rw [l];refine (n i w y o).mono ?_;rintro _ w ⟨rfl,o⟩;exact ⟨rfl,fin w o _ (by rw [qE D];rfl)⟩
  ·refine Ro.ix hl (eqS o) i rfl y ?_
   rw [l];refine (n i w y o).mono ?_;rintro _ w ⟨rfl,o⟩;exact ⟨rfl,fin w o _ (by rw [qz D];rfl)⟩
 ·obtain rfl:j=0:=by omega
  have e:Yc lim sold=decide (∀ k,k<lim.length->0<=k->Y1 sold k<=lim.getD k 0):=by
   rw [vG,ZP,qR];constructor
   ·intro h k z _;exact (h.2.2 k z).2
   ·intro h
    refine ⟨Yu.2 ⟨⟨M,m⟩,λ k z=>f k z (by omega)⟩,I,λ k z=>⟨?_,h k z (by omega)⟩⟩;rw [ZX (by omega)];exact q _ (by rw [zk];exact qh _)
  exact ⟨by rw [e],0,o,λ _=>rfl⟩
def Zg9 (b:Nat) (x:Nat->Int) (j c:Nat):HP:=λ h=>∃ L,Zjb x j c L/\pts b (.cells [nI L].toArray 3 (0,0)) h
def Zec {b j c:Nat} {x:Nat->Int} (a:Sat R (Zg9 b x j c::Hs) w):∃ L,Zjb x j c L/\Sat R (pts b (.cells [nI L].toArray 3 (0,0))::Hs) w:=
 let ⟨h,⟨L,d,o⟩,hd,hs⟩:=a
 ⟨L,d,h,o,hd,hs⟩
def ZcR {b j c:Nat} {x:Nat->Int} {L:Int} (a:Zjb x j c L) (d:Sat R (pts b (.cells [nI L].toArray 3 (0,0))::Hs) w):Sat R (Zg9 b x j c::Hs) w:=
 Sat.imp (λ _ h=>⟨L,a,h⟩) d
def Zlh {o bl:Nat} {c:Int} {x:Nat->Int} {j:Nat} (a:Sat R (Zg9 bl x (j + 1) (c + 1).toNat::pts o (.cells [nI c].toArray 3 (0,0))::Hs) w):
  Zg prog 202 #[nI j,nI (x j),nP o,nP bl] w λ v w'=>v=.tuple #[]/\Sat R (Zg9 bl x j (c + 1).toNat::pts o (.cells [nI c].toArray 3 (0,0))::Hs) w':=by
 obtain ⟨L,i,a⟩:=Zec a;apply Zox;refine Zb.mk rfl ⟨c,oA a,Br.d (λ h=>?_) (λ h=>⟨rfl,ZcR (i.skip (by omega)) a⟩)⟩;refine Zb.mk rfl ⟨L,oA a,?_⟩;refine sRu a λ w a=>?_;exact ⟨rfl,ZcR (i.step (by omega)) a⟩
def ZcQ {sl ss:Sl} {lim sold:List Int} {c:Int} (hl:RoI R sl lim) (hs:RoI R ss sold) (o:Sat R Hs w):
  Zg prog 123 #[.slice sl.a sl.len sl.cap,.slice ss.a ss.len ss.cap,nI c] w λ v w'=>v=.tuple #[nI (Xb lim sold c).1,nI (Xb lim sold c).2]/\Sat R Hs w':=by
 have g:=hl.len;have l:=hl.bound;have no:¬ (Yc lim sold=true/\0<=c/\c<lim.length)->Xb lim sold c=(0,1):=λ h=>by unfold Xb;rw [qc h]
 apply Zt8;refine Za o λ u w o=>?_;refine Za o λ bl w o=>?_;have o:Sat R (pts bl (.cells [nI 0].toArray 3 (0,0))::pts u (.cells [nI c].toArray 3 (0,0))::Hs) w:=o;refine sRu o λ w o=>?_;have o:Sat R (pts bl (.cells [nI 10000].toArray 3 (0,0))::pts u (.cells [nI c].toArray 3 (0,0))::Hs) w:=o;by_cases m:c<lim.length
 ·have z:Zjb (VI lim sold) lim.length (c + 1).toNat 10000:=⟨by omega,λ k y i=>by omega,.inl rfl⟩
  refine (Zea (A:=λ j=>Zg9 bl (VI lim sold) j (c + 1).toNat::pts u (.cells [nI c].toArray 3 (0,0))::Hs) hl hs (λ j w _ o=>XP.mk (by kernel_rfl) ((Zlh o).use λ v w' h=>⟨by rw [h.1],h.2⟩)) (ZcR z o)).use ?_;rintro _ w ⟨rfl,j,o,hj⟩;refine ⟨_,rfl,Br.nb (λ h=>⟨?_,o.drop.drop⟩) (λ y=>?_)⟩
  ·rw [no (λ i=>by rw [h] at i;cases i.1)]
  obtain rfl:=hj y;obtain ⟨L,n,o⟩:=Zec o;refine ⟨c,oA o,Br.d (λ h=>⟨by rw [no (λ i=>by omega)],o.drop.drop⟩) (λ i=>?_)⟩;refine ⟨c,oA o,Br.d (λ h=>⟨by rw [no (λ i=>by omega)],o.drop.drop⟩) (λ p=>?_)⟩;refine ⟨L,oA o,?_,o.drop.drop⟩;have e:Xb lim sold c=(mnF (VI lim sold) (c.toNat + 1),0):=by unfold Xb;rw [qf ⟨y,by omega,m⟩]
  rw [e,show c.toNat + 1=(c + 1).toNat by omega];rw [n.eq (ZjI _ _)]
 ·have z:Zjb (λ _=>0) 0 0 10000:=⟨by omega,λ k y i=>by omega,.inl rfl⟩
  refine (Zea (A:=λ j=>exs (λ L=>pts bl (.cells [nI L].toArray 3 (0,0)))::pts u (.cells [nI c].toArray 3 (0,0))::Hs) hl hs (λ j w _ o=>XP.mk (by kernel_rfl) ?_) (Sat.exs.2 ⟨10000,o⟩)).use ?_
  ·obtain ⟨L,o⟩:=Sat.exs.1 o
   refine Zg.use (Q:=λ v w'=>v=.tuple #[]/\Sat R (exs (λ L=>pts bl (.cells [nI L].toArray 3 (0,0)))::pts u (.cells [nI c].toArray 3 (0,0))::Hs) w') (Zox _ _ _ _ _ _ ?_) λ v w' h=>⟨by rw [h.1],h.2⟩;refine Zb.mk rfl ⟨c,oA o,Br.d (λ h=>?_) (λ h=>⟨rfl,Sat.exs.2 ⟨L,o⟩⟩)⟩;refine Zb.mk rfl ⟨L,oA o,?_⟩;refine sRu o λ w o=>?_;exact ⟨rfl,Sat.exs.2 ⟨_,o⟩⟩
  rintro _ w ⟨rfl,j,o,hj⟩;obtain ⟨L,o⟩:=Sat.exs.1 o;have e:=no (λ i=>by omega);refine ⟨_,rfl,Br.nb (λ h=>⟨by rw [e],o.drop.drop⟩) (λ y=>?_)⟩;refine ⟨c,oA o,Br.d (λ h=>⟨by rw [e],o.drop.drop⟩) (λ i=>?_)⟩;refine ⟨c,oA o,Br.d (λ h=>⟨by rw [e],o.drop.drop⟩) (λ p=>by omega)⟩
def GP {s:Sl} {l:List Int} (hs:RoI R s l) (hl:l.length<=1000000000) (d:Sat R Hs w):
  Zg prog 166 #[.slice s.a s.len s.cap] w λ v w'=>∃ t:Sl,v=.slice t.a t.len t.cap/\Sat R (Own t 3 (l.map (Value.int .i64))::Hs) w':=by
 apply ZtG;refine Br.mk (λ h=>?_) (λ h=>?_)
 ·have o:l=[]:=by
   by_cases i:l=[]
   ·exact i
   ·obtain ⟨b,off,y,T,fr,u,_⟩:=hs.mem (by simpa using i)
    rw [u] at h;cases h
  subst o;exact ⟨⟨none,0,0⟩,rfl,Own.nil d⟩
 ·refine Za d λ b w d=>?_
  have d:Sat R (Own ⟨some ⟨b,0,none⟩,0,0⟩ 3 (([]:List Int).map (Value.int .i64))::Hs) w:=YL d;refine Ul Zdn (s:=⟨some ⟨b,0,none⟩,0,0⟩) (n:=1000000000) underlying30 d hs (by simpa using hl) (by omega) (by omega) λ t w d=>?_;exact ⟨t,rfl,d⟩
def Zg3 {s:Sl} {l:List Int} {c many:Int} (hs:RoI R s l) (hl:l.length<=1000) (d:0<=c) (o:c<l.length) (i:∀ x∈l,0<=x/\x<=10000) (hm: -10000<=many/\many<=10000) (h:Sat R Hs w):
  Zg prog 238 #[.slice s.a s.len s.cap,nI c,nI many] w λ v w'=>∃ t:Sl,v=.slice t.a t.len t.cap/\Sat R (Own t 3 ((l.set c.toNat (l.getD c.toNat 0 + many)).map (Value.int .i64))::Hs) w':=by
 obtain ⟨k,rfl⟩:=qs d;have hk:k<l.length:=by omega
 have u:=i l[k] (qh _);apply ZsR;refine (GP hs (by omega) h).u1 λ t w h=>?_;refine ⟨t,rfl,?_⟩;refine Own.ix h (eqS h) k rfl hk ?_;refine Own.store (by kernel_rfl) h hk λ w h=>?_;rw [Zc] at h;rw [qo,ZX hk];exact ⟨t,rfl,h⟩
def Zaf {lim sold:List Int} (h:Yc lim sold=true):(∀ x∈sold,0<=x/\x<=10000)/\sold.length=lim.length/\lim.length<=8:=by
 obtain ⟨a,d,o⟩:=ZP.1 h;obtain ⟨⟨_,i⟩,_⟩:=Yu.1 a;refine ⟨λ x u=>?_,d,i⟩;obtain ⟨k,hk,rfl⟩:=je u;have:=(o k (by omega)).1;rw [ZX hk] at this;exact this
def Zfd {lim sold:List Int} {c:Int} (h:(Xb lim sold c).2=0):Yc lim sold=true/\0<=c/\c<lim.length:=by
 unfold Xb at h;split at h
 ·assumption
 ·simp at h
def Zmn {sl ss:Sl} {lim sold:List Int} {c many:Int} (hl:RoI R sl lim) (hs:RoI R ss sold) (o:Sat R Hs w):
  Zg prog 168 #[.slice sl.a sl.len sl.cap,.slice ss.a ss.len ss.cap,nI c,nI many] w λ v w'=>∃ t:Sl,v=.tuple #[.slice t.a t.len t.cap,nI (YP lim sold c many).2]/\Sat R (Own t 3 ((YP lim sold c many).1.map (Value.int .i64))::Hs) w':=by
 apply ZtE;refine (ZcQ hl hs o).u λ w o=>?_;have bad:((Xb lim sold c).2≠0\/many<1\/many>10000)->∃ t:Sl,Value.tuple #[.slice none 0 0,nI 1]=.tuple #[.slice t.a t.len t.cap,nI (YP lim sold c many).2]/\Sat R (Own t 3 ((YP lim sold c many).1.map (Value.int .i64))::Hs) w:=λ h=>by
  unfold YP;rw [qf h];exact ⟨⟨none,0,0⟩,rfl,Own.nil o⟩
 refine ⟨_,_,rfl,Br.ne (λ h=>bad (.inl h)) (λ i=>Br.d (λ h=>bad (.inr (.inl h))) (λ j=>Br.d (λ h=>bad (.inr (.inr h))) (λ k=>?_)))⟩;have e:YP lim sold c many=if many>(Xb lim sold c).1 then ([],3) else (sold.set c.toNat (sold.getD c.toNat 0 + many),0):=by
  unfold YP;rw [qc (by omega)]
 rw [e];obtain ⟨y,z,l⟩:=Zfd i;obtain ⟨g,m,n⟩:=Zaf y;refine Br.d (λ h=>?_) (λ h=>?_)
 ·rw [qf h];exact ⟨⟨none,0,0⟩,rfl,Own.nil o⟩
 ·rw [qc h]
  refine (Zg3 hs (by omega) z (by omega) g ⟨by omega,by omega⟩ o).u1 λ t w o=>?_;exact ⟨t,rfl,t,rfl,o⟩
def ZoK {sl ss:Sl} {lim sold:List Int} {c many:Int} (hl:RoI R sl lim) (hs:RoI R ss sold) (o:Sat R Hs w):
  Zg prog 175 #[.slice sl.a sl.len sl.cap,.slice ss.a ss.len ss.cap,nI c,nI many] w λ v w'=>∃ t:Sl,v=.tuple #[.slice t.a t.len t.cap,nI (ZaJ lim sold c many).2]/\Sat R (Own t 3 ((ZaJ lim sold c many).1.map (Value.int .i64))::Hs) w':=by
 have y:=hs.len;apply Ztx;refine (ZcQ hl hs o).u λ w o=>?_;have bad:((Xb lim sold c).2≠0\/many<1\/many>sold.getD c.toNat 0)->∃ t:Sl,Value.tuple #[.slice none 0 0,nI 1]=.tuple #[.slice t.a t.len t.cap,nI (ZaJ lim sold c many).2]/\Sat R (Own t 3 ((ZaJ lim sold c many).1.map (Value.int .i64))::Hs) w:=λ h=>by
  unfold ZaJ;rw [qf h];exact ⟨⟨none,0,0⟩,rfl,Own.nil o⟩
 refine ⟨_,_,rfl,Br.ne (λ h=>bad (.inl h)) (λ z=>Br.d (λ h=>bad (.inr (.inl h))) (λ k=>?_))⟩;obtain ⟨g,j,l⟩:=Zfd z;obtain ⟨i,m,n⟩:=Zaf g;have p:=i (sold[c.toNat]'(by omega)) (qh _);refine Ro.ix hs (eqS o) c.toNat (by omega) (by omega) ?_;refine Br.d (λ h=>bad (.inr (.inr (by rw [ZX (by omega)];exact h)))) (λ q=>?_);have e:ZaJ lim sold c many=(sold.set c.toNat (sold.getD c.toNat 0 - many),0):=by
  unfold ZaJ;rw [qc (by rw [ZX (by omega)];omega)]
 rw [e,show wI (0 - many)=-many by rw [Zc];omega];refine (Zg3 hs (by omega) j (by omega) i ⟨by omega,by omega⟩ o).u1 λ t w o=>?_;rw [<-Int.sub_eq_add_neg] at o;exact ⟨t,rfl,t,rfl,o⟩
def ZmB {sl:Sl} {lim:List Int} (hl:RoI R sl lim) (o:Sat R Hs w):
  Zg prog 260 #[.slice sl.a sl.len sl.cap] w λ v w'=>v=.bool (Zah lim)/\Sat R Hs w':=by
 have n:=hl.len;have p:=hl.bound;have no:¬ ((1<=lim.length/\lim.length<=8)/\∀ k (h:k<lim.length),(0<=lim[k]/\lim[k]<=10000)/\(0<k->lim[k]<=lim.getD (k - 1) 0))->Value.bool false=.bool (Zah lim):=λ h=>by
  have:Zah lim=false:=by rw [<-jH,Yu];exact h
  rw [this]
 apply Zsy;refine ⟨λ w=>(1<=lim.length/\lim.length<=8)/\Sat R Hs w,Br.d (λ h=>⟨no (λ y=>by omega),o⟩) (λ q=>Br.d (λ h=>⟨no (λ y=>by omega),o⟩) (λ y=>⟨⟨by omega,by omega⟩,o⟩)),?_⟩;clear o;rintro _ w ⟨r,o⟩;refine ⟨λ i w=>∃ j:Nat,i=j/\j<=lim.length/\(∀ k (h:k<lim.length),k<j->(0<=lim[k]/\lim[k]<=10000)/\(0<k->lim[k]<=lim.getD (k - 1) 0))/\Sat R Hs w,λ i _=>lim.length - i.toNat,⟨0,rfl,by omega,λ k h h'=>by omega,o⟩,?_⟩;clear o;rintro _ _ w ⟨j,rfl,hj,m,o⟩;refine Br.d (λ h=>?_) (λ h=>⟨by rw [Yu.2 ⟨r,λ k hk=>m k hk (by omega)⟩],o⟩);have u:j<lim.length:=by omega
 refine Zi o λ w o=>?_;refine Ro.ix hl Wk j rfl u ?_;refine Br.d (λ h=>⟨no (λ y=>by have:=(y.2 j u).1;omega),o⟩) (λ q=>?_);refine Ro.ix hl Wk j rfl u ?_;refine Br.d (λ h=>⟨no (λ y=>by have:=(y.2 j u).1;omega),o⟩) (λ y=>?_);have next:(0<j->lim[j]<=lim.getD (j - 1) 0)->(∃ z:Nat,wI ((j:Int) + 1)=z/\z<=lim.length/\(∀ k (h:k<lim.length),k<z->(0<=lim[k]/\lim[k]<=10000)/\(0<k->lim[k]<=lim.getD (k - 1) 0))/\Sat R Hs w)/\lim.length - (wI ((j:Int) + 1)).toNat<lim.length - (j:Int).toNat:=λ g=>by
  rw [Zc];refine ⟨⟨j + 1,by omega,by omega,λ k hk s=>?_,o⟩,by omega⟩;by_cases l:k=j
  ·subst l;exact ⟨⟨by omega,by omega⟩,g⟩
  ·exact m k hk (by omega)
 refine Br.d (λ g=>?_) (λ g=>next λ h=>by omega);refine Ro.ix hl Wk j rfl u ?_;refine Ro.ix hl Wk (j - 1) (by rw [Zc];omega) (by omega) ?_;refine Br.d (λ t=>⟨no (λ y=>?_),o⟩) (λ t=>next λ _=>by rw [ZX (by omega)];omega);have:=(y.2 j u).2 (by omega);rw [ZX (by omega)] at this;omega
def ZdW {ss:Sl} {sold:List Int} {k:Nat} (hs:RoI R ss sold) (z:∀ x∈sold,0<=x/\x<=10000) (g:sold.length<=1000) (hk:k<=1000) (u:Sat R Hs w):
  Zg prog 204 #[.slice ss.a ss.len ss.cap,nI k] w λ v w'=>v=nI (Y1 sold k)/\Sat R Hs w':=by
 have m:=hs.len;have o:=Zfs z;apply Zs6;refine ⟨λ n i w=>∃ j:Nat,i=j/\k<=j/\(j<=k\/j<=sold.length)/\n + Y1 sold j=Y1 sold k/\Sat R Hs w,λ _ i _=>sold.length - i.toNat,⟨k,rfl,by omega,.inl (by omega),by omega,u⟩,?_⟩;clear u;rintro n _ _ w ⟨j,rfl,hj,p,l,u⟩;refine Br.d (λ h=>?_) (λ h=>?_)
 ·have y:j<sold.length:=by omega
  have q:=XF y;have r:=z sold[j] (qh _);have s:=o (j + 1);have t:=o k;have e:=o j;refine Ro.ix hs (eqS u) j rfl y ?_;rw [Zc (x:=(j:Int) + 1),Zc];exact ⟨⟨j + 1,by omega,by omega,.inr (by omega),by omega,u⟩,by dsimp only;omega⟩
 ·rw [WF (show sold.length<=j by omega)] at l
  exact ⟨by rw [<-l];congr 1;omega,u⟩
def ZgB {sl ss:Sl} {lim sold:List Int} (hl:RoI R sl lim) (hs:RoI R ss sold) (o:Sat R Hs w):
  Zg prog 203 #[.slice sl.a sl.len sl.cap,.slice ss.a ss.len ss.cap] w λ v w'=>v=.bool (Yc lim sold)/\Sat R Hs w':=by
 have t:=hl.len;have e:=hs.len;have no:¬ (Zah lim=true/\sold.length=lim.length/\∀ k,k<lim.length->(0<=sold.getD k 0/\sold.getD k 0<=10000)/\Y1 sold k<=lim.getD k 0)->Value.bool false=.bool (Yc lim sold):=λ h=>by rw [Uw h]
 apply Zs7;refine (ZmB hl o).u λ w o=>?_;refine ⟨_,rfl,λ w=>(Zah lim=true/\sold.length=lim.length)/\Sat R Hs w,Br.nb (λ h=>⟨no (λ g=>by rw [h] at g;cases g.1),o⟩) (λ n=>Br.ne (λ h=>⟨no (λ g=>by omega),o⟩) (λ g=>⟨⟨n,by omega⟩,o⟩)),?_⟩;clear o;rintro _ w ⟨⟨n,g⟩,o⟩;have c:=(Yu.1 n).1.2;refine ⟨λ i w=>∃ j:Nat,i=j/\j<=sold.length/\(∀ k,k<j->0<=sold.getD k 0/\sold.getD k 0<=10000)/\Sat R Hs w,λ i _=>sold.length - i.toNat,⟨0,rfl,by omega,λ k h=>by omega,o⟩,?_⟩;clear o;rintro _ _ w ⟨j,rfl,hj,p,o⟩;refine Br.d (λ h=>?_) (λ h=>?_)
 ·have y:j<sold.length:=by omega
  have nn:¬ (0<=sold[j]/\sold[j]<=10000)->Value.bool false=.bool (Yc lim sold):=λ h=>no λ l=>h (by have:=(l.2.2 j (by omega)).1;rw [ZX y] at this;exact this);refine Ro.ix hs (eqS o) j rfl y ?_;refine Br.d (λ h=>⟨nn (by omega),o⟩) (λ l=>?_);refine Ro.ix hs (eqS o) j rfl y ?_;refine Br.d (λ h=>⟨nn (by omega),o⟩) (λ A=>?_);rw [Zc];refine ⟨⟨j + 1,by omega,by omega,λ k hk=>?_,o⟩,by dsimp only;omega⟩;by_cases q:k=j
  ·subst q;rw [ZX y];omega
  ·exact p k (by omega)
 have f:sold.length<=j:=by omega
 have r:∀ x∈sold,0<=x/\x<=10000:=λ x b=>by
  obtain ⟨k,hk,rfl⟩:=je b;have:=p k (by omega);rw [ZX hk] at this;exact this
 refine ⟨λ i w=>∃ j:Nat,i=j/\j<=lim.length/\(∀ k,k<j->Y1 sold k<=lim.getD k 0)/\Sat R Hs w,λ i _=>lim.length - i.toNat,⟨0,rfl,by omega,λ k h=>by omega,o⟩,?_⟩;clear o h;rintro _ _ w ⟨i,rfl,hi,m,o⟩;refine Br.d (λ h=>?_) (λ h=>?_)
 ·have z:i<lim.length:=by omega
  refine Zi o λ w o=>?_;refine Ro.ix hl Wk i rfl z ?_;refine (ZdW hs r (by omega) (by omega) o).u λ w o=>?_;refine ⟨_,rfl,o,Br.d (λ h=>⟨no (λ l=>?_),o⟩) (λ l=>?_)⟩
  ·have:=(l.2.2 i z).2
   rw [ZX z] at this;omega
  ·rw [Zc]
   refine ⟨⟨i + 1,by omega,by omega,λ k hk=>?_,o⟩,by dsimp only;omega⟩;by_cases s:k=i
   ·subst s;rw [ZX z];omega
   ·exact m k (by omega)
 ·refine ⟨?_,o⟩
  rw [ZP.2 ⟨n,g,λ k hk=>⟨p k (by omega),m k (by omega)⟩⟩]
def ZdU {sl ss:Sl} {lim sold:List Int} {c:Int} (hl:RoI R sl lim) (hs:RoI R ss sold) (o:Sat R Hs w):
  Zg prog 126 #[.slice sl.a sl.len sl.cap,.slice ss.a ss.len ss.cap,nI c] w λ v w'=>v=.tuple #[nI (Xb lim sold c).1,nI (Xb lim sold c).2]/\Sat R Hs w':=by
 have q:=hl.len;have no:¬ (Yc lim sold=true/\0<=c/\c<lim.length)->Xb lim sold c=(0,1):=λ h=>by unfold Xb;rw [qc h]
 apply Zt5;refine (ZgB hl hs o).u λ w o=>?_;refine ⟨_,rfl,λ w=>(Yc lim sold=true/\0<=c/\c<lim.length)/\Sat R Hs w,Br.nb (λ h=>⟨by rw [no (λ y=>by rw [h] at y;cases y.1)],o⟩) (λ l=>Br.d (λ h=>⟨by rw [no (λ y=>by omega)],o⟩) (λ y=>Br.d (λ h=>⟨by rw [no (λ y=>by omega)],o⟩) (λ r=>⟨⟨l,by omega,by omega⟩,o⟩))),?_⟩;clear o;rintro _ w ⟨n,o⟩;have e:Xb lim sold c=(mnF (VI lim sold) (c.toNat + 1),0):=by unfold Xb;rw [qf n]
 rw [e];obtain ⟨l,y,r⟩:=n;obtain ⟨p,s,t⟩:=Zaf l;have k:=(Yu.1 (ZP.1 l).1).2;obtain ⟨m,rfl⟩:=qs y;rw [qo];refine ⟨λ L i w=>∃ j:Nat,i=j/\j<=m + 1/\L=mnF (VI lim sold) j/\Sat R Hs w,λ _ i _=>m + 1 - i.toNat,⟨0,rfl,by omega,rfl,o⟩,?_⟩;clear o;rintro _ _ _ w ⟨j,rfl,hj,rfl,o⟩;refine Br.d (λ h=>?_) (λ h=>?_)
 ·have z:j<lim.length:=by omega
  refine Zi o λ w o=>?_;refine Ro.ix hl Wk j rfl z ?_;refine (ZdW hs p (by omega) (by omega) o).u λ w o=>?_;have x:=Zfs p j;have f:=(k j z).1;have g:wI (lim[j] - Y1 sold j)=VI lim sold j:=by
   rw [Zc];unfold VI;rw [ZX z]
  refine ⟨_,rfl,o,?_⟩;rw [g,Zc];exact ⟨⟨j + 1,by omega,by omega,rfl,o⟩,by dsimp only;omega⟩
 ·obtain rfl:j=m + 1:=by omega
  exact ⟨rfl,o⟩
def ZkE {sl ss:Sl} {lim sold:List Int} {c many:Int} (hl:RoI R sl lim) (hs:RoI R ss sold) (o:Sat R Hs w):
  Zg prog 188 #[.slice sl.a sl.len sl.cap,.slice ss.a ss.len ss.cap,nI c,nI many] w λ v w'=>∃ t:Sl,v=.tuple #[.slice t.a t.len t.cap,nI (YP lim sold c many).2]/\Sat R (Own t 3 ((YP lim sold c many).1.map (Value.int .i64))::Hs) w':=by
 apply Ztl;refine (ZdU hl hs o).u λ w o=>?_;have bad:((Xb lim sold c).2≠0\/many<1\/many>10000)->∃ t:Sl,Value.tuple #[.slice none 0 0,nI 1]=.tuple #[.slice t.a t.len t.cap,nI (YP lim sold c many).2]/\Sat R (Own t 3 ((YP lim sold c many).1.map (Value.int .i64))::Hs) w:=λ h=>by
  unfold YP;rw [qf h];exact ⟨⟨none,0,0⟩,rfl,Own.nil o⟩
 refine ⟨_,_,rfl,λ w=>((Xb lim sold c).2=0/\1<=many/\many<=10000)/\Sat R Hs w,Br.ne (λ h=>bad (.inl h)) (λ i=>Br.d (λ h=>bad (.inr (.inl h))) (λ y=>Br.d (λ h=>bad (.inr (.inr h))) (λ z=>⟨⟨i,by omega,by omega⟩,o⟩))),?_⟩;clear bad o;rintro _ w ⟨⟨i,y,z⟩,o⟩;have e:YP lim sold c many=if many>(Xb lim sold c).1 then ([],3) else (sold.set c.toNat (sold.getD c.toNat 0 + many),0):=by
  unfold YP;rw [qc (by omega)]
 rw [e];obtain ⟨g,j,m⟩:=Zfd i;obtain ⟨l,p,q⟩:=Zaf g;refine Br.d (λ h=>?_) (λ h=>?_)
 ·rw [qf h];exact ⟨⟨none,0,0⟩,rfl,Own.nil o⟩
 ·rw [qc h]
  obtain ⟨k,rfl⟩:=qs j;have hk:k<sold.length:=by omega
  have r:=l sold[k] (qh _);refine Za o λ b w o=>?_;have o:Sat R (Own ⟨some ⟨b,0,none⟩,0,0⟩ 3 (([]:List Int).map (Value.int .i64))::Hs) w:=YL o;refine Ul Zdn (s:=⟨some ⟨b,0,none⟩,0,0⟩) (n:=1000000000) underlying30 o hs (by simp;omega) (by omega) (by omega) λ t w o=>?_;rw [jr] at o;refine Own.ix o (eqS o) k rfl hk ?_;refine Own.store (by kernel_rfl) o hk λ w o=>?_;rw [Zc] at o;rw [qo,ZX hk];exact ⟨t,rfl,o⟩
end
section
open Go Go.VC Ieee Tryz
variable {R:Cx} {Hs Rest:List HP} {w:World}
def ZqB (x s:Nat):Nat:=match double.mul x (fw s) with
 |some p=>(match double.read p with| .number _ m e=>m / 2 ^ (-e).toNat|_=>0)
 |none=>0
def Zqy (x:Nat):Bool:=double.order x 0==some .gt
def ZnL (x:Nat):Bool:=double.order x 4607182418800017408==some .gt||double.order x 4607182418800017408==some .eq
def WP (x:Nat) (s:Int):Int × Int:=
 if s<0\/s>10000 then (0,1) else if Zqy x=false then (0,0) else if ZnL x=true then (s,0) else ((ZqB x s.toNat:Nat),0)
def ZnZ {x s:Nat} (y:Zqy x=true) (i:ZnL x=false) (hs:s<=10000):∃ p a h,double.mul x (fw s)=some p/\Zkj p a h/\a<=s * 2 ^ h/\ZqB x s=a / 2 ^ h/\ZqB x s<=s:=by
 unfold Zqy at y;unfold ZnL at i;simp only [ug,jW,ne_eq] at i;obtain ⟨m,d,g,_,u⟩:=Zpq (jh.1 y) i.1 i.2;obtain ⟨p,a,h,z,v,o⟩:=Zpr g u hs;have e:ZqB x s=a / 2 ^ h:=by
  unfold ZqB;rw [z];unfold Zkj at v;simp only [v];rw [show (-(-(h:Int))).toNat=h by omega]
 refine ⟨p,a,h,z,v,o,e,?_⟩;rw [e];exact Nat.div_le_of_le_mul (by rw [jX];exact o)
def ZqN (t1 t2:Operand) (T:TypeId) (x y:Nat) (w:nW):((do eqGuard BinOp.gtr T t1 t2 (xF x) (xF y);binOp BinOp.gtr T (xF x) (xF y):Sem Value)).run prog w=.ok (.bool (double.order x y==some .gt)) w:=by
 simp [eqGuard,binOp,Op.floatCmp,FloatKind.format]
def ZqO (t1 t2:Operand) (T:TypeId) (x y:Nat) (w:nW):((do eqGuard BinOp.geq T t1 t2 (xF x) (xF y);binOp BinOp.geq T (xF x) (xF y):Sem Value)).run prog w=.ok (.bool (double.order x y==some .gt||double.order x y==some .eq)) w:=by
 simp [eqGuard,binOp,Op.floatCmp,FloatKind.format]
def ZqM (t1 t2:Operand) (T:TypeId) (x y:Nat) (w:nW):((do eqGuard BinOp.leq T t1 t2 (xF x) (xF y);binOp BinOp.leq T (xF x) (xF y):Sem Value)).run prog w=.ok (.bool (double.order x y==some .lt||double.order x y==some .eq)) w:=by
 simp [eqGuard,binOp,Op.floatCmp,FloatKind.format]
def Zj8 (t1 t2:Operand) (T:TypeId) (x y:Nat) (w:nW):((do eqGuard BinOp.neq T t1 t2 (xF x) (xF y);binOp BinOp.neq T (xF x) (xF y):Sem Value)).run prog w=.ok (.bool (double.order x y !=some .eq)) w:=by
 simp [eqGuard,binOp,Op.floatCmp,FloatKind.format]
def Znl (t1 t2:Operand) (T:TypeId) {x y p:Nat} (h:double.mul x y=some p) (w:nW):((do eqGuard BinOp.mul T t1 t2 (xF x) (xF y);binOp BinOp.mul T (xF x) (xF y):Sem Value)).run prog w=.ok (xF p) w:=by
 simp [eqGuard,binOp,Op.floatArith,FloatKind.format,h]
def ZhR (n:Nat) (w:nW):(convert 3 35 (nI n)).run prog w=.ok (xF (fw n)) w:=by
 have h:FloatKind.f64.nearest (n:Int)=fw n:=by
  unfold FloatKind.nearest FloatKind.encode FloatKind.format;rw [qz (show ¬ (n:Int)<0 by omega),Int.natAbs_natCast];rfl
 simp [convert,run_underlying underlying3,run_underlying underlying35,Conv.intToFloat,h]
def Zq6 {n:Nat} (a:n<=10001) (w:nW):(convert 35 3 (xF (fw n))).run prog w=.ok (nI n) w:=by
 have h:(FloatKind.f64.decode (fw n)).toInt .zero=some (n:Int):=Zu5 a;have d:IntKind.i64.min<=(n:Int)/\(n:Int)<=IntKind.i64.max:=by
  have i:IntKind.i64.min=-9223372036854775808:=by decide
  have o:IntKind.i64.max=9223372036854775807:=by decide
  omega
 simp [convert,run_underlying underlying3,run_underlying underlying35,Conv.floatToInt,h,d];intro o;omega
theorem ZrX : (f291.name == "runtime.NumGoroutine") = false := by kernel_rfl
def Zr0:f291.body.isNone=true:=by kernel_rfl
def ZrW:Extern.findNext f291=none:=by kernel_rfl
theorem ZrZ : Extern.find f291 = some (Extern.MathFloor.toIntegral "math.archFloor" .down) := by kernel_rfl
theorem ZnY {p m : Nat} {e : Int} (hd : FloatKind.f64.decode p = .number false m e) : Extern.MathFloor.toIntegral "math.archFloor" .down #[.float .f64 p] = pure (.float .f64 (FloatKind.f64.encode ((Datum.number false m e).integral .down))) := by
 unfold Extern.MathFloor.toIntegral;generalize FloatKind.decode FloatKind.f64=D at hd ⊢
 conv=>lhs;whnf
 rw [hd]
def Zlr {p h a:Nat} (d:Zkj p h a) (o:Sat R Hs w):Zg prog 276 #[xF p] w λ v w'=>v=xF (fw (h / 2 ^ a))/\Sat R Hs w':=by
 apply Zsv;refine ⟨xF (fw (h / 2 ^ a)),w,?_,_,rfl,rfl,o⟩;rw [run_callFunc_extern func291 ZrX Zr0 ZrW ZrZ];have hd:FloatKind.f64.decode p=.number false h (-(a:Int)):=d;have i:FloatKind.f64.encode ((Datum.number false h (-(a:Int))).integral .down)=fw (h / 2 ^ a):=by
  have:=Zlq d;rw [show double.read p=.number false h (-(a:Int)) from d] at this
  exact this
 rw [ZnY hd,i];rfl
def Zlc {x:Nat} {s:Int} (a:Sat R Hs w):Zg prog 235 #[xF x,nI s] w λ v w'=>v=.tuple #[nI (WP x s).1,nI (WP x s).2]/\Sat R Hs w':=by
 apply ZsU;refine ⟨λ t w=>t=decide (s<0\/s>10000)/\Sat R Hs w,Br.d (λ h=>⟨by rw [qE (.inl h)],a⟩) (λ h=>⟨by rw [qJ];omega,a⟩),?_⟩;clear a;rintro _ _ w ⟨rfl,a⟩;unfold WP;refine Br.d (λ h=>⟨by rw [qf h],a⟩) (λ h=>?_);rw [qc h];refine ⟨Zqy x,λ w' e=>ZqN _ _ _ _ _ _,Br.nb (λ o=>⟨by rw [qf o],a⟩) (λ o=>?_)⟩;rw [qc (by rw [o];simp)];refine ⟨ZnL x,λ w' e=>ZqO _ _ _ _ _ _,Br.mk (λ i=>⟨by rw [qf i],a⟩) (λ i=>?_)⟩;rw [qc (by rw [i];simp)];obtain ⟨n,rfl⟩:=qs (show 0<=s by omega);obtain ⟨p,j,k,y,z,g,e,l⟩:=ZnZ (s:=n) o i (by omega);refine ⟨w,_,ZhR n w,_,λ w' _=>Znl _ _ _ y w',?_⟩;refine (Zlr z a).u λ w a=>?_;rw [<-e];refine ⟨_,rfl,_,λ w' _=>Zq6 (by omega) w',?_,a⟩;rw [qo]
def Zk4 {x:Nat} (h:double.order x 0=none):double.order x x=none:=by
 unfold Format.order at *;have d:double.read 0=.number false 0 (-1074):=by decide
 rw [d] at h;cases a:double.read x with
 |nan s t=>rfl
 |infinity s=>rw [a] at h;simp [Datum.order] at h
 |number s m e=>rw [a] at h;simp [Datum.order] at h
def Zh7 {x:Nat} {s:Int} (a:Sat R Hs w):Zg prog 257 #[xF x,nI s] w λ v w'=>v=.tuple #[nI (WP x s).1,nI (WP x s).2]/\Sat R Hs w':=by
 apply ZsB;have bad:(s<0\/s>10000)->WP x s=(0,1):=λ h=>by unfold WP;rw [qf h]
 refine ⟨λ w=>¬ (s<0\/s>10000)/\Sat R Hs w,Br.d (λ h=>⟨by rw [bad (.inl h)],a⟩) (λ h=>Br.d (λ y=>⟨by rw [bad (.inr y)],a⟩) (λ y=>⟨by omega,a⟩)),?_⟩;clear a;rintro _ w ⟨h,a⟩;unfold WP;rw [qc h];refine ⟨λ w=>Zqy x=true/\Sat R Hs w,?_,?_⟩
 ·refine ⟨_,λ w' e=>Zj8 _ _ _ _ _ _,Br.mk (λ u=>⟨?_,a⟩) (λ u=>?_)⟩
  ·rw [qf]
   unfold Zqy;cases g:double.order x 0 with
   |none=>rfl
   |some o=>
    exfalso;have u:=bne_iff_ne.1 u;unfold Format.order at g u;cases l:double.read x with
    |nan s t=>rw [l] at g;simp [Datum.order] at g
    |infinity s=>rw [l] at u;apply u;cases s<;>rfl
    |number s m e=>rw [l] at u;apply u;cases s<;>simp [Datum.order]
  ·have u:=bne_eq_false_iff_eq.1 u
   refine ⟨_,λ w' e=>ZqM _ _ _ _ _ _,Br.mk (λ y=>⟨?_,a⟩) (λ y=>⟨?_,a⟩)⟩
   ·rw [qf]
    unfold Zqy;rcases (jy _ _).mp y with z|z
    ·rw [jh.1 z];rfl
    ·rw [jh.1 z];rfl
   ·unfold Zqy
    obtain ⟨z,k⟩:=ug.1 y;cases g:double.order x 0 with
    |none=>rw [Zk4 g] at u;cases u
    |some o=>
     rw [g] at z k;cases o
     ·simp at z
     ·simp at k
     ·rfl
 clear a;rintro _ w ⟨u,a⟩;rw [qc (by rw [u];simp)];refine ⟨ZnL x,λ w' e=>ZqO _ _ _ _ _ _,Br.mk (λ y=>⟨by rw [qf y],a⟩) (λ y=>?_)⟩;rw [qc (by rw [y];simp)];obtain ⟨n,rfl⟩:=qs (show 0<=s by omega);obtain ⟨p,b,c,q,r,f,e,A⟩:=ZnZ (s:=n) u y (by omega);rw [qo];refine ⟨w,_,ZhR n w,_,λ w' _=>Znl _ _ _ q w',?_⟩;refine ⟨λ i w=>∃ j:Nat,i=j/\j<=ZqB x n/\Sat R Hs w,λ i _=>n - i.toNat,⟨0,rfl,by omega,a⟩,?_⟩;clear a;rintro _ _ w ⟨j,rfl,hj,a⟩;refine Br.d (λ z=>?_) (λ z=>⟨?_,a⟩)
 ·rw [show wI ((j:Int) + 1)=((j + 1:Nat):Int) from Zc]
  refine ⟨w,_,ZhR (j + 1) w,_,λ w' _=>ZqM _ _ _ _ _ _,?_⟩;rw [Zx3 (by omega) r,<-e];refine Br.d (λ k=>⟨⟨j + 1,rfl,k,a⟩,by dsimp only;omega⟩) (λ k=>⟨?_,a⟩);rw [show j=ZqB x n by omega]
 ·rw [show j=ZqB x n by omega]
end
section
open Go Go.VC Tryz
variable {R:Cx} {Hs Rest:List HP} {w:World}
def _root_.Go.VC.Ro.ixF {xs:List Nat} {s:Sl} {S:xE} {i:Int} (o:Ro R s (xs.map (Value.float .f64))) (hS:∀ w,S w->Sat R Hs w) (j:Nat) (hi:i=j) (hj:j<xs.length) {F:Nat->Prop} (h:F xs[j]):
  Rng i s.len (Zb s.a λ a=>∃ t:Nat,(At S (a.add i.toNat) [xF t])/\F t):=by
 subst hi;obtain ⟨a,u,d⟩:=o.addr (k:=j) (by rw [qa];exact hj);have hl:=o.len;rw [qa] at hl;exact Rng.mk (by omega) (by omega) (Zb.mk u ⟨_,by have:=d hS;rw [qX] at this;exact this,h⟩)
def WN (s:Int):Int->List Nat->List Int
 |_,[]=>[]
 |last,x::xs=>(if last<(WP x s).1 then last else (WP x s).1)::WN s (if last<(WP x s).1 then last else (WP x s).1) xs
def ZB (s:Int) (parts:List Nat):List Int × Int:=if s<0\/s>10000\/parts.length<1\/parts.length>8 then ([],1) else (s::WN s s parts.tail,0)
def Ux (s:Int):∀ (xs:List Nat) (last:Int),(WN s last xs).length=xs.length
 |[],_=>rfl
 |x::xs,last=>by simp [WN,Ux s xs]
def Za6 (s:Int):∀ (xs:List Nat) (last:Int) (x:Nat),WN s last (xs++[x])=WN s last xs++
  [if (last::WN s last xs).getD xs.length 0<(WP x s).1 then (last::WN s last xs).getD xs.length 0 else (WP x s).1]
 |[],last,x=>by simp [WN]
 |y::xs,last,x=>by
  simp only [qU,WN,Za6 s xs,qr,zq]
abbrev GM (l:List Nat):List Value:=l.map (Value.float .f64)
abbrev Zd (l:List Int):List Value:=l.map (Value.int .i64)
def Ziw {s:Int} {sp:Sl} {parts:List Nat} (q:SlR R.m sp (GM parts)) (o:Sat R Hs w):
  Zg prog 163 #[nI s,.slice sp.a sp.len sp.cap] w λ v w'=>∃ t:Sl,v=.tuple #[.slice t.a t.len t.cap,nI (ZB s parts).2]/\Sat R (Own t 3 (Zd (ZB s parts).1)::Hs) w':=by
 have y:=q.len;rw [qa] at y;have bad:(s<0\/s>10000\/parts.length<1\/parts.length>8)->∀ w,Sat R Hs w->∃ t:Sl,Value.tuple #[.slice none 0 0,nI 1]=.tuple #[.slice t.a t.len t.cap,nI (ZB s parts).2]/\Sat R (Own t 3 (Zd (ZB s parts).1)::Hs) w:=λ h w o=>by
  unfold ZB;rw [qf h];exact ⟨⟨none,0,0⟩,rfl,Own.nil o⟩
 apply ZtJ;refine ⟨λ w=>(0<=s/\s<=10000/\1<=parts.length/\parts.length<=8)/\Sat R Hs w,?_,?_⟩
 ·refine (Gt o).u λ w o=>?_
  unfold inR;refine ⟨_,rfl,Br.nd (λ h=>bad (by omega) _ o) (λ r=>Br.d (λ h=>bad (by omega) _ o) (λ x=>Br.d (λ h=>bad (by omega) _ o) (λ f=>⟨⟨by omega,by omega,by omega,by omega⟩,o⟩)))⟩
 clear o;rintro _ w ⟨⟨r,x,f,A⟩,o⟩;have e:ZB s parts=(s::WN s s parts.tail,0):=by unfold ZB;rw [qc (by omega)]
 rw [e];clear bad;refine Za o λ b w o=>⟨by omega,by omega,?_⟩;have o:Sat R (Own ⟨some ⟨b,0,none⟩,1,1⟩ 3 (Zd [s])::Hs) w:=YL o;have hd:=(q.drop (k:=1) (by rw [qa];omega)).ro (by rw [qx,qa];omega);have g:(GM parts).drop 1=GM parts.tail:=by simp [GM,List.drop_one,List.map_tail]
 rw [g] at hd;have l:parts.tail.length=parts.length - 1:=ud;have n:(sp.len - Int.toNat 1:Nat)=parts.tail.length:=by rw [l];show sp.len - 1=_;omega
 refine ⟨λ p i w=>∃ j:Nat,i=j/\j<=parts.tail.length/\Sat R (Own p 3 (Zd (s::WN s s (parts.tail.take j)))::Hs) w,λ _ i _=>parts.tail.length - i.toNat,⟨0,rfl,by omega,o⟩,?_⟩;clear o;rintro _ p _ w ⟨j,rfl,hj,o⟩;refine Br.d (λ h=>?_) (λ h=>?_)
 ·have z:j<parts.tail.length:=by omega
  refine Ro.ixF hd (eqS o) j rfl z ?_;refine (Zlc o).u λ w o=>?_;refine ⟨_,_,rfl,?_⟩;have hl:(s::WN s s (parts.tail.take j)).length=j + 1:=by rw [qr,Ux,qd];omega
  refine Own.ix o (eqS o) j rfl (by omega) ?_;refine YA Zdn o (by omega) λ c w o=>?_;rw [Zc];refine ⟨⟨j + 1,by omega,by omega,?_⟩,by dsimp only;omega⟩;rw [qp,List.getElem?_eq_getElem z];simp only [q9];rw [Za6,qd,show min j parts.tail.length=j by omega,ZX (by omega)];exact o
 ·rw [qg (by omega)] at o
  exact ⟨p,rfl,o⟩
def ZgC {s:Int} {sp:Sl} {parts:List Nat} (l:SlR R.m sp (GM parts)) (o:Sat R Hs w):
  Zg prog 185 #[nI s,.slice sp.a sp.len sp.cap] w λ v w'=>∃ t:Sl,v=.tuple #[.slice t.a t.len t.cap,nI (ZB s parts).2]/\Sat R (Own t 3 (Zd (ZB s parts).1)::Hs) w':=by
 have y:=l.len;rw [qa] at y;have bad:(s<0\/s>10000\/parts.length<1\/parts.length>8)->∀ w,Sat R Hs w->∃ t:Sl,Value.tuple #[.slice none 0 0,nI 1]=.tuple #[.slice t.a t.len t.cap,nI (ZB s parts).2]/\Sat R (Own t 3 (Zd (ZB s parts).1)::Hs) w:=λ h w o=>by
  unfold ZB;rw [qf h];exact ⟨⟨none,0,0⟩,rfl,Own.nil o⟩
 apply Zto;refine ⟨λ w=>(0<=s/\s<=10000/\1<=parts.length/\parts.length<=8)/\Sat R Hs w,?_,?_⟩
 ·exact Br.d (λ h=>bad (by omega) _ o) (λ n=>Br.d (λ h=>bad (by omega) _ o) (λ p=>Br.d (λ h=>bad (by omega) _ o) (λ q=>Br.d (λ h=>bad (by omega) _ o) (λ r=>⟨⟨by omega,by omega,by omega,by omega⟩,o⟩))))
 clear o;rintro _ w ⟨⟨n,p,q,r⟩,o⟩;have e:ZB s parts=(s::WN s s parts.tail,0):=by unfold ZB;rw [qc (by omega)]
 rw [e];clear bad;refine Za o λ b w o=>?_;have o:Sat R (Own ⟨some ⟨b,0,none⟩,1,1⟩ 3 (Zd [s])::Hs) w:=YL o;have x:parts.tail.length=parts.length - 1:=ud;refine ⟨λ z i w=>∃ j:Nat,i=((j + 1:Nat):Int)/\j<=parts.tail.length/\Sat R (Own z 3 (Zd (s::WN s s (parts.tail.take j)))::Hs) w,λ _ i _=>parts.length - i.toNat,⟨0,rfl,by omega,o⟩,?_⟩;clear o;rintro _ z _ w ⟨j,rfl,hj,o⟩;refine Br.d (λ h=>?_) (λ h=>?_)
 ·have g:j<parts.tail.length:=by omega
  have k:j + 1<parts.length:=by omega
  have f:parts[j + 1]=parts.tail[j]:=by rw [List.getElem_tail]
  refine Ro.ixF (l.ro) (eqS o) (j + 1) rfl k ?_;rw [f];refine (Zh7 o).u λ w o=>?_;refine ⟨_,_,rfl,?_⟩;have hl:(s::WN s s (parts.tail.take j)).length=j + 1:=by rw [qr,Ux,qd];omega
  refine Own.ix o (eqS o) j (by rw [Zc];omega) (by omega) ?_;refine YA Zdn o (by omega) λ c w o=>?_;rw [Zc];refine ⟨⟨j + 1,by omega,by omega,?_⟩,by dsimp only;omega⟩;rw [qp,List.getElem?_eq_getElem g];simp only [q9];rw [Za6,qd,show min j parts.tail.length=j by omega,ZX (by omega)];exact o
 ·rw [qg (by omega)] at o
  exact ⟨z,rfl,o⟩
def ZjM (s:Int) (d:0<=s) (o:s<=10000):∀ (xs:List Nat) (last:Int),0<=last->last<=10000->∀ k (h:k<(WN s last xs).length),(0<=(WN s last xs)[k]/\(WN s last xs)[k]<=10000)/\(WN s last xs)[k]<=(last::WN s last xs).getD k 0
 |[],last,_,_,k,h=>by simp [WN] at h
 |x::xs,last,a,b,k,h=>by
  have i:0<=(WP x s).1:=by
   unfold WP;split
   ·simp
   ·split
    ·simp
    ·split
     ·exact d
     ·simp
  rcases k with _|k
  ·simp only [WN,vh,List.getD_cons_zero]
   split<;>omega
  ·simp only [WN,vT,zq]
   exact ZjM s d o xs _ (by split<;>omega) (by split<;>omega) k (by simpa [WN] using h)
def Znt {s:Int} {parts:List Nat} (h:(ZB s parts).2=0):Zah (ZB s parts).1=true/\(ZB s parts).1.getD 0 0=s:=by
 unfold ZB at *;split at h
 ·simp at h
 ·rename_i a
  rw [qc a];refine ⟨Yu.2 ⟨⟨by simp,?_⟩,λ k hk=>?_⟩,rfl⟩
  ·simp only [qr,Ux,ud];omega
  ·rcases k with _|k
   ·simp;omega
   ·have:=ZjM s (by omega) (by omega) parts.tail s (by omega) (by omega) k (by simpa using hk)
    simp only [vT];exact ⟨this.1,λ _=>by rw [show k + 1 - 1=k by omega];exact this.2⟩
def ZlO (l:List Int):Prop:=∀ i j (hj:j<l.length),(hij:i<j)->l[i]<l[j]
def Up (n:Int):List Int->List Int
 |[]=>[n]
 |x::l=>if x<n then x::Up n l else n::x::l
def ZnO {n:Int}:∀ {l:List Int} {p:Nat},p<=l.length->(∀ k (h:k<l.length),k<p->l[k]<n)->(∀ k (h:k<l.length),p<=k->n<=l[k])->Up n l=l.take p++n::l.drop p
 |[],p,a,_,_=>by
  obtain rfl:p=0:=by simpa using a
  rfl
 |x::l,0,_,_,d=>by
  have:=d 0 (by simp) (by omega);simp only [vh] at this;unfold Up;rw [qc (by omega)];rfl
 |x::l,p + 1,a,o,d=>by
  have i:=o 0 (by simp) (by omega);simp only [vh] at i;unfold Up;rw [qf i,ZnO (p:=p) (by simpa using a) (λ k h hk=>by have:=o (k + 1) (by simpa using h) (by omega);simpa using this) (λ k h hk=>by have:=d (k + 1) (by simpa using h) (by omega);simpa using this)];rfl
def ZnS {a b:Nat} (h:a + b<=1000000000000000000):wI (Zbl .u64 (IntKind.u64.wrap (wI ((a:Int) + b))) 1)=((a + b) / 2:Nat):=by
 rw [Zc (x:=(a:Int) + b),IntKind.wrap_u64];have e:Zbl .u64 (((a:Int) + b) % 18446744073709551616) 1=(((a + b) / 2:Nat):Int):=by
  unfold Zbl;show Int.fdiv _ 2=_;rw [uA _ (by omega)];omega
 rw [e,Zc]
def Zll {x:Int} (h:Sat R Hs w):Zg prog 281 #[nI x] w λ v w'=>v=.bool false/\Sat R Hs w':=by
 apply Zss;exact ⟨by simp,h⟩
def Zoy {x:Int} (h:Sat R Hs w):Zg prog 278 #[nI x] w λ v w'=>v=.bool false/\Sat R Hs w':=by
 apply Zow;exact ⟨by simp,h⟩
def Znv {x y:Int} (h:Sat R Hs w):Zg prog 267 #[nI x,nI y] w λ v w'=>v=.bool (decide (x<y))/\Sat R Hs w':=by
 apply Zsx;refine (Zoy h).u λ w h=>?_;exact ⟨_,rfl,Br.f rfl ⟨rfl,h⟩⟩
def ZhD {s:Sl} {l:List Int} {n:Int} (hs:RoI R s l) (q:ZlO l) (hl:l.length<=1000000000) (o:Sat R Hs w):
  Zg prog 248 #[.slice s.a s.len s.cap,nI n] w λ v w'=>∃ (p:Nat) (b:Bool),v=.tuple #[nI p,.bool b]/\p<=l.length/\(∀ k (h:k<l.length),k<p->l[k]<n)/\(∀ k (h:k<l.length),p<=k->n<=l[k])/\Sat R Hs w':=by
 have z:=hs.len;apply ZsJ;refine ⟨λ i j w=>∃ a b:Nat,i=a/\j=b/\a<=b/\b<=l.length/\(∀ k (h:k<l.length),k<a->l[k]<n)/\(∀ k (h:k<l.length),b<=k->n<=l[k])/\Sat R Hs w,λ i j _=>j.toNat - i.toNat,⟨0,l.length,rfl,by rw [z],by omega,by omega,λ k _ h=>by omega,λ k h h'=>by omega,o⟩,?_⟩;clear o;rintro _ _ _ w ⟨a,b,rfl,rfl,D,r,x,c,o⟩;rw [ZnS (by omega)];refine Br.d (λ h=>?_) (λ h=>?_)
 ·have hm:(a + b) / 2<l.length:=by omega
  refine Ro.ix hs (eqS o) ((a + b) / 2) rfl hm ?_;refine (Znv o).u λ w o=>?_;refine ⟨_,rfl,Br.d (λ g=>?_) (λ g=>?_)⟩
  ·rw [show wI ((((a + b) / 2:Nat):Int) + 1)=(((a + b) / 2 + 1:Nat):Int) from Zc]
   refine ⟨⟨(a + b) / 2 + 1,b,rfl,rfl,by omega,r,λ k hk m=>?_,c,o⟩,by dsimp only;omega⟩;by_cases y:k=(a + b) / 2
   ·subst y;exact g
   ·have:=q k ((a + b) / 2) hm (by omega);omega
  ·refine ⟨⟨a,(a + b) / 2,rfl,rfl,by omega,by omega,x,λ k hk m=>?_,o⟩,by dsimp only;omega⟩
   by_cases y:k=(a + b) / 2
   ·subst y;omega
   ·have:=q ((a + b) / 2) k hk (by omega);omega
 ·obtain rfl:a=b:=by omega
  have fin:∀ (t:Bool) w,Sat R Hs w->∃ (p:Nat) (b:Bool),Value.tuple #[nI a,.bool t]=.tuple #[nI p,.bool b]/\p<=l.length/\(∀ k (h:k<l.length),k<p->l[k]<n)/\(∀ k (h:k<l.length),p<=k->n<=l[k])/\Sat R Hs w:=λ t w o=>⟨a,t,rfl,r,x,c,o⟩;refine Br.d (λ g=>?_) (λ g=>fin _ _ o);have A:a<l.length:=by omega
  refine Ro.ix hs (eqS o) a rfl A ?_;refine Br.e (λ E=>fin _ _ o) (λ E=>?_);refine Ro.ix hs (eqS o) a rfl A ?_;refine (Zll o).u λ w o=>?_;exact ⟨_,rfl,Br.f rfl (fin _ _ o)⟩
theorem Zrr : (f282.name == "runtime.NumGoroutine") = false := by kernel_rfl
def Zrt:f282.body.isNone=true:=by kernel_rfl
def Zrq:Extern.findNext f282=none:=by kernel_rfl
def Zrs:∃ h,Extern.find f282=some (Extern.SlicesOverlaps.overlaps #[ 30,30 ] #[h]):=⟨4,by kernel_rfl⟩
def szI1:Zb9 prog 3=1:=by kernel_rfl
def szI (w:nW):(sizeOf 3).run prog w=.ok 1 w:=by
 obtain ⟨i,hi⟩:=Zji (P:=prog) (t:=3) (by rw [szI1];decide);have:=XA hi w;rw [szI1] at this;exact this
abbrev ZuD (n:Int) (T:TypeId):Obj:=.cells [nI n].toArray T (0,0)
def Zax {b k m:Nat} (h:m≠k):X4 (some ⟨b,0,none⟩) k m 1=some ⟨b,k,none⟩:=by
 simp only [X4,qc h,vm,Zs];simp
def Ze0 {d b2 o:Nat} {n:Int} {y T2:TypeId} {l:List Value} {fr:Nat × Nat} {z g:Nat} {Q:Ending->xE} (hl:l≠[])
  (i:Sat R (pts b2 (.cells l.toArray T2 fr)::pts d (ZuD n y)::Hs) w) (k:Q (xR (.bool false)) w):
  Ext prog 282 #[.slice (some ⟨d,0,none⟩) 1 1,.slice (some ⟨b2,o,none⟩) z g] w Q:=by
 have j:=i.at;have u:=i.swap.at;have v:d≠b2:=by
  rintro rfl;obtain ⟨h,m,hd,h',p,hd',_⟩:=i;rw [show h=_ from m] at hd hd'
  rw [show h'=_ from p] at hd'
  have:=hd' d (by simp [Z0.one]);simp only [Cx.add,Z0.add,Z0.one] at this;split at this<;>simp_all
 obtain ⟨q,r⟩:=Zrs;refine ⟨.bool false,w,?_,k⟩;rw [run_callFunc_extern func282 Zrr Zrt Zrq r];rw [Lib.run_overlaps_apart (P:=prog) w 30 q 3 underlying30 1 (λ w=>szI w) ⟨d,0,none⟩ ⟨b2,o,none⟩ 1 1 z g v y T2 1 l.length ?_ ?_ ?_ ?_ ?_]
 ·rfl
 ·simp only [World.shape?,u];rfl
 ·simp only [World.shape?,j];simp
 ·cases l with
  |nil=>exact absurd rfl hl
  |cons a l=>simp
 ·simp [World.frozen?,u]
 ·simp [World.frozen?,u]
def ZbM {A B C V:List Value} {p:Nat} (h:A.length=p) (a:B.length=V.length):Vz (A++B++C) p V=A++V++C:=by
 rw [GF _ _ _ (by simp only [qb];omega)];have e1:(A++B++C).take p=A:=by rw [qn,j7 h]
 have e2:(A++B++C).drop (p + V.length)=C:=by rw [uj (by rw [qb];omega)]
 rw [e1,e2]
def put2 {A ys D rest:List Value} {x:Value} {p:Nat} (a:A.length=p) (h:ys.length=D.length + 1):Vz (Vz ((A++ys)++rest) p [x]) (p + 1) D=(A++x::D)++rest:=by
 match ys,h with
 |y0::ys',h=>
  have d:Vz ((A++y0::ys')++rest) p [x]=A++[x]++(ys'++rest):=by
   have:=ZbM (A:=A) (B:=[y0]) (C:=ys'++rest) (V:=[x]) a rfl;rw [<-this];simp
  have o:=ZbM (A:=A++[x]) (B:=ys') (C:=rest) (V:=D) (p:=p + 1) (by simp [a]) (by simpa using h);rw [d,<-qn,o];simp
def ZxY {A D rest:List Value} {x:Value} {p:Nat} (o:A.length=p) (i:1<=rest.length):Vz (Vz ((A++D)++rest) (p + 1) D) p [x]=(A++x::D)++rest.drop 1:=by
 match rest,i with
 |r0::rest',_=>
  obtain ⟨a,h,u,hl⟩:∃ a h,D++[r0]=a::h/\h.length=D.length:=by
   cases D with
   |nil=>exact ⟨r0,[],rfl,rfl⟩
   |cons d D=>exact ⟨d,D++[r0],rfl,by simp⟩
  have e:(A++D)++r0::rest'=(A++[a])++h++rest':=by
   have:(A++D)++r0::rest'=A++(D++[r0])++rest':=by simp
   rw [this,u];simp
  rw [e,ZbM (p:=p + 1) (by simp [o]) hl];have:=ZbM (A:=A) (B:=[a]) (C:=D++rest') (V:=[x]) o rfl;rw [show (A++[a])++D++rest'=A++[a]++(D++rest') by simp,this];simp
def Zmf {b:Nat} {n:Int} {T:TypeId} (h:w.heap[b]? =some (ZuD n T)):∀ j v,[nI n][j]? =some v->w.cell? ((⟨b,0,none⟩:Addr).add j)=some v:=by
 intro j v hj;rw [Zs,Yy h,jb];exact hj
def Zjm {b p:Nat} {xs rest:List Value} {T:TypeId} {fr:Nat × Nat} (h:w.heap[b]? =some (.cells (xs++rest).toArray T fr)) (_hp:p<=xs.length):∀ j v,(xs.drop p)[j]? =some v->w.cell? ((⟨b,p,none⟩:Addr).add j)=some v:=by
 intro j v hj;rw [Zs,Yy h];rw [List.getElem?_drop] at hj;have a:=(List.getElem?_eq_some_iff.1 hj).1;rw [List.getElem?_append_left (by omega)];exact hj
def ZiD {s:Sl} {l:List Int} {n:Int} {p b:Nat} {T:TypeId} (hl:l.length<=1000000000) (O:p<=l.length) (o:Sat R (Own s 3 (Zd l)::pts b (ZuD n T)::Hs) w):
  Zg prog 249 #[.slice s.a s.len s.cap,nI p,.slice (some ⟨b,0,none⟩) 1 1] w λ v w'=>∃ t:Sl,v=.slice t.a t.len t.cap/\Sat R (Own t 3 (Zd (l.take p++n::l.drop p))::pts b (ZuD n T)::Hs) w':=by
 have k:=Own.len o;have x:=Own.cap o;rw [qa] at k;refine ZsI s p ⟨some ⟨b,0,none⟩,1,1⟩ _ _ ?_;unfold B249;dsimp only;have w1:wI ((s.len:Int) + ((1:Nat):Int))=((l.length + 1:Nat):Int):=by rw [Zc];omega
 have w2:wI (((l.length + 1:Nat):Int) - p)=((l.length + 1 - p:Nat):Int):=by rw [Zc];omega
 have w3:wI ((p:Int) + ((1:Nat):Int))=((p + 1:Nat):Int):=by rw [Zc];omega
 rw [w1,w2,w3];simp only [qo];refine ⟨by omega,by omega,Br.f rfl (Br.e (λ h=>?_) (λ h=>Br.d (λ G=>?_) (λ G=>?_)))⟩
 ·-- behind all
  refine XV Zdn o (Zi8 Zdn.hk 1 o rfl) (U1 _ _) (by rw [qa];omega) (by rw [qa];omega) λ t w o=>⟨t,rfl,?_⟩;have e:Zd l++[nI n]=Zd (l.take p++n::l.drop p):=by
   rw [qg (by omega),jg (by omega)];simp
  rw [e] at o;exact o
 ·-- no room
  refine ⟨by omega,by omega,?_⟩;refine Zdo (z:=nI 0) underlying30 underlying3 Zdn.hi (by omega) (by rw [qa];omega) (by omega) (by omega) (by omega) o λ t w ys r o=>?_;have E:=Own.len o;rw [qb,qd,qa,r] at E;refine ⟨by omega,by omega,?_⟩;rcases Own.cases o with ⟨_,c,_⟩|⟨b',rest,fr,rfl,y,o⟩
  ·have:=qH List.length c
   rw [qb,r,qN] at this;omega
  dsimp only at E ⊢;have H:((Zd l).take p).length=p:=by rw [qd,qa];omega
  have g:((Zd l).take p++ys).length=l.length + 1:=by rw [qb,H,r];omega
  have A:=(o.takeP (b:=b) inferInstance).at;rw [g,Zax (by rw [qb,g];omega)];refine ZaB underlying30 (by kernel_rfl) o y (cs:=[nI n]) (by show 1=min _ _;omega) (by rw [qb,g];show p + 1<=_;omega) (Zmf A) rfl λ _ w o=>?_;refine Zi o λ w o=>⟨by omega,by omega,by omega,by omega,?_⟩;rcases Own.cases o.swap with ⟨_,c,_⟩|⟨bs,I,L,rfl,J,i⟩
  ·have M:l.length=0:=by
    have:=qH List.length c;rw [qa] at this;exact this
   omega
  clear w1 w2 w3;dsimp only at k x h G ⊢;rw [qa] at h;have m:=i.at;rw [Zax (by rw [qb,g];omega),Zax (by rw [qb,qa];omega)];refine ZaB underlying30 (by kernel_rfl) i.swap (by rw [XR];exact y) (cs:=(Zd l).drop p) (by rw [qx,qa];show _=min _ _;omega)
   (by rw [XR,qb,g,qx,qa];omega) (Zjm m (by rw [qa];omega)) (by rw [<-jo];exact U1 _ _) λ _ w o=>?_
  rw [put2 H (by rw [r,qx,qa];omega)] at o;have e:(Zd l).take p++nI n::(Zd l).drop p=Zd (l.take p++n::l.drop p):=by simp [jk,jo]
  have j:(Zd (l.take p++n::l.drop p)).length=l.length + 1:=by simp;omega
  rw [e] at o;have u:=Own.of_pts o (by have:=y;rw [qb,g] at this;rw [qb,j];exact this);rw [j] at u;refine ⟨⟨some ⟨b',0,none⟩,l.length + 1,(Zd (l.take p++n::l.drop p)++rest).length⟩,?_,?_⟩
  ·dsimp only
   have c1:((Zd l).take p++ys++rest).length=l.length + 1 + rest.length:=qb.trans (by rw [g]);have c2:(Zd (l.take p++n::l.drop p)++rest).length=l.length + 1 + rest.length:=qb.trans (by rw [j]);rw [c1,c2]
  ·exact Sat.cons (λ R' h=>h.drop) u
 ·-- room
  rcases Own.cases o with ⟨_,c,_⟩|⟨bs,rest,fr,rfl,y,i⟩
  ·have M:l.length=0:=by
    have:=qH List.length c;rw [qa] at this;exact this
   omega
  clear w1 w2 w3;dsimp only at k x h G ⊢;rw [qa] at h;have H:((Zd l).take p).length=p:=by rw [qd,qa];omega
  have q:(Zd l++rest).length=l.length + rest.length:=by rw [qb,qa]
  have D:1<=rest.length:=by
   rw [q] at G;omega
  refine ⟨by omega,by omega,by omega,by omega,?_⟩;rw [Zax (by omega)];refine Ze0 (by intro c;have N:=qH List.length c;rw [q,qN] at N;omega) i ?_;refine ⟨_,rfl,Br.t rfl ?_⟩;refine Zi i λ w i=>⟨by omega,by omega,by omega,by omega,?_⟩;rw [Zax (by omega)];have m:=i.at;refine ZaB underlying30 (by kernel_rfl) i y (cs:=(Zd l).drop p) (by rw [qx,qa];show _=min _ _;omega)
   (by rw [q,qx,qa];omega) (Zjm m (by rw [qa];omega)) (by rw [<-jo];exact U1 _ _) λ _ w o=>?_
  refine ⟨by omega,by omega,?_⟩;have A:=o.swap.at;refine ZaB underlying30 (by kernel_rfl) o (by rw [XR];exact y) (cs:=[nI n]) (by show 1=min _ _;omega) (by rw [XR,q];show p + 1<=_;omega) (Zmf A) rfl λ _ w o=>?_;have e0:Zd l++rest=((Zd l).take p++(Zd l).drop p)++rest:=by rw [qD]
  rw [e0,ZxY H D] at o;have e:(Zd l).take p++nI n::(Zd l).drop p=Zd (l.take p++n::l.drop p):=by simp [jk,jo]
  have j:(Zd (l.take p++n::l.drop p)).length=l.length + 1:=by simp;omega
  rw [e] at o;have F:(Zd (l.take p++n::l.drop p)++rest.drop 1).length=(Zd l++rest).length:=by rw [qb,j,q,qx];omega
  have u:=Own.of_pts o (by rw [F];exact y);rw [j,F] at u;exact ⟨_,rfl,u⟩
structure Zw where
 owner:Int
 cls:Int
 many:Int
 seats:List Int
structure PF where
 num:Int
 rows:Int
 grps:List Int
 lims:List Int
 sold:List Int
 hs:List (Int × Zw)
 own:List (Int × Int)
abbrev YO (h:Zw) (s:Sl):Obj:=.cells [nI h.owner,nI h.cls,nI h.many,.slice s.a s.len s.cap].toArray 197 (0,0)
def ZaM (b:Nat) (h:Zw):HP:=exs λ s:Sl=>XS [pts b (YO h s),Own s 3 (Zd h.seats)]
abbrev HE:=Int × Nat × Zw
def Yh (E:List HE):HP:=XS (E.map λ e=>ZaM e.2.1 e.2.2)
abbrev Yd (E:List HE):List (Int × Value):=E.map λ e=>(e.1,xP (some ⟨e.2.1,0,none⟩))
abbrev hEr (E:List HE):List (Int × Zw):=E.map λ e=>(e.1,e.2.2)
abbrev WM (l:List (Int × Int)):List (Int × Value):=l.map λ e=>(e.1,nI e.2)
abbrev Y2 (f:PF) (sg sl ss:Sl) (hm om:Nat):Obj:=
 .cells [nI f.num,nI f.rows,.slice sg.a sg.len sg.cap,.slice sl.a sl.len sl.cap,.slice ss.a ss.len ss.cap,.map (some hm),.map (some om)].toArray 186 (0,0)
abbrev FO (p hm om:Nat) (sg sl ss:Sl) (E:List HE) (f:PF) (Hs:List HP):List HP:=
 pts p (Y2 f sg sl ss hm om)::MapAt hm (Yd E)::MapAt om (WM f.own)::Yh E::Hs
structure FX where
 hm:Nat
 om:Nat
 sg:Sl
 sl:Sl
 ss:Sl
 E:List HE
def ZI (p:Nat) (f:PF):HP:=exs λ x:FX=>
 XS [pur (hEr x.E=f.hs),Zv x.sg (Zd f.grps),Zv x.sl (Zd f.lims),Zv x.ss (Zd f.sold),pts p (Y2 f x.sg x.sl x.ss x.hm x.om),MapAt x.hm (Yd x.E),MapAt x.om (WM f.own),Yh x.E]
def Sat.flight {p:Nat} {f:PF}:Sat R (ZI p f::Hs) w↔∃ hm om sg sl ss E,hEr E=f.hs/\Sat R (Zv sg (Zd f.grps)::Zv sl (Zd f.lims)::Zv ss (Zd f.sold)::FO p hm om sg sl ss E f Hs) w:=by
 unfold ZI;rw [Sat.exs];constructor
 ·rintro ⟨⟨hm,om,sg,sl,ss,E⟩,h⟩
  obtain ⟨a,d⟩:=Sat.pur.1 (Sat.star.1 h);exact ⟨hm,om,sg,sl,ss,E,a,d⟩
 ·rintro ⟨hm,om,sg,sl,ss,E,a,d⟩
  exact ⟨⟨hm,om,sg,sl,ss,E⟩,Sat.star.2 (Sat.pur.2 ⟨a,d⟩)⟩
def Sat.flightO {p:Nat} {f:PF} (a:Sat R (ZI p f::Hs) w):∃ hm om sg sl ss E R',hEr E=f.hs/\R.Ext R'/\SlR R'.m sg (Zd f.grps)/\SlR R'.m sl (Zd f.lims)/\SlR R'.m ss (Zd f.sold)/\Sat R' (FO p hm om sg sl ss E f Hs) w/\
  ∀ Hs' w',Sat R' Hs' w'->Sat R (Zv sg (Zd f.grps)::Zv sl (Zd f.lims)::Zv ss (Zd f.sold)::Hs') w':=by
 obtain ⟨hm,om,sg,sl,ss,E,i,a⟩:=Sat.flight.1 a;obtain ⟨k,u,v,a,y⟩:=Zv.out a;obtain ⟨l,o,z,a,b2⟩:=Zv.out a;obtain ⟨g,d,j,a,b3⟩:=Zv.out a;exact ⟨hm,om,sg,sl,ss,E,g,i,u.trans (o.trans d),d.slR (o.slR v),d.slR z,j,a,λ Hs' w' h=>y _ _ (b2 _ _ (b3 _ _ h))⟩
def Sat.flightC {p hm om:Nat} {sg sl ss:Sl} {E:List HE} {f:PF} (h:hEr E=f.hs) (a:Sat R (Zv sg (Zd f.grps)::Zv sl (Zd f.lims)::Zv ss (Zd f.sold)::FO p hm om sg sl ss E f Hs) w):Sat R (ZI p f::Hs) w:=
 Sat.flight.2 ⟨hm,om,sg,sl,ss,E,h,a⟩
def Sat.hold {b:Nat} {h:Zw}:Sat R (ZaM b h::Hs) w↔∃ s:Sl,Sat R (pts b (YO h s)::Own s 3 (Zd h.seats)::Hs) w:=by
 unfold ZaM;rw [Sat.exs];exact ⟨λ⟨s,h⟩=>⟨s,Sat.star.1 h⟩,λ⟨s,h⟩=>⟨s,Sat.star.2 h⟩⟩
def Sat.holds {a b:List HE} {e:HE}:Sat R (Yh (a++e::b)::Hs) w↔Sat R (ZaM e.2.1 e.2.2::Yh (a++b)::Hs) w:=by
 have p:((a++e::b).map λ e:HE=>ZaM e.2.1 e.2.2).Perm (ZaM e.2.1 e.2.2::(a++b).map λ e:HE=>ZaM e.2.1 e.2.2):=by
  rw [qe,qi,qe];exact qY
 unfold Yh;constructor
 ·intro h
  have d:=(Sat.star.1 h).perm (p.append_right Hs);exact d.cons λ _ h=>Sat.star.2 h
 ·intro h
  have d:Sat R ((ZaM e.2.1 e.2.2::(a++b).map λ e:HE=>ZaM e.2.1 e.2.2)++Hs) w:=h.cons λ _ h=>Sat.star.1 h;exact Sat.star.2 (d.perm (p.symm.append_right Hs))
abbrev Zx2:ZqW prog 183 Int 3 227 (xP none):=⟨underlying183,underlying3,zeroValue227⟩
abbrev Zx0:ZqW prog 184 Int 3 3 (nI 0):=⟨underlying184,underlying3,zeroValue3⟩
def ZcX (k:Int) (E:List HE):ZL k (Yd E)=(ZL k E).map λ x=>xP (some ⟨x.1,0,none⟩):=Zau (λ x:Nat × Zw=>Value.pointer (some ⟨x.1,0,none⟩)) k E
def Wr (k:Int) (E:List HE):ZL k (hEr E)=(ZL k E).map (·.2):=Zau (λ x:Nat × Zw=>x.2) k E
def Znd (k:Int) (l:List (Int × Int)):ZL k (WM l)=(ZL k l).map (Value.int .i64):=Zau (Value.int .i64) k l
def VV {m:Nat} {E:List HE} (a:Sat R (MapAt m (Yd E)::Hs) w) (k:Int) (c:Bool):
  (Instr.lookup 183 (.map (some m)) (nI k) c).run prog w=.ok (if c then .tuple #[xP ((ZL k E).map λ x=>⟨x.1,0,none⟩),.bool (ZL k E).isSome] else xP ((ZL k E).map λ x=>⟨x.1,0,none⟩)) w:=by
 have h:=MapAt.look Zx2 a k c;rw [ZcX] at h;rw [show nI k=XW.enc k from rfl,h]
 cases ZL k E<;>rfl
def Zpu {m:Nat} {l:List (Int × Int)} (a:Sat R (MapAt m (WM l)::Hs) w) (k:Int) (c:Bool):
  (Instr.lookup 184 (.map (some m)) (nI k) c).run prog w=.ok (if c then .tuple #[nI ((ZL k l).getD 0),.bool (ZL k l).isSome] else nI ((ZL k l).getD 0)) w:=by
 have h:=MapAt.look Zx0 a k c;rw [Znd] at h;rw [show nI k=XW.enc k from rfl,h]
 cases ZL k l<;>rfl
def Zjo {α β γ:Type} [BEq α] (f:β->γ) (k:α) (v:β):∀ l:List (α × β),Zbm k (f v) (l.map λ e=>(e.1,f e.2))=(Zbm k v l).map λ e=>(e.1,f e.2)
 |[]=>rfl
 |e::l=>by
  simp only [qi,Zbm];split
  ·rfl
  ·rw [Zjo f k v l];rfl
def Zj2 {α β γ:Type} [BEq α] (f:β->γ) (k:α):∀ l:List (α × β),GT k (l.map λ e=>(e.1,f e.2))=(GT k l).map λ e=>(e.1,f e.2)
 |[]=>rfl
 |e::l=>by
  simp only [qi,GT];split
  ·rfl
  ·rw [Zj2 f k l];rfl
def Zpo {α β γ:Type} [BEq α] (f:β->γ) (k:α) (v:β) (l:List (α × β)):Gl k (f v) (l.map λ e=>(e.1,f e.2))=(Gl k v l).map λ e=>(e.1,f e.2):=by
 unfold Gl;rw [Zau,uJ];split
 ·exact Zjo f k v l
 ·simp
def Zw.put (h:Zw) (n:Int):Zw:={ h with seats:=Up n h.seats }
def Zf9 {p hm om b:Nat} {sg sl ss:Sl} {a c:List HE} {k n:Int} {h:Zw} {f:PF} (z:ZlO h.seats) (hl:h.seats.length<=1000000000) (d:Sat R (FO p hm om sg sl ss (a++(k,b,h)::c) f Hs) w):
  Zg prog 178 #[nP p,nP b,nI n] w λ v w'=>v=.tuple #[]/\Sat R (FO p hm om sg sl ss (a++(k,b,h.put n)::c) { f with own:=Gl n h.owner f.own } Hs) w':=by
 have d:=d.take (Yh (a++(k,b,h)::c));obtain ⟨s,d⟩:=Sat.hold.1 (Sat.holds.1 d);apply Ztu;refine Zb.mk rfl ⟨s,oA d,?_⟩;obtain ⟨R',i,_,o,back⟩:=Own.lend (d.take (Own s 3 (Zd h.seats))) (by rw [qa];omega);refine (ZhD (l:=h.seats) i z hl o).use ?_;clear d o;rintro _ w ⟨q,m,rfl,u,g,j,d⟩;have d:=(back d).swap;refine ⟨_,_,rfl,Zb.mk rfl ⟨s,oA d,?_⟩⟩;refine Za d λ y w d=>?_;refine (ZiD (T:=3) hl u (d.take (Own s 3 (Zd h.seats)))).u1 λ t w d=>?_;rw [<-ZnO u g j] at d;refine ⟨_,rfl,Zb.mk rfl ?_⟩;refine sRu d λ w d=>?_;have d:Sat R (pts b (YO (h.put n) t)::Own t 3 (Zd (Up n h.seats))::pts y (ZuD n 3)::Yh (a++c)::pts p (Y2 f sg sl ss hm om)::MapAt hm (Yd (a++(k,b,h)::c))::MapAt om (WM f.own)::Hs) w:=d;refine Zi d λ w d=>?_;refine Zb.mk rfl ⟨some om,oS,Zb.mk rfl ⟨h.owner,by rw [Zs];exact oS,?_⟩⟩;refine MapAt.put Zx0 (d.take (MapAt om (WM f.own))) n (nI h.owner) λ w d=>⟨rfl,?_⟩;rw [Zpo (Value.int .i64) n h.owner f.own] at d;have d:=(d.take (pts y (ZuD n 3))).drop;have d:Sat R (pts b (YO (h.put n) t)::Own t 3 (Zd (h.put n).seats)::MapAt om (WM (Gl n h.owner f.own))::Yh (a++c)::pts p (Y2 f sg sl ss hm om)::MapAt hm (Yd (a++(k,b,h)::c))::Hs) w:=
  (d.take (Own t 3 (Zd (Up n h.seats)))).take (pts b (YO (h.put n) t))
 have d:=Sat.hold.2 ⟨t,d⟩;have d:=(Sat.holds (e:=((k,b,h.put n):HE)) (a:=a) (b:=c)).2 (d.cons λ _ h=>h.take (Yh (a++c)));have e:Yd (a++(k,b,h.put n)::c)=Yd (a++(k,b,h)::c):=by simp [Yd]
 show Sat R (pts p (Y2 f sg sl ss hm om)::MapAt hm (Yd (a++(k,b,h.put n)::c))::MapAt om (WM (Gl n h.owner f.own))::Yh (a++(k,b,h.put n)::c)::Hs) w;rw [e];exact ((d.take (MapAt om (WM (Gl n h.owner f.own)))).take (MapAt hm (Yd (a++(k,b,h)::c)))).take (pts p (Y2 f sg sl ss hm om))
def XD (n:Int) (g:List Int) (l:List Int):List ByteArray:=l.map λ k=>(Zfe n g k).1
def Zsa:El prog 31 31 9 16:=⟨underlying31,⟨_,underlying31⟩,by kernel_rfl⟩
def Za2 (l:List ByteArray):ZN (l.map Value.string)=true:=by unfold ZN;simp [Value.oneCell']
def ZcT {p hm om:Nat} {sg sl ss g:Sl} {f:PF} {l:List Int} [tk:VM p Hs (Y2 f sg sl ss hm om) Rest] (n:RoI R sg f.grps) (hl:RoI R g l) (m:l.length<=1000000) (o:Sat R Hs w):
  Zg prog 181 #[nP p,.slice g.a g.len g.cap] w λ v w'=>∃ t:Sl,v=.slice t.a t.len t.cap/\Sat R (Own t 9 ((XD f.rows f.grps l).map Value.string)::Hs) w':=by
 have q:=hl.len;apply Zts;refine ⟨λ k i w=>∃ j:Nat,i=j/\j<=l.length/\Sat R (Own k 9 ((XD f.rows f.grps (l.take j)).map Value.string)::Hs) w,λ _ i _=>l.length - i.toNat,⟨0,rfl,by omega,Own.nil o⟩,?_⟩;clear o;rintro _ k _ w ⟨j,rfl,hj,o⟩;refine Br.d (λ h=>?_) (λ h=>?_)
 ·have z:j<l.length:=by omega
  refine Ro.ix hl (eqS o) j rfl z ?_;refine Zb.mk rfl ⟨f.rows,sg,At.own (l:=[nI f.num,nI f.rows,.slice sg.a sg.len sg.cap,.slice sl.a sl.len sl.cap,.slice ss.a ss.len ss.cap,.map (some hm),.map (some om)]) (t:=VM.tail (t:=tk)) (eqS o) (by exact ⟨rfl,rfl,trivial⟩),?_⟩;refine (Zlj n o).u λ w o=>?_;have y:(XD f.rows f.grps (l.take j)).length=j:=by unfold XD;rw [qa,qd];omega
  refine ⟨_,_,rfl,?_⟩;refine Wz Zsa o (Za2 _) rfl (by rw [qa,y];omega) (by rw [qa,y];omega) λ t w o=>?_;rw [Zc];refine ⟨⟨j + 1,by omega,by omega,?_⟩,by dsimp only;omega⟩;have e:(XD f.rows f.grps (l.take (j + 1))).map Value.string=(XD f.rows f.grps (l.take j)).map Value.string++[xZ (Zfe f.rows f.grps l[j]).1]:=by
   unfold XD;rw [qp,List.getElem?_eq_getElem z,q9,qe,qe];rfl
  rw [e];exact o
 ·rw [qg (by omega)] at o
  exact ⟨k,rfl,o⟩
def Wv {K:Nat->xE} (h:Sat R Hs w) (k:∀ m w',Sat R (MapAt (α:=Int) m []::Hs) w'->K m w'):New (.map #[] 0) K w:=
 Za h λ m w h=>k m w (MapAt.new rfl h)
def UM {n:Nat} {K:Sl->xE} (d:n<=1000) (h:Sat R Hs w) (k:∀ s w',Sat R (Own s 3 (Zd (List.replicate n 0))::Hs) w'->K s w'):
  ∃ w',∃ t:Sl,(Instr.makeSlice 30 (nI (n:Int)) (nI (n:Int))).run prog w=.ok (.slice t.a t.len t.cap) w'/\K t w':=
 ZcM (bytes:=8) (z:=nI 0) underlying30 (by kernel_rfl) zeroValue3 rfl (by omega) (by omega) h λ s w h=>k s w (by
  rw [show Zd (List.replicate n 0)=List.replicate n (nI 0) by simp [Zd]];exact h)
def UF (num rows:Int) (grps lims:List Int):PF:=⟨num,rows,grps,lims,List.replicate lims.length 0,[],[]⟩
def Zls {num rows:Int} {sg sl:Sl} {grps lims:List Int} (hl:lims.length<=1000) (d:Sat R (Zv sg (Zd grps)::Zv sl (Zd lims)::Hs) w):
  Zg prog 167 #[nI num,.agg #[nI rows,.slice sg.a sg.len sg.cap],.slice sl.a sl.len sl.cap] w λ v w'=>∃ p,v=nP p/\Sat R (ZI p (UF num rows grps lims)::Hs) w':=by
 have o:sl.len=lims.length:=by
  obtain ⟨_,_,h,_⟩:=Zv.out d.swap;have:=h.len;rw [qa] at this;exact this
 apply ZtF;refine Za d λ b4 w d=>?_;have d:Sat R (pts b4 (WQ rows sg)::Zv sg (Zd grps)::Zv sl (Zd lims)::Hs) w:=d;refine Zi d λ w d=>?_;rw [o];have fin:∀ {hm om:Nat} {ss:Sl} {w:World} (_:Sat R (MapAt (α:=Int) om []::MapAt (α:=Int) hm []::Own ss 3 (Zd (List.replicate lims.length 0))::pts b4 (WQ rows sg)::Zv sg (Zd grps)::Zv sl (Zd lims)::Hs) w),
   New (.cells #[nI num,nI rows,.slice sg.a sg.len sg.cap,.slice sl.a lims.length sl.cap,.slice ss.a ss.len ss.cap,.map (some hm),.map (some om)] 186 (0,0))
    (λ p w=>Sat R (pts b4 (WQ rows sg)::Zv sg (Zd grps)::Zv sl (Zd lims)::Hs) w/\∃ i,Value.pointer (some ⟨p,0,none⟩)=xP (some ⟨i,0,none⟩)/\Sat R (ZI i (UF num rows grps lims)::Hs) w) w:=λ {hm om ss w} d=>by
  refine Za d λ p w d=>⟨d.drop.drop.drop.drop,p,rfl,?_⟩;refine Sat.flight.2 ⟨hm,om,sg,sl,ss,[],rfl,?_⟩;have ec:(Obj.cells #[nI num,nI rows,.slice sg.a sg.len sg.cap,.slice sl.a lims.length sl.cap,.slice ss.a ss.len ss.cap,.map (some hm),.map (some om)] 186 (0,0))=Y2 (UF num rows grps lims) sg sl ss hm om:=by rw [<-o];rfl
  rw [ec] at d;have d:=(d.take (pts b4 (WQ rows sg))).drop;have d:=d.take (Own ss 3 (Zd (List.replicate lims.length 0)));have d:Sat R (Zv ss (Zd (List.replicate lims.length 0))::pts p (Y2 (UF num rows grps lims) sg sl ss hm om)::MapAt (α:=Int) om []::MapAt (α:=Int) hm []::Zv sg (Zd grps)::Zv sl (Zd lims)::Hs) w:=Own.reads d;have u:Sat R (Yh []::Zv ss (Zd (List.replicate lims.length 0))::pts p (Y2 (UF num rows grps lims) sg sl ss hm om)::MapAt (α:=Int) om []::MapAt (α:=Int) hm []::Zv sg (Zd grps)::Zv sl (Zd lims)::Hs) w:=Sat.star.2 d;have y:=(((((((u.take (Yh [])).take (MapAt (α:=Int) om [])).take (MapAt (α:=Int) hm [])).take (pts p (Y2 (UF num rows grps lims) sg sl ss hm om))).take (Zv ss (Zd (List.replicate lims.length 0)))).take (Zv sl (Zd lims))).take (Zv sg (Zd grps)));exact y
 refine ⟨rows,sg,oS,?_,?_,?_⟩
 ·refine UM hl d λ ss w d=>⟨d.drop,?_,?_⟩
  ·refine Wv d λ hm w d=>⟨d.drop.drop,Wv d λ om w d=>⟨d.drop.drop.drop,fin d⟩⟩
  ·refine Wv d λ om w d=>⟨d.drop.drop,Wv d λ hm w d=>⟨d.drop.drop.drop,fin d.swap⟩⟩
 ·refine Wv d λ hm w d=>⟨d.drop,?_,?_⟩
  ·refine UM hl d λ ss w d=>⟨d.drop.drop,Wv d λ om w d=>⟨d.drop.drop.drop,fin ((d.take (MapAt (α:=Int) hm [])).take (MapAt (α:=Int) om []))⟩⟩
  ·refine Wv d λ om w d=>⟨d.drop.drop,UM hl d λ ss w d=>⟨d.drop.drop.drop,fin ((d.take (MapAt (α:=Int) hm [])).take (MapAt (α:=Int) om []))⟩⟩
 ·refine Wv d λ om w d=>⟨d.drop,?_,?_⟩
  ·refine UM hl d λ ss w d=>⟨d.drop.drop,Wv d λ hm w d=>⟨d.drop.drop.drop,fin ((d.take (MapAt (α:=Int) hm [])).take (MapAt (α:=Int) om []))⟩⟩
  ·refine Wv d λ hm w d=>⟨d.drop.drop,UM hl d λ ss w d=>⟨d.drop.drop.drop,fin ((d.take (MapAt (α:=Int) hm [])).take (MapAt (α:=Int) om []))⟩⟩
def Zae (num rows:Int) (grps:List Int) (parts:List Nat):Prop:=1<=num/\num<=9999/\VK rows grps=true/\(ZB (YN rows grps) parts).2=0
def Zlb {s:Int} {parts:List Nat}:(ZB s parts).1.length<=8:=by
 unfold ZB;split
 ·simp
 ·simp only [qr,Ux,ud];omega
def Zlp {num rows:Int} {sg sp:Sl} {grps:List Int} {parts:List Nat} (z:RoI R sg grps) (k:SlR R.m sp (GM parts)) (o:Sat R Hs w):
  Zg prog 98 #[nI num,.agg #[nI rows,.slice sg.a sg.len sg.cap],.slice sp.a sp.len sp.cap] w λ v w'=>
   (¬ Zae num rows grps parts/\v=.tuple #[xP none,nI 1]/\Sat R Hs w')\/
   (Zae num rows grps parts/\∃ p,v=.tuple #[nP p,nI 0]/\Sat R (ZI p (UF num rows grps (ZB (YN rows grps) parts).1)::Hs) w'):=by
 apply Zvh;refine Za o λ b4 w o=>?_;have o:Sat R (pts b4 (WQ rows sg)::Hs) w:=o;refine ⟨rows,sg,oA o,?_⟩;refine (V0 z o).u λ w o=>?_;refine ⟨_,rfl,?_⟩;refine (Ziw k o).u1 λ t w o=>?_;have bad:¬ Zae num rows grps parts->∀ {w},Sat R (Own t 3 (Zd (ZB (YN rows grps) parts).1)::pts b4 (WQ rows sg)::Hs) w->(¬ Zae num rows grps parts/\Value.tuple #[xP none,nI 1]=.tuple #[xP none,nI 1]/\Sat R Hs w)\/
   (Zae num rows grps parts/\∃ p,Value.tuple #[xP none,nI 1]=.tuple #[nP p,nI 0]/\Sat R (ZI p (UF num rows grps (ZB (YN rows grps) parts).1)::Hs) w):=λ h w o=>.inl ⟨h,rfl,o.drop.drop⟩
 refine ⟨_,_,rfl,Br.d (λ h=>bad (λ i=>by have:=i.1;omega) o) (λ n=>Br.d (λ h=>bad (λ i=>by have:=i.2.1;omega) o) (λ i=>?_))⟩;refine ⟨rows,sg,oA o,?_⟩;refine (ZaU z o).u λ w o=>?_;refine ⟨_,rfl,Br.nb (λ h=>bad (λ i=>by have g:=i.2.2.1;rw [h] at g;cases g) o) (λ j=>Br.ne (λ h=>bad (λ i=>h i.2.2.2) o) (λ l=>?_))⟩;refine ⟨sg,oA o,?_⟩;obtain ⟨q,_,_⟩:=Z7.1 j;refine (GP z (by omega) o).u1 λ y w o=>?_;refine ⟨y,rfl,?_⟩;refine sRu o λ w o=>?_;have o:Sat R (pts b4 (WQ rows y)::Own y 3 (Zd grps)::Own t 3 (Zd (ZB (YN rows grps) parts).1)::Hs) w:=o;refine ⟨rows,y,oA o,?_⟩;have o:Sat R (Zv y (Zd grps)::Zv t (Zd (ZB (YN rows grps) parts).1)::Hs) w:=Sat.cons (λ _ h=>Own.reads h) (Own.reads o.drop);refine (Zls (by have:=Zlb (s:=YN rows grps) (parts:=parts);omega) o).u1 λ p w o=>?_;exact ⟨_,rfl,.inr ⟨⟨by omega,by omega,j,l⟩,p,rfl,o⟩⟩
def Uq (f:PF) (owner cls many:Int):PF × Int:=
 if owner<1\/owner>28629151 then (f,1) else if (ZL owner f.hs).isSome then (f,7)
 else if (YP f.lims f.sold cls many).2=0 then ({ f with sold:=(YP f.lims f.sold cls many).1,hs:=f.hs++[(owner,⟨owner,cls,many,[]⟩)] },0) else (f,(YP f.lims f.sold cls many).2)
def Zkp {p:Nat} {f:PF} {owner cls many:Int} (hl:f.lims.length<=1000) (hs:f.sold.length<=1000) (o:Sat R (ZI p f::Hs) w):
  Zg prog 101 #[nP p,nI owner,nI cls,nI many] w λ v w'=>v=nI (Uq f owner cls many).2/\Sat R (ZI p (Uq f owner cls many).1::Hs) w':=by
 obtain ⟨hm,om,sg,sl,ss,E,R',u,_,_,z,g,o,back⟩:=Sat.flightO o;have same:∀ {w},Sat R' (FO p hm om sg sl ss E f Hs) w->Sat R (ZI p f::Hs) w:=λ o=>Sat.flightC u (back _ _ o);have eget:(ZL owner f.hs).isSome=(ZL owner E).isSome:=by rw [<-u,Wr,uJ]
 apply Zuu;refine Zb.mk rfl ⟨some hm,oA o,(ZL owner E).map (λ x=>⟨x.1,0,none⟩),(ZL owner E).isSome,λ w' e=>by rw [show w'=w from e];exact VV (o.take (MapAt hm (Yd E))) owner true,?_⟩
 refine ⟨λ w=>(1<=owner/\owner<=28629151/\(ZL owner E).isSome=false)/\Sat R' (FO p hm om sg sl ss E f Hs) w,?_,?_⟩
 ·refine Br.d (λ h=>?_) (λ j=>Br.d (λ h=>?_) (λ k=>Br.mk (λ h=>?_) (λ h=>⟨⟨by omega,by omega,h⟩,o⟩)))
  ·rw [show Uq f owner cls many=(f,1) by unfold Uq;rw [qf (.inl h)]];exact ⟨rfl,same o⟩
  ·rw [show Uq f owner cls many=(f,1) by unfold Uq;rw [qf (.inr h)]];exact ⟨rfl,same o⟩
  ·rw [show Uq f owner cls many=(f,7) by unfold Uq;rw [qc (by omega),qf (by rw [eget];exact h)]];exact ⟨rfl,same o⟩
 clear o;rintro _ w ⟨⟨j,k,y⟩,o⟩;have e:Uq f owner cls many=if (YP f.lims f.sold cls many).2=0 then ({ f with sold:=(YP f.lims f.sold cls many).1,hs:=f.hs++[(owner,⟨owner,cls,many,[]⟩)] },0) else (f,(YP f.lims f.sold cls many).2):=by
  unfold Uq;rw [qc (by omega),qc (by rw [eget,y];simp)]
 rw [e];refine Zi o λ w o=>?_;refine Zb.mk rfl ⟨sl,oS,Zb.mk rfl ⟨ss,oS,?_⟩⟩;refine (Zmn (z.ro) (g.ro) o).u1 λ t w o=>?_;refine ⟨_,_,rfl,Br.e (λ i=>?_) (λ i=>?_)⟩
 ·rw [qf i,i]
  refine Zb.mk rfl ?_;refine sRu o λ w o=>?_;have o:Sat R' (pts p (Y2 f sg sl t hm om)::Own t 3 (Zd (YP f.lims f.sold cls many).1)::MapAt hm (Yd E)::MapAt om (WM f.own)::Yh E::Hs) w:=o;refine Zb.mk rfl ⟨some hm,oA o,?_⟩;refine Za o λ b w o=>?_;have o:Sat R' (pts b (YO ⟨owner,cls,many,[]⟩ ⟨none,0,0⟩)::pts p (Y2 f sg sl t hm om)::Own t 3 (Zd (YP f.lims f.sold cls many).1)::MapAt hm (Yd E)::MapAt om (WM f.own)::Yh E::Hs) w:=o;refine MapAt.put Zx2 (o.take (MapAt hm (Yd E))) owner (nP b) λ w o=>⟨rfl,?_⟩;have ep:Gl owner (Value.pointer (some ⟨b,0,none⟩)) (Yd E)=Yd (E++[(owner,b,⟨owner,cls,many,[]⟩)]):=by
   unfold Gl;rw [ZcX,uJ,y];simp [Yd]
  rw [ep] at o;have o:=o.take (Yh E);have o:=o.take (pts b (YO ⟨owner,cls,many,[]⟩ ⟨none,0,0⟩));have o:=(Sat.hold (b:=b) (h:=⟨owner,cls,many,[]⟩)).2 ⟨⟨none,0,0⟩,o.cons λ _ h=>Own.nil (T:=3) h⟩;rw [<-jl E] at o;have o:=(Sat.holds (e:=((owner,b,⟨owner,cls,many,[]⟩):HE)) (a:=E) (b:=[])).2 o;rw [jl] at o;have o:=o.take (Own t 3 (Zd (YP f.lims f.sold cls many).1));have o:=back _ _ (Own.reads o);refine Sat.flight.2 ⟨hm,om,sg,sl,t,E++[(owner,b,⟨owner,cls,many,[]⟩)],by rw [<-u];simp [hEr],?_⟩;have o:=(o.take (Zv ss (Zd f.sold))).drop;exact (((((o.take (Yh (E++[(owner,b,⟨owner,cls,many,[]⟩)]))).take (MapAt om (WM f.own))).take (MapAt hm (Yd (E++[(owner,b,⟨owner,cls,many,[]⟩)])))).take (pts p (Y2 f sg sl t hm om))).take (Zv t (Zd (YP f.lims f.sold cls many).1))).take (Zv sl (Zd f.lims))|>.take (Zv sg (Zd f.grps))
 ·rw [qc i];exact ⟨rfl,same o.drop⟩
abbrev FO1 (p hm om b:Nat) (sg sl ss s:Sl) (E Er:List HE) (f:PF) (h:Zw) (own:List (Int × Int)) (Hs:List HP):List HP:=
 pts b (YO h s)::Own s 3 (Zd h.seats)::Yh Er::pts p (Y2 f sg sl ss hm om)::MapAt hm (Yd E)::MapAt om (WM own)::Hs
def FO.open {p hm om b:Nat} {sg sl ss:Sl} {a c:List HE} {k:Int} {h:Zw} {f:PF} (d:Sat R (FO p hm om sg sl ss (a++(k,b,h)::c) f Hs) w):∃ s,Sat R (FO1 p hm om b sg sl ss s (a++(k,b,h)::c) (a++c) f h f.own Hs) w:=
 Sat.hold.1 (Sat.holds.1 (d.take (Yh (a++(k,b,h)::c))))
def FO.close {p hm om b:Nat} {sg sl ss s:Sl} {a c:List HE} {k:Int} {h h':Zw} {f:PF} {own:List (Int × Int)} (d:Sat R (FO1 p hm om b sg sl ss s (a++(k,b,h)::c) (a++c) f h' own Hs) w):
  Sat R (FO p hm om sg sl ss (a++(k,b,h')::c) { f with own:=own } Hs) w:=by
 have d:=(Sat.hold (b:=b) (h:=h')).2 ⟨s,d⟩;have d:=(Sat.holds (e:=((k,b,h'):HE)) (a:=a) (b:=c)).2 d;have e:Yd (a++(k,b,h')::c)=Yd (a++(k,b,h)::c):=by simp [Yd]
 show Sat R (pts p (Y2 f sg sl ss hm om)::MapAt hm (Yd (a++(k,b,h')::c))::MapAt om (WM own)::Yh (a++(k,b,h')::c)::Hs) w;rw [e];exact ((d.take (MapAt om (WM own))).take (MapAt hm (Yd (a++(k,b,h)::c)))).take (pts p (Y2 f sg sl ss hm om))
def Zoz {p hm om:Nat} {sg sl ss:Sl} {E:List HE} {f:PF} {owner:Int} {lab:ByteArray} (o:RoI R sg f.grps) (d:lab.size<=9223372036854775807) (a:Sat R (FO p hm om sg sl ss E f Hs) w):
  Zg prog 177 #[nP p,nI owner,xZ lab] w λ v w'=>
   v=.tuple #[xP ((ZL owner E).map λ x=>⟨x.1,0,none⟩),nI (YG f.rows f.grps lab).1,.bool ((ZL owner E).isSome && (YG f.rows f.grps lab).2==0)]/\Sat R (FO p hm om sg sl ss E f Hs) w':=by
 apply Ztv;refine Zb.mk rfl ⟨some hm,oA a,(ZL owner E).map (λ x=>⟨x.1,0,none⟩),(ZL owner E).isSome,λ w' e=>by rw [show w'=w from e];exact VV (a.take (MapAt hm (Yd E))) owner true,?_⟩
 refine Zb.mk rfl ⟨f.rows,sg,oA a,?_⟩;refine (Zn3 o d a).u λ w a=>?_;refine ⟨_,_,rfl,Br.mk (λ h=>⟨?_,a⟩) (λ h=>⟨?_,a⟩)⟩
 ·rw [h];rfl
 ·rw [h];rfl
def Gx (f:PF) (owner:Int) (lab:ByteArray):PF × Int:=
 match ZL owner f.hs with
 |none=>(f,2)
 |some h=>if (YG f.rows f.grps lab).2≠0 then (f,2) else if (h.seats.length:Int) >= h.many then (f,7)
  else if (ZL (YG f.rows f.grps lab).1 f.own).isSome then (f,3)
  else ({ f with hs:=Zbm owner (h.put (YG f.rows f.grps lab).1) f.hs,own:=Gl (YG f.rows f.grps lab).1 h.owner f.own },0)
def Ue (a:List HE) (k:Int) (b:Nat) (h:Zw) (c:List HE):hEr (a++(k,b,h)::c)=hEr a++(k,h)::hEr c:=by simp [hEr]
def Za7 (k:Int):(k==k)=true:=uR k
def ZkB {p:Nat} {f:PF} {owner:Int} {lab:ByteArray} (n:f.grps.length<=1000) (j:lab.size<=9223372036854775807) (q:∀ e∈f.hs,ZlO e.2.seats/\e.2.seats.length<=1000000) (o:Sat R (ZI p f::Hs) w):
  Zg prog 106 #[nP p,nI owner,xZ lab] w λ v w'=>v=nI (Gx f owner lab).2/\Sat R (ZI p (Gx f owner lab).1::Hs) w':=by
 obtain ⟨hm,om,sg,sl,ss,E,R',g,_,r,_,_,o,back⟩:=Sat.flightO o;have same:∀ {w},Sat R' (FO p hm om sg sl ss E f Hs) w->Sat R (ZI p f::Hs) w:=λ o=>Sat.flightC g (back _ _ o);apply Zup;refine (Zoz (r.ro) j o).u λ w o=>?_;refine ⟨_,_,_,rfl,Zb.mk rfl ⟨some om,oA o,(ZL (YG f.rows f.grps lab).1 f.own).getD 0,(ZL (YG f.rows f.grps lab).1 f.own).isSome,λ w' e=>by rw [show w'=w from e];exact Zpu (o.take (MapAt om (WM f.own))) _ true,?_⟩⟩
 cases i:ZL owner E with
 |none=>
  have e:Gx f owner lab=(f,2):=by unfold Gx;rw [<-g,Wr,i];rfl
  rw [e];exact Br.t rfl ⟨rfl,same o⟩
 |some x=>
  obtain ⟨b,h⟩:=x;have y:ZL owner f.hs=some h:=by rw [<-g,Wr,i];rfl
  obtain ⟨a,c,rfl,k⟩:=YZ i;obtain ⟨A,hl⟩:=q (owner,h) (by rw [<-g,Ue];simp);by_cases z:(YG f.rows f.grps lab).2=0
  ·refine Br.f (by rw [z];rfl) ?_
   obtain ⟨s,o⟩:=FO.open o;have l:=Own.len (o.take (Own s 3 (Zd h.seats)));rw [qa] at l;refine Zi o λ w o=>?_;refine Zb.mk rfl ⟨s,oS,Zb.mk rfl ⟨h.many,oS,?_⟩⟩;refine Br.d (λ D=>?_) (λ D=>?_)
   ·have e:Gx f owner lab=(f,7):=by unfold Gx;rw [y];dsimp only;rw [qc (by rw [z];simp),qf (by omega)]
    rw [e];exact ⟨rfl,same (FO.close o)⟩
   ·refine Br.mk (λ m=>?_) (λ m=>?_)
    ·have e:Gx f owner lab=(f,3):=by unfold Gx;rw [y];dsimp only;rw [qc (by rw [z];simp),qc (by omega),qf m]
     rw [e];exact ⟨rfl,same (FO.close o)⟩
    ·have e:Gx f owner lab=({ f with hs:=Zbm owner (h.put (YG f.rows f.grps lab).1) f.hs,own:=Gl (YG f.rows f.grps lab).1 h.owner f.own },0):=by
      unfold Gx;rw [y];dsimp only;rw [qc (by rw [z];simp),qc (by omega),qc (by rw [m];simp)]
     rw [e];have o:Sat R' (FO p hm om sg sl ss (a++(owner,b,h)::c) f Hs) w:=FO.close o;refine (Zf9 A (by omega) o).u λ w o=>?_;refine ⟨rfl,rfl,?_⟩;refine Sat.flight.2 ⟨hm,om,sg,sl,ss,a++(owner,b,h.put (YG f.rows f.grps lab).1)::c,?_,back _ _ o⟩;show _=Zbm owner _ f.hs;rw [<-g,Ue,Ue,ZbK (by rw [Wr,k];rfl) (Za7 owner)]
  ·have e:Gx f owner lab=(f,2):=by unfold Gx;rw [y];dsimp only;rw [qf z]
   rw [e];exact Br.t (by simp [z]) ⟨rfl,same o⟩
def GK (f:PF) (owner:Int):List ByteArray:=match ZL owner f.hs with|none=>[]|some h=>XD f.rows f.grps h.seats
def Zha {p:Nat} {f:PF} {owner:Int} (l:f.grps.length<=1000) (m:∀ e∈f.hs,e.2.seats.length<=1000000) (d:Sat R (ZI p f::Hs) w):
  Zg prog 122 #[nP p,nI owner] w λ v w'=>∃ t:Sl,v=.slice t.a t.len t.cap/\Sat R (Own t 9 ((GK f owner).map Value.string)::ZI p f::Hs) w':=by
 obtain ⟨hm,om,sg,sl,ss,E,R',y,_,n,_,_,d,back⟩:=Sat.flightO d;apply Zt9;refine Zb.mk rfl ⟨some hm,oA d,(ZL owner E).map (λ x=>⟨x.1,0,none⟩),(ZL owner E).isSome,λ w' e=>by rw [show w'=w from e];exact VV (d.take (MapAt hm (Yd E))) owner true,?_⟩
 cases o:ZL owner E with
 |none=>
  have e:GK f owner=[]:=by unfold GK;rw [<-y,Wr,o];rfl
  rw [e];exact Br.t rfl ⟨⟨none,0,0⟩,rfl,Own.nil (Sat.flightC y (back _ _ d))⟩
 |some x=>
  obtain ⟨b,h⟩:=x;have g:ZL owner f.hs=some h:=by rw [<-y,Wr,o];rfl
  have e:GK f owner=XD f.rows f.grps h.seats:=by unfold GK;rw [g]
  rw [e];obtain ⟨a,c,rfl,q⟩:=YZ o;have hl:h.seats.length<=1000000:=m (owner,h) (by rw [<-y,Ue];simp);refine Br.f rfl (Zb.mk rfl ?_);obtain ⟨s,d⟩:=FO.open d;refine ⟨s,oA d,?_⟩;obtain ⟨r,j,i,z,u⟩:=Own.lend (d.take (Own s 3 (Zd h.seats))) (by rw [qa];omega);refine (ZcT (f:=f) (hm:=hm) (om:=om) (sg:=sg) (sl:=sl) (ss:=ss) (i _ _ (n.ro)) j hl z).use ?_;clear d z;rintro _ w ⟨t,rfl,d⟩;refine ⟨t,rfl,t,rfl,?_⟩;have d:=(u d).swap;have d:=back _ _ (Sat.cons (λ _ k=>FO.close (f:=f) (k.take (pts b (YO h s)))) d);exact Sat.cons (λ _ k=>Sat.flightC y k) (d.take (Own t 9 ((XD f.rows f.grps h.seats).map Value.string)))
def Zeb (f:PF):List Int:=(List.range f.lims.length).map λ (k:Nat)=>(Xb f.lims f.sold k).1
def Wp (f:PF) (j:Nat):List Int:=(List.range f.lims.length).map λ (k:Nat)=>if k<j then (Xb f.lims f.sold k).1 else 0
def Zix (f:PF) {j:Nat} (h:j<f.lims.length):(Wp f j).set j (Xb f.lims f.sold j).1=Wp f (j + 1):=by
 apply j0
 ·simp [Wp]
 ·intro i d o
  simp only [Wp,jd,qa,vu] at d o;rw [vz];simp only [Wp,qX,uC];split
  ·rename_i u;subst u;rw [qf (by omega)]
  ·by_cases a:i<j
   ·rw [qf a,qf (by omega)]
   ·rw [qc a,qc (by omega)]
def Zlg {p:Nat} {f:PF} (hl:f.lims.length<=1000) (hs:f.sold.length<=1000) (o:Sat R (ZI p f::Hs) w):
  Zg prog 55 #[nP p] w λ v w'=>∃ t:Sl,v=.slice t.a t.len t.cap/\Sat R (Own t 3 (Zd (Zeb f))::ZI p f::Hs) w':=by
 obtain ⟨hm,om,sg,sl,ss,E,R',m,_,_,l,n,o,back⟩:=Sat.flightO o;have z:sl.len=f.lims.length:=by have:=l.len;rw [qa] at this;exact this
 apply ZvR;refine Zb.mk rfl ⟨sl,oA o,?_⟩;rw [z];refine UM hl o λ t w o=>?_;have e0:List.replicate f.lims.length (0:Int)=Wp f 0:=by
  apply j0
  ·simp [Wp]
  ·intro i r s;simp [Wp]
 rw [e0] at o;refine ⟨λ i w=>∃ j:Nat,i=j/\j<=f.lims.length/\Sat R' (Own t 3 (Zd (Wp f j))::FO p hm om sg sl ss E f Hs) w,λ i _=>f.lims.length - i.toNat,⟨0,rfl,by omega,o⟩,?_⟩;clear o;rintro _ _ w ⟨j,rfl,hj,o⟩;have g:=Own.len o;simp only [Wp,qa,vu] at g;refine Br.d (λ h=>?_) (λ h=>?_)
 ·have y:j<f.lims.length:=by omega
  refine Zi o λ w o=>?_;refine Zb.mk rfl ⟨sl,oS,Zb.mk rfl ⟨ss,oS,?_⟩⟩;refine (ZcQ (l.ro) (n.ro) o).u λ w o=>?_;refine ⟨_,_,rfl,?_⟩;refine Own.store (by kernel_rfl) o (by simp [Wp];exact y) λ w o=>?_;rw [Zix f y] at o;rw [Zc];exact ⟨⟨j + 1,by omega,by omega,o⟩,by dsimp only;omega⟩
 ·obtain rfl:j=f.lims.length:=by omega
  have e1:Wp f f.lims.length=Zeb f:=by
   unfold Wp Zeb;refine qP λ k hk=>?_;rw [qf (jC.1 hk)]
  rw [e1] at o;refine ⟨t,rfl,?_⟩;have o:=back _ _ o;exact Sat.cons (λ _ q=>Sat.flightC m q) (o.take (Own t 3 (Zd (Zeb f))))
def WR (l:List Int) (own:List (Int × Int)):List (Int × Int):=l.foldl (λ o n=>GT n o) own
def Zfp (f:PF) (owner:Int):PF × Int:=
 match ZL owner f.hs with
 |none=>(f,2)
 |some h=>({ f with own:=WR h.seats f.own,sold:=(ZaJ f.lims f.sold h.cls h.many).1,hs:=GT owner f.hs },0)
def Zln {p:Nat} {f:PF} {owner:Int} (m:f.lims.length<=1000) (n:f.sold.length<=1000) (q:∀ e∈f.hs,e.2.seats.length<=1000000) (o:Sat R (ZI p f::Hs) w):
  Zg prog 104 #[nP p,nI owner] w λ v w'=>v=nI (Zfp f owner).2/\Sat R (ZI p (Zfp f owner).1::Hs) w':=by
 obtain ⟨hm,om,sg,sl,ss,E,R',y,_,_,r,A,o,back⟩:=Sat.flightO o;apply Zur;refine Zb.mk rfl ⟨some hm,oA o,(ZL owner E).map (λ x=>⟨x.1,0,none⟩),(ZL owner E).isSome,λ w' e=>by rw [show w'=w from e];exact VV (o.take (MapAt hm (Yd E))) owner true,?_⟩
 cases u:ZL owner E with
 |none=>
  have e:Zfp f owner=(f,2):=by unfold Zfp;rw [<-y,Wr,u];rfl
  rw [e];exact Br.t rfl ⟨rfl,Sat.flightC y (back _ _ o)⟩
 |some x=>
  obtain ⟨b,h⟩:=x;have k:ZL owner f.hs=some h:=by rw [<-y,Wr,u];rfl
  have e:Zfp f owner=({ f with own:=WR h.seats f.own,sold:=(ZaJ f.lims f.sold h.cls h.many).1,hs:=GT owner f.hs },0):=by unfold Zfp;rw [k]
  rw [e];obtain ⟨a,c,rfl,z⟩:=YZ u;have hl:h.seats.length<=1000000:=q (owner,h) (by rw [<-y,Ue];simp);refine Br.f rfl (Zb.mk rfl ?_);obtain ⟨s,o⟩:=FO.open o;have l:=Own.len (o.take (Own s 3 (Zd h.seats)));rw [qa] at l;refine ⟨s,oA o,?_⟩;refine ⟨λ i w=>∃ j:Nat,i=j/\j<=h.seats.length/\Sat R' (FO1 p hm om b sg sl ss s (a++(owner,b,h)::c) (a++c) f h (WR (h.seats.take j) f.own) Hs) w,λ i _=>h.seats.length - i.toNat,⟨0,rfl,by omega,o⟩,?_⟩;clear o;rintro _ _ w ⟨j,rfl,hj,o⟩;refine Br.d (λ D=>?_) (λ D=>?_)
  ·have g:j<h.seats.length:=by omega
   refine Own.ix (o.take (Own s 3 (Zd h.seats))) (eqS (o.take (Own s 3 (Zd h.seats)))) j rfl g ?_;refine Zb.mk rfl ⟨some om,oA o,?_⟩;refine MapAt.del Zx0 (o.take (MapAt om (WM (WR (h.seats.take j) f.own)))) h.seats[j] λ w o=>?_;rw [Zj2 (Value.int .i64) h.seats[j] (WR (h.seats.take j) f.own)] at o;have ed:GT h.seats[j] (WR (h.seats.take j) f.own)=WR (h.seats.take (j + 1)) f.own:=by
    unfold WR;rw [qp,List.getElem?_eq_getElem g,q9,vM];rfl
   rw [ed] at o;rw [Zc];refine ⟨⟨j + 1,by omega,by omega,?_⟩,by dsimp only;omega⟩;exact ((((o.take (MapAt hm (Yd (a++(owner,b,h)::c)))).take (pts p (Y2 f sg sl ss hm om))).take (Yh (a++c))).take (Own s 3 (Zd h.seats))).take (pts b (YO h s))
  ·rw [qg (by omega)] at o
   refine Zi o λ w o=>?_;refine Zb.mk rfl ⟨sl,oS,Zb.mk rfl ⟨ss,oS,Zb.mk rfl ⟨h.cls,oS,Zb.mk rfl ⟨h.many,oS,?_⟩⟩⟩⟩;refine (ZoK (r.ro) (A.ro) o).u1 λ t w o=>?_;refine ⟨_,_,rfl,Zb.mk rfl ?_⟩;refine sRu o λ w o=>?_;have o:Sat R' (pts p (Y2 f sg sl t hm om)::Own t 3 (Zd (ZaJ f.lims f.sold h.cls h.many).1)::pts b (YO h s)::Own s 3 (Zd h.seats)::Yh (a++c)::MapAt hm (Yd (a++(owner,b,h)::c))::MapAt om (WM (WR h.seats f.own))::Hs) w:=o;refine Zb.mk rfl ⟨some hm,oA o,?_⟩;refine MapAt.del Zx2 (o.take (MapAt hm (Yd (a++(owner,b,h)::c)))) owner λ w o=>⟨rfl,?_⟩;have ep:GT owner (Yd (a++(owner,b,h)::c))=Yd (a++c):=by
    rw [show Yd (a++(owner,b,h)::c)=Yd a++(owner,Value.pointer (some ⟨b,0,none⟩))::Yd c by simp [Yd],Ga (by rw [ZcX,z];rfl) (Za7 owner)];simp [Yd]
   rw [ep] at o;have o:=(o.take (pts b (YO h s))).drop;have o:=(o.take (Own s 3 (Zd h.seats))).drop;have o:=o.take (Own t 3 (Zd (ZaJ f.lims f.sold h.cls h.many).1));have o:=back _ _ (Own.reads o);have o:=(o.take (Zv ss (Zd f.sold))).drop;refine Sat.flight.2 ⟨hm,om,sg,sl,t,a++c,?_,?_⟩
   ·show _=GT owner f.hs
    rw [<-y,Ue,Ga (by rw [Wr,z];rfl) (Za7 owner)];simp [hEr]
   ·exact (((((o.take (Yh (a++c))).take (MapAt om (WM (WR h.seats f.own)))).take (MapAt hm (Yd (a++c)))).take (pts p (Y2 f sg sl t hm om))).take (Zv t (Zd (ZaJ f.lims f.sold h.cls h.many).1))).take (Zv sl (Zd f.lims))|>.take (Zv sg (Zd f.grps))
end
end Go.Proofs.YtlplemdmegpoeaaGreatDoor
namespace Go.Proofs
section
open Go.Shelf
def Tryz.sorted61_ren:Go.Shelf.Ren:=⟨λ|6=>61|8=>129|9=>130|11=>206|13=>208|12=>207|23=>270|24=>205|14=>261|15=>262|16=>263|17=>264|18=>265|19=>266|20=>267|21=>268|22=>269|25=>286|26=>287|27=>288|28=>289|29=>290|30=>278|31=>297|n=>n,λ|26=>3|28=>116|24=>30|0=>0|3=>3|37=>264|48=>306|50=>141|4=>4|40=>299|39=>298|45=>230|5=>5|9=>9|51=>313|55=>317|57=>321|58=>293|33=>159|n=>n,λ|n=>n⟩
def Tryz.sorted61:Go.Proofs.SlLaysZI.n6 Tryz.prog Tryz.sorted61_ren:={
  mixed:=by kernel_rfl
  f6:=⟨Tryz.f61.name,by decide,Tryz.func61.trans (qH some (by kernel_rfl))⟩
  f8:=⟨Tryz.f129.name,by decide,Tryz.func129.trans (qH some (by kernel_rfl))⟩
  f11:=⟨Tryz.f206.name,by decide,Tryz.func206.trans (qH some (by kernel_rfl))⟩
  t0:=Tryz.underlying0
  a0:=Tryz.isAgg0
  z0:=Tryz.sizeOf0
  v0:=Tryz.zeroValue0
  t24:=Tryz.underlying30
  a24:=Tryz.isAgg30
  z24:=Tryz.sizeOf30
  v24:=Tryz.zeroValue30
  t26:=Tryz.underlying3
  a26:=Tryz.isAgg3
  z26:=Tryz.sizeOf3
  v26:=Tryz.zeroValue3
  t28:=Tryz.underlying116
  a28:=Tryz.isAgg116
  z28:=Tryz.sizeOf116
  v28:=Tryz.zeroValue116
  i26:=by kernel_rfl }
def Tryz.sort130_ren:Go.Shelf.Ren:=⟨λ|5=>130|8=>208|7=>207|19=>270|20=>205|10=>261|11=>262|12=>263|13=>264|14=>265|15=>266|16=>267|17=>268|18=>269|30=>286|31=>287|32=>288|33=>289|34=>290|35=>278|40=>297|n=>n,λ|23=>30|25=>3|3=>3|32=>264|22=>30|0=>0|44=>306|46=>141|4=>4|36=>299|35=>298|41=>230|5=>5|9=>9|53=>313|57=>317|63=>321|64=>293|n=>n,λ|n=>n⟩
def Tryz.sort130:Go.Proofs.SlLaysM.n5 Tryz.prog Tryz.sort130_ren:={
  mixed:=by kernel_rfl
  f5:=⟨Tryz.f130.name,by decide,Tryz.func130.trans (qH some (by kernel_rfl))⟩
  f7:=⟨Tryz.f207.name,by decide,Tryz.func207.trans (qH some (by kernel_rfl))⟩
  f8:=Tryz.func208.trans (qH some (by kernel_rfl))
  f10:=⟨Tryz.f261.name,by decide,Tryz.func261.trans (qH some (by kernel_rfl))⟩
  f11:=⟨Tryz.f262.name,by decide,Tryz.func262.trans (qH some (by kernel_rfl))⟩
  f12:=⟨Tryz.f263.name,by decide,Tryz.func263.trans (qH some (by kernel_rfl))⟩
  f13:=⟨Tryz.f264.name,by decide,Tryz.func264.trans (qH some (by kernel_rfl))⟩
  f14:=⟨Tryz.f265.name,by decide,Tryz.func265.trans (qH some (by kernel_rfl))⟩
  f15:=⟨Tryz.f266.name,by decide,Tryz.func266.trans (qH some (by kernel_rfl))⟩
  f16:=⟨Tryz.f267.name,by decide,Tryz.func267.trans (qH some (by kernel_rfl))⟩
  f17:=⟨Tryz.f268.name,by decide,Tryz.func268.trans (qH some (by kernel_rfl))⟩
  f18:=⟨Tryz.f269.name,by decide,Tryz.func269.trans (qH some (by kernel_rfl))⟩
  f19:=Tryz.func270.trans (qH some (by kernel_rfl))
  f20:=Tryz.func205.trans (qH some (by kernel_rfl))
  f30:=⟨Tryz.f286.name,by decide,Tryz.func286.trans (qH some (by kernel_rfl))⟩
  f31:=Tryz.func287.trans (qH some (by kernel_rfl))
  f32:=Tryz.func288.trans (qH some (by kernel_rfl))
  f33:=⟨Tryz.f289.name,by decide,Tryz.func289.trans (qH some (by kernel_rfl))⟩
  f34:=⟨Tryz.f290.name,by decide,Tryz.func290.trans (qH some (by kernel_rfl))⟩
  f35:=⟨Tryz.f278.name,by decide,Tryz.func278.trans (qH some (by kernel_rfl))⟩
  f40:=⟨Tryz.f297.name,by decide,Tryz.func297.trans (qH some (by kernel_rfl))⟩
  t0:=Tryz.underlying0
  a0:=Tryz.isAgg0
  z0:=Tryz.sizeOf0
  v0:=Tryz.zeroValue0
  t3:=Tryz.underlying3
  a3:=Tryz.isAgg3
  z3:=Tryz.sizeOf3
  v3:=Tryz.zeroValue3
  t4:=Tryz.underlying4
  a4:=Tryz.isAgg4
  z4:=Tryz.sizeOf4
  v4:=Tryz.zeroValue4
  t5:=Tryz.underlying5
  a5:=Tryz.isAgg5
  z5:=Tryz.sizeOf5
  v5:=Tryz.zeroValue5
  t9:=Tryz.underlying9
  a9:=Tryz.isAgg9
  z9:=Tryz.sizeOf9
  v9:=Tryz.zeroValue9
  t22:=Tryz.underlying30
  a22:=Tryz.isAgg30
  z22:=Tryz.sizeOf30
  v22:=Tryz.zeroValue30
  t23:=Tryz.underlying30
  a23:=Tryz.isAgg30
  z23:=Tryz.sizeOf30
  v23:=Tryz.zeroValue30
  t25:=Tryz.underlying3
  a25:=Tryz.isAgg3
  z25:=Tryz.sizeOf3
  v25:=Tryz.zeroValue3
  t32:=Tryz.underlying264
  a32:=Tryz.isAgg264
  z32:=Tryz.sizeOf264
  v32:=Tryz.zeroValue264
  t35:=Tryz.underlying298
  a35:=Tryz.isAgg298
  z35:=Tryz.sizeOf298
  v35:=Tryz.zeroValue298
  t36:=Tryz.underlying299
  a36:=Tryz.isAgg299
  z36:=Tryz.sizeOf299
  v36:=Tryz.zeroValue299
  t41:=Tryz.underlying230
  a41:=Tryz.isAgg230
  z41:=Tryz.sizeOf230
  v41:=Tryz.zeroValue230
  t44:=Tryz.underlying306
  a44:=Tryz.isAgg306
  z44:=Tryz.sizeOf306
  v44:=Tryz.zeroValue306
  t46:=Tryz.underlying141
  a46:=Tryz.isAgg141
  z46:=Tryz.sizeOf141
  v46:=Tryz.zeroValue141
  t53:=Tryz.underlying313
  a53:=Tryz.isAgg313
  z53:=Tryz.sizeOf313
  v53:=Tryz.zeroValue313
  t57:=Tryz.underlying317
  a57:=Tryz.isAgg317
  z57:=Tryz.sizeOf317
  v57:=Tryz.zeroValue317
  t63:=Tryz.underlying321
  a63:=Tryz.isAgg321
  z63:=Tryz.sizeOf321
  v63:=Tryz.zeroValue321
  t64:=Tryz.underlying293
  a64:=Tryz.isAgg293
  z64:=Tryz.sizeOf293
  v64:=Tryz.zeroValue293 }
open Go.RowKit Go.Maps Go.Sort Go.Shelf in
def Tryz.sorts61 (m:Nat):AnyZI.SortsIn Tryz.prog Tryz.sorted61_ren Fence.wide m:=
  ⟨λ a off cap ss W o h d=>callsIn_wide.2 (AnyM.slices_Sort_int Tryz.sort130 a off cap ss W o h d),
   λ p cap W=>callsIn_wide.2 (AnyM.slices_Sort_int_none Tryz.sort130 p cap W)⟩
def Tryz.collect129_ren:Go.Shelf.Ren:=⟨λ|8=>129|11=>206|n=>n,λ|26=>3|28=>116|24=>30|0=>0|33=>159|4=>4|n=>n,λ|n=>n⟩
def Tryz.collect129:Go.Proofs.SlLaysZI.n8 Tryz.prog Tryz.collect129_ren:={
  mixed:=by kernel_rfl
  f8:=⟨Tryz.f129.name,by decide,Tryz.func129.trans (qH some (by kernel_rfl))⟩
  f11:=⟨Tryz.f206.name,by decide,Tryz.func206.trans (qH some (by kernel_rfl))⟩
  t0:=Tryz.underlying0
  a0:=Tryz.isAgg0
  z0:=Tryz.sizeOf0
  v0:=Tryz.zeroValue0
  t24:=Tryz.underlying30
  a24:=Tryz.isAgg30
  z24:=Tryz.sizeOf30
  v24:=Tryz.zeroValue30
  t26:=Tryz.underlying3
  a26:=Tryz.isAgg3
  z26:=Tryz.sizeOf3
  v26:=Tryz.zeroValue3
  t28:=Tryz.underlying116
  a28:=Tryz.isAgg116
  z28:=Tryz.sizeOf116
  v28:=Tryz.zeroValue116
  i26:=by kernel_rfl }
def Tryz.keys209_ren:Go.Shelf.Ren:=⟨λ|7=>209|10=>271|n=>n,λ|23=>183|26=>3|3=>227|28=>116|0=>0|27=>115|33=>159|4=>4|n=>n,λ|n=>n⟩
def Tryz.keys209:Go.Proofs.SlLaysZI.n7 Tryz.prog Tryz.keys209_ren:={
  mixed:=by kernel_rfl
  f7:=⟨Tryz.f209.name,by decide,Tryz.func209.trans (qH some (by kernel_rfl))⟩
  f10:=⟨Tryz.f271.name,by decide,Tryz.func271.trans (qH some (by kernel_rfl))⟩
  t0:=Tryz.underlying0
  a0:=Tryz.isAgg0
  z0:=Tryz.sizeOf0
  v0:=Tryz.zeroValue0
  t4:=Tryz.underlying4
  a4:=Tryz.isAgg4
  z4:=Tryz.sizeOf4
  v4:=Tryz.zeroValue4
  t23:=Tryz.underlying183
  a23:=Tryz.isAgg183
  z23:=Tryz.sizeOf183
  v23:=Tryz.zeroValue183
  t26:=Tryz.underlying3
  a26:=Tryz.isAgg3
  z26:=Tryz.sizeOf3
  v26:=Tryz.zeroValue3
  t27:=Tryz.underlying115
  a27:=Tryz.isAgg115
  z27:=Tryz.sizeOf115
  v27:=Tryz.zeroValue115
  t28:=Tryz.underlying116
  a28:=Tryz.isAgg116
  z28:=Tryz.sizeOf116
  v28:=Tryz.zeroValue116
  t33:=Tryz.underlying159
  a33:=Tryz.isAgg159
  z33:=Tryz.sizeOf159
  v33:=Tryz.zeroValue159 }
open Go.RowKit Go.Maps Go.Sort Go.Shelf in
def Tryz.maps_Keys_209 (mb:Option Nat) (W:World):CallsIn Fence.wide 5 Tryz.prog 209 #[.map mb] W λ e w'=>e=.returned (.func (.func 271) #[] #[.pointer (some ⟨W.heap.size,0,none⟩)])/\w'=W.alloc (.cells #[.map mb] 183):=
  AnyZI.keys_in Tryz.keys209 Fence.wide 5 trivial rfl mb W
open Go.RowKit Go.Maps Go.Sort Go.Shelf in
def Tryz.slices_Sorted_keys_61_209 {H:Type} (b nn:Nat) (d:DataW H) (R:Value->Option (DataW H × List MemPlace)) (w:nW) (a:w.ownsMap Tryz.prog 3 R b nn d) (i:Maps.size d<=maxLen) (h:Maps.size d * 8<=140737488355328):
    CallsIn Fence.wide 5 Tryz.prog 61 #[.func (.func 271) #[] #[.pointer (some ⟨w.heap.size,0,none⟩)]] (w.alloc (.cells #[.map (some b)] 183)) λ e w'=>∃ (v:Value) (ss:List Int),e=.returned v/\ss.Perm (intKeys d)/\
      w'.ownsRow (w.alloc (.cells #[.map (some b)] 183)).heap.size 3 1 v ss.length ((ss.mergeSort (λ x y=>decide (x<=y))).map encZ)/\(v=.slice none 0 0↔ss=[])/\Below (w.alloc (.cells #[.map (some b)] 183)).heap.size (w.alloc (.cells #[.map (some b)] 183)) w':=by
  have z:=a.lt;have u:SeqGives Fence.wide 2 Tryz.prog 271 #[.pointer (some ⟨w.heap.size,0,none⟩)] encZ (λ ss=>ss.Perm (intKeys d)) (Maps.size d) (w.alloc (.cells #[.map (some b)] 183)):=
    AnyZI.keys_gives (ρ:=Tryz.keys209_ren) { Tryz.keys209 with } Fence.wide _ trivial rfl (by omega) w.heap.size b nn d _ (by simp) (by simp) (by
      obtain ⟨es,o,g,j,hs,k⟩:=a;exact ⟨es,o,(Below.heap_alloc _ _ b z).trans g,j,hs,k⟩)
  exact AnyZI.sorted_in Tryz.sorted61 Fence.wide 5 trivial trivial trivial trivial rfl (by omega) (Tryz.sorts61 _) (enters_of Tryz.func130 (by kernel_rfl) rfl) 271 #[.pointer (some ⟨w.heap.size,0,none⟩)] trivial (enters_of Tryz.func271 (by kernel_rfl) rfl) _ _ i h _ u
def Tryz.keys66_ren:Go.Shelf.Ren:=⟨λ|7=>66|10=>136|n=>n,λ|23=>78|26=>3|3=>86|28=>116|0=>0|27=>115|33=>159|4=>4|n=>n,λ|n=>n⟩
def Tryz.keys66:Go.Proofs.SlLaysZI.n7 Tryz.prog Tryz.keys66_ren:={
  mixed:=by kernel_rfl
  f7:=⟨Tryz.f66.name,by decide,Tryz.func66.trans (qH some (by kernel_rfl))⟩
  f10:=⟨Tryz.f136.name,by decide,Tryz.func136.trans (qH some (by kernel_rfl))⟩
  t0:=Tryz.underlying0
  a0:=Tryz.isAgg0
  z0:=Tryz.sizeOf0
  v0:=Tryz.zeroValue0
  t4:=Tryz.underlying4
  a4:=Tryz.isAgg4
  z4:=Tryz.sizeOf4
  v4:=Tryz.zeroValue4
  t23:=Tryz.underlying78
  a23:=Tryz.isAgg78
  z23:=Tryz.sizeOf78
  v23:=Tryz.zeroValue78
  t26:=Tryz.underlying3
  a26:=Tryz.isAgg3
  z26:=Tryz.sizeOf3
  v26:=Tryz.zeroValue3
  t27:=Tryz.underlying115
  a27:=Tryz.isAgg115
  z27:=Tryz.sizeOf115
  v27:=Tryz.zeroValue115
  t28:=Tryz.underlying116
  a28:=Tryz.isAgg116
  z28:=Tryz.sizeOf116
  v28:=Tryz.zeroValue116
  t33:=Tryz.underlying159
  a33:=Tryz.isAgg159
  z33:=Tryz.sizeOf159
  v33:=Tryz.zeroValue159 }
open Go.RowKit Go.Maps Go.Sort Go.Shelf in
def Tryz.maps_Keys_66 (mb:Option Nat) (W:World):CallsIn Fence.wide 5 Tryz.prog 66 #[.map mb] W λ e w'=>e=.returned (.func (.func 136) #[] #[.pointer (some ⟨W.heap.size,0,none⟩)])/\w'=W.alloc (.cells #[.map mb] 78):=
  AnyZI.keys_in Tryz.keys66 Fence.wide 5 trivial rfl mb W
open Go.RowKit Go.Maps Go.Sort Go.Shelf in
def Tryz.slices_Sorted_keys_61_66 {H:Type} (b nn:Nat) (d:DataW H) (R:Value->Option (DataW H × List MemPlace)) (w:nW) (a:w.ownsMap Tryz.prog 3 R b nn d) (i:Maps.size d<=maxLen) (h:Maps.size d * 8<=140737488355328):
    CallsIn Fence.wide 5 Tryz.prog 61 #[.func (.func 136) #[] #[.pointer (some ⟨w.heap.size,0,none⟩)]] (w.alloc (.cells #[.map (some b)] 78)) λ e w'=>∃ (v:Value) (ss:List Int),e=.returned v/\ss.Perm (intKeys d)/\
      w'.ownsRow (w.alloc (.cells #[.map (some b)] 78)).heap.size 3 1 v ss.length ((ss.mergeSort (λ x y=>decide (x<=y))).map encZ)/\(v=.slice none 0 0↔ss=[])/\Below (w.alloc (.cells #[.map (some b)] 78)).heap.size (w.alloc (.cells #[.map (some b)] 78)) w':=by
  have z:=a.lt;have u:SeqGives Fence.wide 2 Tryz.prog 136 #[.pointer (some ⟨w.heap.size,0,none⟩)] encZ (λ ss=>ss.Perm (intKeys d)) (Maps.size d) (w.alloc (.cells #[.map (some b)] 78)):=
    AnyZI.keys_gives (ρ:=Tryz.keys66_ren) { Tryz.keys66 with } Fence.wide _ trivial rfl (by omega) w.heap.size b nn d _ (by simp) (by simp) (by
      obtain ⟨es,o,g,j,hs,k⟩:=a;exact ⟨es,o,(Below.heap_alloc _ _ b z).trans g,j,hs,k⟩)
  exact AnyZI.sorted_in Tryz.sorted61 Fence.wide 5 trivial trivial trivial trivial rfl (by omega) (Tryz.sorts61 _) (enters_of Tryz.func130 (by kernel_rfl) rfl) 136 #[.pointer (some ⟨w.heap.size,0,none⟩)] trivial (enters_of Tryz.func136 (by kernel_rfl) rfl) _ _ i h _ u
def Tryz.keys82_ren:Go.Shelf.Ren:=⟨λ|7=>82|10=>147|n=>n,λ|23=>126|26=>3|3=>131|28=>116|0=>0|27=>115|33=>159|4=>4|n=>n,λ|n=>n⟩
def Tryz.keys82:Go.Proofs.SlLaysZI.n7 Tryz.prog Tryz.keys82_ren:={
  mixed:=by kernel_rfl
  f7:=⟨Tryz.f82.name,by decide,Tryz.func82.trans (qH some (by kernel_rfl))⟩
  f10:=⟨Tryz.f147.name,by decide,Tryz.func147.trans (qH some (by kernel_rfl))⟩
  t0:=Tryz.underlying0
  a0:=Tryz.isAgg0
  z0:=Tryz.sizeOf0
  v0:=Tryz.zeroValue0
  t4:=Tryz.underlying4
  a4:=Tryz.isAgg4
  z4:=Tryz.sizeOf4
  v4:=Tryz.zeroValue4
  t23:=Tryz.underlying126
  a23:=Tryz.isAgg126
  z23:=Tryz.sizeOf126
  v23:=Tryz.zeroValue126
  t26:=Tryz.underlying3
  a26:=Tryz.isAgg3
  z26:=Tryz.sizeOf3
  v26:=Tryz.zeroValue3
  t27:=Tryz.underlying115
  a27:=Tryz.isAgg115
  z27:=Tryz.sizeOf115
  v27:=Tryz.zeroValue115
  t28:=Tryz.underlying116
  a28:=Tryz.isAgg116
  z28:=Tryz.sizeOf116
  v28:=Tryz.zeroValue116
  t33:=Tryz.underlying159
  a33:=Tryz.isAgg159
  z33:=Tryz.sizeOf159
  v33:=Tryz.zeroValue159 }
open Go.RowKit Go.Maps Go.Sort Go.Shelf in
def Tryz.maps_Keys_82 (mb:Option Nat) (W:World):CallsIn Fence.wide 5 Tryz.prog 82 #[.map mb] W λ e w'=>e=.returned (.func (.func 147) #[] #[.pointer (some ⟨W.heap.size,0,none⟩)])/\w'=W.alloc (.cells #[.map mb] 126):=
  AnyZI.keys_in Tryz.keys82 Fence.wide 5 trivial rfl mb W
open Go.RowKit Go.Maps Go.Sort Go.Shelf in
def Tryz.slices_Sorted_keys_61_82 {H:Type} (b nn:Nat) (d:DataW H) (R:Value->Option (DataW H × List MemPlace)) (w:nW) (a:w.ownsMap Tryz.prog 3 R b nn d) (i:Maps.size d<=maxLen) (h:Maps.size d * 8<=140737488355328):
    CallsIn Fence.wide 5 Tryz.prog 61 #[.func (.func 147) #[] #[.pointer (some ⟨w.heap.size,0,none⟩)]] (w.alloc (.cells #[.map (some b)] 126)) λ e w'=>∃ (v:Value) (ss:List Int),e=.returned v/\ss.Perm (intKeys d)/\
      w'.ownsRow (w.alloc (.cells #[.map (some b)] 126)).heap.size 3 1 v ss.length ((ss.mergeSort (λ x y=>decide (x<=y))).map encZ)/\(v=.slice none 0 0↔ss=[])/\Below (w.alloc (.cells #[.map (some b)] 126)).heap.size (w.alloc (.cells #[.map (some b)] 126)) w':=by
  have z:=a.lt;have u:SeqGives Fence.wide 2 Tryz.prog 147 #[.pointer (some ⟨w.heap.size,0,none⟩)] encZ (λ ss=>ss.Perm (intKeys d)) (Maps.size d) (w.alloc (.cells #[.map (some b)] 126)):=
    AnyZI.keys_gives (ρ:=Tryz.keys82_ren) { Tryz.keys82 with } Fence.wide _ trivial rfl (by omega) w.heap.size b nn d _ (by simp) (by simp) (by
      obtain ⟨es,o,g,j,hs,k⟩:=a;exact ⟨es,o,(Below.heap_alloc _ _ b z).trans g,j,hs,k⟩)
  exact AnyZI.sorted_in Tryz.sorted61 Fence.wide 5 trivial trivial trivial trivial rfl (by omega) (Tryz.sorts61 _) (enters_of Tryz.func130 (by kernel_rfl) rfl) 147 #[.pointer (some ⟨w.heap.size,0,none⟩)] trivial (enters_of Tryz.func147 (by kernel_rfl) rfl) _ _ i h _ u
def Tryz.keys180_ren:Go.Shelf.Ren:=⟨λ|7=>180|10=>252|n=>n,λ|23=>184|26=>3|3=>3|28=>116|0=>0|27=>115|33=>159|4=>4|n=>n,λ|n=>n⟩
def Tryz.keys180:Go.Proofs.SlLaysZI.n7 Tryz.prog Tryz.keys180_ren:={
  mixed:=by kernel_rfl
  f7:=⟨Tryz.f180.name,by decide,Tryz.func180.trans (qH some (by kernel_rfl))⟩
  f10:=⟨Tryz.f252.name,by decide,Tryz.func252.trans (qH some (by kernel_rfl))⟩
  t0:=Tryz.underlying0
  a0:=Tryz.isAgg0
  z0:=Tryz.sizeOf0
  v0:=Tryz.zeroValue0
  t4:=Tryz.underlying4
  a4:=Tryz.isAgg4
  z4:=Tryz.sizeOf4
  v4:=Tryz.zeroValue4
  t23:=Tryz.underlying184
  a23:=Tryz.isAgg184
  z23:=Tryz.sizeOf184
  v23:=Tryz.zeroValue184
  t26:=Tryz.underlying3
  a26:=Tryz.isAgg3
  z26:=Tryz.sizeOf3
  v26:=Tryz.zeroValue3
  t27:=Tryz.underlying115
  a27:=Tryz.isAgg115
  z27:=Tryz.sizeOf115
  v27:=Tryz.zeroValue115
  t28:=Tryz.underlying116
  a28:=Tryz.isAgg116
  z28:=Tryz.sizeOf116
  v28:=Tryz.zeroValue116
  t33:=Tryz.underlying159
  a33:=Tryz.isAgg159
  z33:=Tryz.sizeOf159
  v33:=Tryz.zeroValue159 }
open Go.RowKit Go.Maps Go.Sort Go.Shelf in
def Tryz.maps_Keys_180 (mb:Option Nat) (W:World):CallsIn Fence.wide 5 Tryz.prog 180 #[.map mb] W λ e w'=>e=.returned (.func (.func 252) #[] #[.pointer (some ⟨W.heap.size,0,none⟩)])/\w'=W.alloc (.cells #[.map mb] 184):=
  AnyZI.keys_in Tryz.keys180 Fence.wide 5 trivial rfl mb W
open Go.RowKit Go.Maps Go.Sort Go.Shelf in
def Tryz.slices_Collect_keys_129_180 {H:Type} (b nn:Nat) (d:DataW H) (R:Value->Option (DataW H × List MemPlace)) (w:nW) (a:w.ownsMap Tryz.prog 3 R b nn d) (i:Maps.size d<=maxLen) (h:Maps.size d * 8<=140737488355328):
    CallsIn Fence.wide 4 Tryz.prog 129 #[.func (.func 252) #[] #[.pointer (some ⟨w.heap.size,0,none⟩)]] (w.alloc (.cells #[.map (some b)] 184)) λ e w'=>∃ (v:Value) (ss:List Int),e=.returned v/\ss.Perm (intKeys d)/\
      w'.ownsRow (w.alloc (.cells #[.map (some b)] 184)).heap.size 3 1 v ss.length (ss.map encZ)/\(v=.slice none 0 0↔ss=[])/\Below (w.alloc (.cells #[.map (some b)] 184)).heap.size (w.alloc (.cells #[.map (some b)] 184)) w':=by
  have y:=a.lt;have u:SeqGives Fence.wide 2 Tryz.prog 252 #[.pointer (some ⟨w.heap.size,0,none⟩)] encZ (λ ss=>ss.Perm (intKeys d)) (Maps.size d) (w.alloc (.cells #[.map (some b)] 184)):=
    AnyZI.keys_gives (ρ:=Tryz.keys180_ren) { Tryz.keys180 with } Fence.wide _ trivial rfl (by omega) w.heap.size b nn d _ (by simp) (by simp) (by
      obtain ⟨es,o,z,g,hs,j⟩:=a;exact ⟨es,o,(Below.heap_alloc _ _ b y).trans z,g,hs,j⟩)
  exact AnyZI.collect_in Tryz.collect129 Fence.wide 4 trivial trivial rfl (by omega) 252 #[.pointer (some ⟨w.heap.size,0,none⟩)] trivial (enters_of Tryz.func252 (by kernel_rfl) rfl) _ _ i h _ u
def Tryz.keys62_ren:Go.Shelf.Ren:=⟨λ|7=>62|10=>131|n=>n,λ|23=>77|26=>3|3=>97|28=>116|0=>0|27=>115|33=>159|4=>4|n=>n,λ|n=>n⟩
def Tryz.keys62:Go.Proofs.SlLaysZI.n7 Tryz.prog Tryz.keys62_ren:={
  mixed:=by kernel_rfl
  f7:=⟨Tryz.f62.name,by decide,Tryz.func62.trans (qH some (by kernel_rfl))⟩
  f10:=⟨Tryz.f131.name,by decide,Tryz.func131.trans (qH some (by kernel_rfl))⟩
  t0:=Tryz.underlying0
  a0:=Tryz.isAgg0
  z0:=Tryz.sizeOf0
  v0:=Tryz.zeroValue0
  t4:=Tryz.underlying4
  a4:=Tryz.isAgg4
  z4:=Tryz.sizeOf4
  v4:=Tryz.zeroValue4
  t23:=Tryz.underlying77
  a23:=Tryz.isAgg77
  z23:=Tryz.sizeOf77
  v23:=Tryz.zeroValue77
  t26:=Tryz.underlying3
  a26:=Tryz.isAgg3
  z26:=Tryz.sizeOf3
  v26:=Tryz.zeroValue3
  t27:=Tryz.underlying115
  a27:=Tryz.isAgg115
  z27:=Tryz.sizeOf115
  v27:=Tryz.zeroValue115
  t28:=Tryz.underlying116
  a28:=Tryz.isAgg116
  z28:=Tryz.sizeOf116
  v28:=Tryz.zeroValue116
  t33:=Tryz.underlying159
  a33:=Tryz.isAgg159
  z33:=Tryz.sizeOf159
  v33:=Tryz.zeroValue159 }
open Go.RowKit Go.Maps Go.Sort Go.Shelf in
def Tryz.maps_Keys_62 (mb:Option Nat) (W:World):CallsIn Fence.wide 5 Tryz.prog 62 #[.map mb] W λ e w'=>e=.returned (.func (.func 131) #[] #[.pointer (some ⟨W.heap.size,0,none⟩)])/\w'=W.alloc (.cells #[.map mb] 77):=
  AnyZI.keys_in Tryz.keys62 Fence.wide 5 trivial rfl mb W
open Go.RowKit Go.Maps Go.Sort Go.Shelf in
def Tryz.slices_Sorted_keys_61_62 {H:Type} (b nn:Nat) (d:DataW H) (R:Value->Option (DataW H × List MemPlace)) (w:nW) (a:w.ownsMap Tryz.prog 3 R b nn d) (i:Maps.size d<=maxLen) (h:Maps.size d * 8<=140737488355328):
    CallsIn Fence.wide 5 Tryz.prog 61 #[.func (.func 131) #[] #[.pointer (some ⟨w.heap.size,0,none⟩)]] (w.alloc (.cells #[.map (some b)] 77)) λ e w'=>∃ (v:Value) (ss:List Int),e=.returned v/\ss.Perm (intKeys d)/\
      w'.ownsRow (w.alloc (.cells #[.map (some b)] 77)).heap.size 3 1 v ss.length ((ss.mergeSort (λ x y=>decide (x<=y))).map encZ)/\(v=.slice none 0 0↔ss=[])/\Below (w.alloc (.cells #[.map (some b)] 77)).heap.size (w.alloc (.cells #[.map (some b)] 77)) w':=by
  have z:=a.lt;have u:SeqGives Fence.wide 2 Tryz.prog 131 #[.pointer (some ⟨w.heap.size,0,none⟩)] encZ (λ ss=>ss.Perm (intKeys d)) (Maps.size d) (w.alloc (.cells #[.map (some b)] 77)):=
    AnyZI.keys_gives (ρ:=Tryz.keys62_ren) { Tryz.keys62 with } Fence.wide _ trivial rfl (by omega) w.heap.size b nn d _ (by simp) (by simp) (by
      obtain ⟨es,o,g,j,hs,k⟩:=a;exact ⟨es,o,(Below.heap_alloc _ _ b z).trans g,j,hs,k⟩)
  exact AnyZI.sorted_in Tryz.sorted61 Fence.wide 5 trivial trivial trivial trivial rfl (by omega) (Tryz.sorts61 _) (enters_of Tryz.func130 (by kernel_rfl) rfl) 131 #[.pointer (some ⟨w.heap.size,0,none⟩)] trivial (enters_of Tryz.func131 (by kernel_rfl) rfl) _ _ i h _ u
end
end Go.Proofs
namespace Go.Proofs.YtlplemdmegpoeaaGreatDoor
section
open Go Go.VC Tryz
variable {R:Cx} {Hs Rest:List HP} {w:World}
def Zhe {m c:Nat} {l:List (En Int)} {es:List (Int × Value)} (hs:Wj l=es) (i:Wx l c) (t:(es.map (·.1)).Nodup) (f:∀ k∈es.map (·.1),-4611686018427387904<=k/\k<=4611686018427387904) (r:es.length<=1000000)
  (hm:w.heap[m]? =some (.map (l.map mkE).toArray c)):
  ∃ g:DataW Unit,w.ownsMap prog 3 (λ _=>some (.nil,[])) m 1000000 g/\Maps.size g<=1000000/\∀ ss:List Int,ss.Perm (intKeys g)->ss.Perm (es.map (·.1)):=by
 have d:l.map (·.1)=es.map (·.1):=by rw [<-hs];simp [Wj,vc]
 have j:l.length=es.length:=by have:=qH List.length d;simpa using this
 have u:∀ e∈l,keyOf prog 3 (mkE e).key=some (.int .i64 e.1):=λ e o=>by
  have hm:e.1∈es.map (·.1):=by rw [<-d];exact ul o
  have A:=f _ hm;have n:(Lit.int .i64 e.1).wf=true:=by
   have D:IntKind.i64.min=-9223372036854775808:=by decide
   have s:IntKind.i64.max=9223372036854775807:=by decide
   simp only [Lit.wf,ql,qV];omega
  simp only [keyOf,underlying3,mkE,mapKey,XW.enc];rw [qf ⟨trivial,n⟩]
 have v:∀ e∈l,WideElems.rd prog 3 (λ _=>some ((.nil:DataW Unit),[])) (mkE e)=some (.int .i64 e.1,.nil):=λ e o=>by
  unfold WideElems.rd;rw [u e o];rfl
 have y:((l.map mkE).map (WideElems.rg prog 3 (λ _=>some ((.nil:DataW Unit),[]))))=l.map λ e=>(.int .i64 e.1,.nil):=by
  rw [qZ];apply qP;intro e o;simp only [Function.comp,WideElems.rg,v e o,zM]
 refine ⟨_,⟨(l.map mkE).toArray,c,hm,⟨by simp [maxLen];omega,?_,?_⟩,by simp;omega,rfl⟩,?_,?_⟩
 ·refine ⟨λ x z=>?_,?_,?_⟩
  ·simp only [qm] at z
   obtain ⟨e,o,rfl⟩:=z;exact i.1 e o
  ·have:=i.2;simpa [mkE,vc] using this
  ·have s:(l.map (·.1)).Nodup:=by rw [d];exact t
   have e1:((l.map mkE).toArray.toList.map (·.key))=(l.map (·.1)).map (Value.int .i64):=by simp [mkE,vc,XW.enc]
   rw [e1];exact List.Pairwise.map _ (λ a b p h=>p (by injection h)) s
 ·intro x z
  simp only [qm] at z;obtain ⟨e,o,rfl⟩:=z;exact ⟨_,v e o⟩
 ·simp only [Maps.size,y]
  rw [(WideShapes.sorted_perm _).length_eq];simp;omega
 ·intro ss q
  refine q.trans ?_;simp only [intKeys,y];refine ((WideShapes.sorted_perm _).map _).trans ?_;rw [qZ,<-d];exact uk (qP λ e _=>rfl)
def Zal {m c:Nat} {l:List (En Int)} {es:List (Int × Value)} (hs:Wj l=es) (a:Wx l c) (o:(es.map (·.1)).Nodup) (i:∀ k∈es.map (·.1),-1000000000<=k/\k<=1000000000) (h:es.length<=1000000)
  (hm:w.heap[m]? =some (.map (l.map mkE).toArray c)):
  ∃ d:DataW Unit,w.ownsMap prog 3 (λ _=>some (.nil,[])) m 1000000 d/\Maps.size d<=1000000/\∀ ss:List Int,ss.Perm (intKeys d)->ss.Perm (es.map (·.1)):=Zhe hs a o (λ k hk=>by have:=i k hk;omega) h hm
def ZbC (l:List Int):List Int:=l.mergeSort λ x y=>decide (x<=y)
def VO {a b:List Int} (h:a.Perm b):ZbC a=ZbC b:=by
 have tr:∀ a b c:Int,decide (a<=b)=true->decide (b<=c)=true->decide (a<=c)=true:=λ a b c d o=>by simp only [qV] at *;omega
 have to:∀ a b:Int,(decide (a<=b)||decide (b<=a))=true:=λ a b=>by simp only [jy,qV];omega
 have s1:=vK tr to a;have s2:=vK tr to b;have p:(a.mergeSort λ x y=>decide (x<=y)).Perm (b.mergeSort λ x y=>decide (x<=y)):=(up a _).trans (h.trans (up b _).symm);exact uN (λ a b _ _ d o=>by simp only [qV] at d o;omega) s1 s2 p
def Zge {m:Nat} {es:List (Int × Value)} {K:Sl->xE} (j:(es.map (·.1)).Nodup) (n:∀ k∈es.map (·.1),-1000000000<=k/\k<=1000000000) (d:es.length<=1000000) (z:Sat R (MapAt m es::Hs) w)
  (k:∀ s w',Sat R (Own s 3 (Zd (ZbC (es.map (·.1))))::MapAt m es::Hs) w'->K s w'):
  nC 209 #[.map (some m)] w λ e p=>∃ t:Value,e=xR t/\nC 61 #[t] p λ e q=>∃ t:Sl,e=xR (.slice t.a t.len t.cap)/\K t q:=by
 obtain ⟨l,c,hs,u,r⟩:=MapAt.iff.1 z;obtain ⟨x,o,f,h⟩:=Zal hs u j n d r.at;refine (callsIn_wide.1 (Tryz.maps_Keys_209 (some m) w)).mono ?_;rintro _ _ ⟨rfl,rfl⟩;refine ⟨_,rfl,?_⟩;refine (callsIn_wide.1 (Tryz.slices_Sorted_keys_61_209 m _ x _ w o (by unfold maxLen;omega) (by omega))).mono ?_;rintro _ w' ⟨v,ss,rfl,hS,i,g,b⟩;have y:Sat R (MapAt m es::Hs) (w.alloc (.cells #[.map (some m)] 183)):=(Sat.alloc _ z).drop;obtain ⟨s,rfl,A⟩:=Sat.ownsRow y b i;refine ⟨s,rfl,k s _ ?_⟩;rw [<-VO (h ss hS)];exact A
def ZfK {m:Nat} {es:List (Int × Value)} {S:xE} {K:Sl->xE} (x:(es.map (·.1)).Nodup) (f:∀ k∈es.map (·.1),-1000000000<=k/\k<=1000000000) (d:es.length<=1000000) (g:Sat R (MapAt m es::Hs) w)
  (hS:∀ w',Sat R (MapAt m es::Hs) w'->S w')
  (k:∀ s j w',j.Perm (es.map (·.1))->Sat R (Own s 3 (Zd j)::MapAt m es::Hs) w'->K s w'):
  nC 180 #[.map (some m)] w λ e n=>∃ t:Value,e=xR t/\S n/\nC 129 #[t] n λ e p=>∃ t:Sl,e=xR (.slice t.a t.len t.cap)/\S p/\K t p:=by
 obtain ⟨l,c,hs,y,b⟩:=MapAt.iff.1 g;obtain ⟨A,o,D,h⟩:=Zal hs y x f d b.at;refine (callsIn_wide.1 (Tryz.maps_Keys_180 (some m) w)).mono ?_;rintro _ _ ⟨rfl,rfl⟩;have i:Sat R (MapAt m es::Hs) (w.alloc (.cells #[.map (some m)] 184)):=(Sat.alloc _ g).drop;refine ⟨_,rfl,hS _ i,?_⟩;refine (callsIn_wide.1 (Tryz.slices_Collect_keys_129_180 m _ A _ w o (by unfold maxLen;omega) (by omega))).mono ?_;rintro _ w' ⟨v,ss,rfl,z,u,q,E⟩;obtain ⟨s,rfl,r⟩:=Sat.ownsRow i E u;exact ⟨s,rfl,hS _ r.drop,k s ss _ (h ss z) r⟩
def ZlF {n:Int} {g a b:List Int} {many:Int} (h:a.Perm b):Z8 n g a many=Z8 n g b many:=by
 have:Xu a=Xu b:=by
  funext j
  unfold Xu;rw [qJ];exact h.mem_iff
 unfold Z8;rw [this]
def Zlo {u:Nat->Bool} {N i j:Nat} (hj:j<(ZJ u N).length) (a:i<j):(ZJ u N)[i]<(ZJ u N)[j]:=by
 have d:=Vj (List.getElem?_eq_getElem (show i<(ZJ u N).length by omega));have o:=Vj (List.getElem?_eq_getElem hj);by_cases h:(ZJ u N)[i]<(ZJ u N)[j]
 ·exact h
 ·exfalso
  have v:=ZiN (u:=u) (j:=(ZJ u N)[j]) ((ZJ u N)[i] - (ZJ u N)[j]);rw [show (ZJ u N)[j] + ((ZJ u N)[i] - (ZJ u N)[j])=(ZJ u N)[i] by omega,d.2.2,o.2.2] at v;omega
def Zi2 (u z:Nat->Bool) (N many:Nat):(∃ k,(V3 u z N many).1=Zdq k many)\/(V3 u z N many).1=[]\/(V3 u z N many).1=(ZJ u N).take many:=by
 unfold V3;split
 ·exact .inl ⟨_,rfl⟩
 ·split
  ·exact .inr (.inl rfl)
  ·exact .inr (.inr rfl)
def ZgE {l:List Nat} (h:∀ i j (hj:j<l.length) (a:i<j),l[i]<l[j]):ZlO (l.map λ (j:Nat)=>(j:Int)):=λ i j hj a=>by
 rw [qa] at hj;simp only [qX];have:=h i j hj a;omega
def ZhH {n:Int} {g taken:List Int} {many:Int}:ZlO (Z8 n g taken many).1:=by
 unfold Z8;split
 ·intro i j hj a;simp at hj
 ·dsimp only
  rcases Zi2 (Xu taken) (zF g) (YN n g).toNat many.toNat with ⟨k,h⟩|h|h
  ·rw [h]
   exact ZgE λ i j hj a=>by simp only [Zdq,qX,uC];omega
  ·rw [h];intro i j hj a;simp at hj
  ·rw [h]
   exact ZgE λ i j hj a=>by
    rw [qd] at hj;simp only [jJ];exact Zlo (by omega) a
def Zkf {n:Int} {g taken:List Int} {many:Int}:(Z8 n g taken many).1.length<=600:=by
 have h:=Wq n g;unfold Z8;split
 ·simp
 rename_i hm;simp only [qa];unfold V3;split
 ·rw [ZbH];omega
 ·split
  ·simp
  ·simp only [qd];omega
def ZbS {n:Int}:∀ {l:List Int},(∀ x∈l,x<n)->Up n l=l++[n]
 |[],_=>rfl
 |x::l,h=>by
  unfold Up;rw [qf (h x qq),ZbS λ y a=>h y (qj _ a)];rfl
def ZmE {l:List Int} (h:ZlO l) (j:Nat):ZlO (l.take j):=λ i k hk a=>by
 rw [qd] at hk;simp only [jJ];exact h i k (by omega) a
def Zpj {l:List Int} (h:ZlO l) {j:Nat} (hj:j<l.length):Up l[j] (l.take j)=l.take (j + 1):=by
 rw [ZbS,qp,List.getElem?_eq_getElem hj,q9];intro x a;obtain ⟨i,hi,rfl⟩:=je a;rw [qd] at hi;rw [jJ];exact h i j hj (by omega)
def Ut (o:Int) (l:List Int) (own:List (Int × Int)):List (Int × Int):=l.foldl (λ p n=>Gl n o p) own
def ZbF (f:PF) (owner:Int):PF × List ByteArray × Int:=
 match ZL owner f.hs with
 |none=>(f,[],2)
 |some h=>if h.seats.length>0 then (f,[],7)
  else ({ f with hs:=Zbm owner { h with seats:=(Z8 f.rows f.grps (f.own.map (·.1)) h.many).1 } f.hs,own:=Ut h.owner (Z8 f.rows f.grps (f.own.map (·.1)) h.many).1 f.own },
   XD f.rows f.grps (Z8 f.rows f.grps (f.own.map (·.1)) h.many).1,(Z8 f.rows f.grps (f.own.map (·.1)) h.many).2)
def ZlG {p:Nat} {f:PF} {owner:Int} (V:f.grps.length<=1000) (W:(f.own.map (·.1)).Nodup) (hk:∀ k∈f.own.map (·.1),-1000000000<=k/\k<=1000000000) (J:f.own.length<=1000000) (o:Sat R (ZI p f::Hs) w):
  Zg prog 107 #[nP p,nI owner] w λ v w'=>∃ t:Sl,v=.tuple #[.slice t.a t.len t.cap,nI (ZbF f owner).2.2]/\Sat R (Own t 9 ((ZbF f owner).2.1.map Value.string)::ZI p (ZbF f owner).1::Hs) w':=by
 obtain ⟨hm,om,sg,sl,ss,E,R',F,_,X,_,_,o,back⟩:=Sat.flightO o;have rgo:RoI R' sg f.grps:=X.ro;apply Zuo;refine Zb.mk rfl ⟨some hm,oA o,(ZL owner E).map (λ x=>⟨x.1,0,none⟩),(ZL owner E).isSome,λ w' e=>by rw [show w'=w from e];exact VV (o.take (MapAt hm (Yd E))) owner true,?_⟩
 cases u:ZL owner E with
 |none=>
  have e:ZbF f owner=(f,[],2):=by unfold ZbF;rw [<-F,Wr,u];rfl
  rw [e];exact Br.t rfl ⟨⟨none,0,0⟩,rfl,Own.nil (Sat.flightC F (back _ _ o))⟩
 |some x=>
  obtain ⟨b,h⟩:=x;have G:ZL owner f.hs=some h:=by rw [<-F,Wr,u];rfl
  obtain ⟨a,c,rfl,L⟩:=YZ u;refine Br.f rfl (Zb.mk rfl ?_);obtain ⟨s,o⟩:=FO.open o;have M:=Own.len (o.take (Own s 3 (Zd h.seats)));rw [qa] at M;refine ⟨s,oA o,Br.d (λ Y=>?_) (λ Y=>?_)⟩
  ·have e:ZbF f owner=(f,[],7):=by unfold ZbF;rw [G];dsimp only;rw [qf (by omega)]
   rw [e];exact ⟨⟨none,0,0⟩,rfl,Own.nil (Sat.flightC F (back _ _ (FO.close o)))⟩
  have N:h.seats=[]:=jO.1 (by omega);have e:ZbF f owner=({ f with hs:=Zbm owner { h with seats:=(Z8 f.rows f.grps (f.own.map (·.1)) h.many).1 } f.hs,own:=Ut h.owner (Z8 f.rows f.grps (f.own.map (·.1)) h.many).1 f.own },
   XD f.rows f.grps (Z8 f.rows f.grps (f.own.map (·.1)) h.many).1,(Z8 f.rows f.grps (f.own.map (·.1)) h.many).2):=by unfold ZbF;rw [G];dsimp only;rw [qc (by omega)]
  rw [e];refine Zi o λ w o=>?_;refine Zb.mk rfl ⟨f.rows,sg,oS,Zb.mk rfl ⟨some om,oS,Zb.mk rfl ⟨h.many,oS,?_⟩⟩⟩;have y:(WM f.own).map (·.1)=f.own.map (·.1):=by simp [WM,vc]
  refine ZfK (es:=WM f.own) (by rw [y];exact W) (by rw [y];exact hk) (by rw [qa];exact J) (o.take (MapAt om (WM f.own)))
   (λ w' O=>((((O.take (MapAt hm (Yd (a++(owner,b,h)::c)))).take (pts p (Y2 f sg sl ss hm om))).take (Yh (a++c))).take (Own s 3 (Zd h.seats))).take (pts b (YO h s))|>.perm (by
    refine jG _ (jG _ (jG _ (jG _ (jD _))))))
   λ tk S w z o=>?_
  rw [y] at z;obtain ⟨K,Q,l,H,m⟩:=Own.lend o (by rw [qa];have:=z.length_eq;rw [qa] at this;omega);refine (ZoF (taken:=S) (l _ _ rgo) Q H).use ?_;clear o H;rintro _ w ⟨t,rfl,o⟩;have o:=(m o).drop;rw [ZlF z] at o ⊢;have I:=ZhH (n:=f.rows) (g:=f.grps) (taken:=f.own.map (·.1)) (many:=h.many);have C:=Zkf (n:=f.rows) (g:=f.grps) (taken:=f.own.map (·.1)) (many:=h.many);generalize Z8 f.rows f.grps (f.own.map (·.1)) h.many=r at *;refine ⟨_,_,rfl,?_,?_⟩
  ·exact ((((o.drop.take (MapAt hm (Yd (a++(owner,b,h)::c)))).take (pts p (Y2 f sg sl ss hm om))).take (Yh (a++c))).take (Own s 3 (Zd h.seats))).take (pts b (YO h s))|>.perm (by
    refine jG _ (jG _ (jG _ (jG _ (jD _)))))
  obtain ⟨U,B,ht,o,q⟩:=Zv.out o;have A:RoI U t r.1:=ht.ro;have T:=A.len;have o:Sat U (FO p hm om sg sl ss (a++(owner,b,h)::c) f Hs) w:=FO.close (((((o.take (MapAt hm (Yd (a++(owner,b,h)::c)))).take (pts p (Y2 f sg sl ss hm om))).take (Yh (a++c))).take (Own s 3 (Zd h.seats))).take (pts b (YO h s))|>.perm (by
    refine jG _ (jG _ (jG _ (jG _ (jD _))))))
  refine ⟨λ i w=>∃ j:Nat,i=j/\j<=r.1.length/\Sat U (FO p hm om sg sl ss (a++(owner,b,{ h with seats:=r.1.take j })::c) { f with own:=Ut h.owner (r.1.take j) f.own } Hs) w,λ i _=>r.1.length - i.toNat,⟨0,rfl,by omega,?_⟩,?_⟩
  ·have eh:({ h with seats:=r.1.take 0 }:Zw)=h:=by rw [List.take_zero,<-N]
   rw [eh];exact o
  clear o;rintro _ _ w ⟨j,rfl,hj,o⟩;refine Br.d (λ P=>?_) (λ P=>?_)
  ·have D:j<r.1.length:=by omega
   refine Ro.ix A (eqS o) j rfl D ?_;refine (Zf9 (h:={ h with seats:=r.1.take j }) (ZmE I j) (by simp only [qd];omega) o).use ?_;rintro _ w ⟨rfl,o⟩;rw [Zc];refine ⟨rfl,⟨j + 1,by omega,by omega,?_⟩,by dsimp only;omega⟩;have eh:Zw.put { h with seats:=r.1.take j } r.1[j]={ h with seats:=r.1.take (j + 1) }:=by unfold Zw.put;rw [Zpj I D]
   have eo:Gl r.1[j] h.owner (Ut h.owner (r.1.take j) f.own)=Ut h.owner (r.1.take (j + 1)) f.own:=by
    unfold Ut;rw [qp,List.getElem?_eq_getElem D,q9,vM];rfl
   rw [eh] at o;rw [<-eo];exact o
  ·rw [qg (by omega)] at o
   refine (ZcT (f:=f) (hm:=hm) (om:=om) (sg:=sg) (sl:=sl) (ss:=ss) (B.ro rgo) A (by omega) o).use ?_;rintro _ w ⟨t2,rfl,o⟩;refine ⟨t2,rfl,t2,rfl,?_⟩;have o:=(q _ _ o).drop;have o:=back _ _ o;refine Sat.cons (λ R5 O=>?_) (o.take (Own t2 9 ((XD f.rows f.grps r.1).map Value.string)));refine Sat.flight.2 ⟨hm,om,sg,sl,ss,a++(owner,b,{ h with seats:=r.1 })::c,?_,O⟩;show _=Zbm owner _ f.hs;rw [<-F,Ue,Ue,ZbK (by rw [Wr,L];rfl) (Za7 owner)]
def ZjO {n x:Int}:∀ {A:List Int},(∀ y∈A,y<n)->n<x->Up n (A++[x])=A++[n,x]
 |[],_,h=>by
  show Up n [x]=_;unfold Up;rw [qc (by omega)];rfl
 |y::A,a,h=>by
  show Up n (y::(A++[x]))=_;unfold Up;rw [qf (a y qq),ZjO (λ z hz=>a z (qj _ hz)) h];rfl
def Zhg {n x:Int}:∀ {A:List Int},(∃ y∈A,¬ y<n)->Up n (A++[x])=Up n A++[x]
 |[],h=>by obtain ⟨y,a,_⟩:=h;cases a
 |y::A,h=>by
  show Up n (y::(A++[x]))=Up n (y::A)++[x];unfold Up;by_cases a:y<n
  ·rw [qf a,qf a,Zhg]
   ·rfl
   ·obtain ⟨z,hz,d⟩:=h
    rcases qk.1 hz with rfl|hz
    ·exact absurd a d
    ·exact ⟨z,hz,d⟩
  ·rw [qc a,qc a];rfl
def ZbR (n:Int):∀ l:List Int,(Up n l).length=l.length + 1
 |[]=>rfl
 |x::l=>by
  unfold Up;split
  ·simp only [qr,ZbR n l]
  ·rfl
def Zmv {s:Sl} {l:List Int} {n:Int} (hs:RoI R s l) (hl:l.length<=1000000) (x:n ∉ l) (o:Sat R Hs w):
  Zg prog 198 #[.slice s.a s.len s.cap,nI n] w λ v w'=>∃ t:Sl,v=.slice t.a t.len t.cap/\Sat R (Own t 3 (Zd (Up n l))::Hs) w':=by
 have c:=hs.len;apply Ztb;refine ⟨λ out r i w=>∃ j:Nat,i=j/\j<=l.length/\(if r then (∃ y∈l.take j,¬ y<n)/\Sat R (Own out 3 (Zd (Up n (l.take j)))::Hs) w else (∀ y∈l.take j,y<n)/\Sat R (Own out 3 (Zd (l.take j))::Hs) w),
  λ _ _ i _=>l.length - i.toNat,⟨0,rfl,by omega,by rw [qc (by simp)];exact ⟨by simp,Own.nil o⟩⟩,?_⟩
 clear o;rintro _ out r _ w ⟨j,rfl,hj,u⟩;refine Br.d (λ h=>?_) (λ h=>?_)
 ·have z:j<l.length:=by omega
  have g:l.take (j + 1)=l.take j++[l[j]]:=by rw [qp,List.getElem?_eq_getElem z];rfl
  have m:(l.take j).length=j:=by rw [qd];omega
  have A:l[j]≠n:=λ e=>x (by rw [<-e];exact qh _);rw [Zc];cases r with
  |false=>
   rw [qc (by simp)] at u;obtain ⟨p,o⟩:=u;refine Br.t rfl ?_;refine Ro.ix hs (eqS o) j rfl z ?_;refine Br.d (λ D=>?_) (λ D=>?_)
   ·refine YA Zdn o (by omega) λ t w o=>?_
    refine Ro.ix hs (eqS o) j rfl z ?_;refine YA Zdn o (by rw [qb,m];simp;omega) λ t w o=>?_;refine ⟨⟨j + 1,by omega,by omega,?_⟩,by dsimp only;omega⟩;rw [qf rfl,g,ZjO p (by omega)];refine ⟨⟨l[j],zc _ (qK.2 rfl),by omega⟩,?_⟩;rw [qn] at o;exact o
   ·refine Ro.ix hs (eqS o) j rfl z ?_
    refine YA Zdn o (by omega) λ t w o=>?_;refine ⟨⟨j + 1,by omega,by omega,?_⟩,by dsimp only;omega⟩;rw [qc (by simp),g];refine ⟨λ y k=>?_,o⟩;rcases qt.1 k with k|k
    ·exact p y k
    ·rw [qK.1 k];omega
  |true=>
   rw [qf rfl] at u;obtain ⟨q,o⟩:=u;refine Br.f rfl ?_;refine Ro.ix hs (eqS o) j rfl z ?_;refine YA Zdn o (by rw [ZbR,m];omega) λ t w o=>?_;refine ⟨⟨j + 1,by omega,by omega,?_⟩,by dsimp only;omega⟩;rw [qf rfl,g,Zhg q];obtain ⟨y,k,b⟩:=q;exact ⟨⟨y,ui _ k,b⟩,o⟩
 ·rw [qg (show l.length<=j by omega)] at u
  cases r with
  |false=>
   rw [qc (by simp)] at u;refine Br.t rfl ?_;refine YA Zdn u.2 (by omega) λ t w o=>?_;rw [ZbS u.1];exact ⟨t,rfl,o⟩
  |true=>
   rw [qf rfl] at u;exact Br.f rfl ⟨out,rfl,u.2⟩
def XY {n:Nat} (g:n<18446744073709551616) (o:Sat R Hs w):
    Zg prog 137 #[.int .u64 n] w λ v w'=>∃ t:Sl,v=.slice t.a t.len t.cap/\Sat R (Own t 5 (b8 (GS n))::Hs) w':=by
  apply ZtY;have j:=Zaw g;refine ⟨λ x out w=>∃ (m:Nat) (ds:List Int),x=m/\m<=n/\dig m++ds=dig n/\Sat R (Own out 5 (b8 ds)::Hs) w,λ x _ _=>x.toNat,⟨n,[],rfl,by omega,by simp,Own.nil o⟩,?_⟩;clear o;rintro _ _ out w ⟨m,ds,rfl,hm,i,o⟩;have k:ds.length<=8:=by rw [<-i,qb] at j;omega
  refine Br.d (λ h=>?_) (λ h=>?_)
  · have e1:IntKind.u8.wrap ((m:Int).tmod 256)=((m % 256:Nat):Int):=by
      rw [show (m:Int).tmod 256=((m % 256:Nat):Int) from (Int.ofNat_tmod m 256).symm,Zf3 (by omega) (by omega)]
    have e2:IntKind.u64.wrap ((m:Int).tdiv 256)=((m / 256:Nat):Int):=by
      rw [show (m:Int).tdiv 256=((m / 256:Nat):Int) from (Int.ofNat_tdiv m 256).symm,ZM]
    rw [e1,e2];refine Za o λ b w o=>?_;have o:Sat R (Own ⟨some ⟨b,0,none⟩,1,1⟩ 5 (b8 [((m % 256:Nat):Int)])::Own out 5 (b8 ds)::Hs) w:=YL o;refine YI ZbX (s:=⟨some ⟨b,0,none⟩,1,1⟩) (n:=9) underlying47 o (by simp;omega) (by omega) (by omega) λ z w o=>?_;refine ⟨⟨m / 256,[((m % 256:Nat):Int)]++ds,rfl,by omega,?_,o.cons λ _ h=>h.drop⟩,by dsimp only;omega⟩;rw [<-qn,<-Uj (by omega)];exact i
  · have u:m=0:=by omega
    subst u;rw [Wh,jr] at i;have y:out.len=ds.length:=by have:=Own.len o;simpa using this
    have e1:IntKind.u8.wrap (out.len:Int)=((dig n).length:Int):=by rw [Zf3 (by omega) (by omega),y,i]
    rw [e1];refine Za o λ b w o=>?_;have o:Sat R (Own ⟨some ⟨b,0,none⟩,1,1⟩ 5 (b8 [((dig n).length:Int)])::Own out 5 (b8 ds)::Hs) w:=YL o;refine YI ZbX (s:=⟨some ⟨b,0,none⟩,1,1⟩) (n:=9) underlying47 o (by simp;omega) (by omega) (by omega) λ z w o=>?_;have e2:GS n=[((dig n).length:Int)]++ds:=by rw [i];rfl
    rw [e2];exact ⟨z,rfl,o.cons λ _ h=>h.drop⟩
def Gz {s:Sl} {bs:List Int} (hs:Ro R s (b8 bs)) (hl:bs.length<=1099511627776) (d:Sat R Hs w):
    Zg prog 68 #[.slice s.a s.len s.cap] w λ v w'=>∃ t:Sl,v=.slice t.a t.len t.cap/\Sat R (Own t 5 (b8 (XI bs))::Hs) w':=by
  have h:s.len=bs.length:=by have:=hs.len;simpa using this
  apply ZvH;unfold B68;rw [ZM,h];refine (XY (by omega) d).u1 λ t w d=>?_;refine ⟨t,rfl,?_⟩;rw [<-h];have i:=YS (n:=bs.length) (by omega);refine Ul ZbX (n:=1099511627790) underlying47 d hs (by omega) (by omega) (by omega) λ o w d=>?_;exact ⟨o,rfl,d⟩
abbrev Yk (s:Sl) (n:Nat) (bad:Bool):Obj:=.cells [.slice s.a s.len s.cap,nI n,.bool bad].toArray 140 (0,0)
def Xn (r:Nat) (s:Sl) (bs:List Int) (rd:Rd):HP:=exs λ n:Nat=>XS [pur (n<=bs.length/\bs.drop n=rd.bs),pts r (Yk s n rd.bad)]
def Sat.rrd {r:Nat} {s:Sl} {bs:List Int} {rd:Rd}:Sat R (Xn r s bs rd::Hs) w↔∃ n:Nat,(n<=bs.length/\bs.drop n=rd.bs)/\Sat R (pts r (Yk s n rd.bad)::Hs) w:=by
  unfold Xn;rw [Sat.exs];constructor
  · rintro ⟨n,h⟩
    have h:=Sat.star.1 h;have h:Sat R (pur _::pts r _::Hs) w:=h;rw [Sat.pur] at h;exact ⟨n,h⟩
  · rintro ⟨n,h⟩
    exact ⟨n,Sat.star.2 (by show Sat R (pur _::pts r _::Hs) w;rw [Sat.pur];exact h)⟩
def p256 {a b:Nat} (h:a<=b):(256:Int) ^ a<=256 ^ b:=by
  rw [show (256:Int)=((256:Nat):Int) from rfl,<-vl,<-vl]
  exact zy.2 (jm (by omega) h)
def XM (rd:Rd):Int × Bool × Int:=if rd.bad then (0,false,0) else match Xr rd.bs with|some (n,neg,k)=>(n,neg,(k:Int))|none=>(0,false,0)
def ZdT {r:Nat} {s:Sl} {bs:List Int} {n:Nat} {bad:Bool} (hl:bs.length<=1099511627776) (H:∀ x∈bs,0<=x/\x<256) (hs:SlR R.m s (b8 bs)) (B:n<=bs.length) (o:Sat R (pts r (Yk s n bad)::Hs) w):
    Zg prog 143 #[nP r] w λ v w'=>v=.tuple #[.int .u64 (XM ⟨bs.drop n,bad⟩).1,.bool (XM ⟨bs.drop n,bad⟩).2.1,nI (XM ⟨bs.drop n,bad⟩).2.2]/\Sat R (pts r (Yk s n bad)::Hs) w':=by
  have z:s.len=bs.length:=by have:=hs.len;simpa using this
  apply ZtS;have no:XM ⟨bs.drop n,bad⟩=(0,false,0)->∀ {w},Sat R (pts r (Yk s n bad)::Hs) w->(Value.tuple #[.int .u64 0,.bool false,nI 0]=.tuple #[.int .u64 (XM ⟨bs.drop n,bad⟩).1,.bool (XM ⟨bs.drop n,bad⟩).2.1,nI (XM ⟨bs.drop n,bad⟩).2.2]/\Sat R (pts r (Yk s n bad)::Hs) w):=λ e {w} o=>by
    rw [e];exact ⟨rfl,o⟩
  refine ⟨λ w=>(bad=false/\n<bs.length)/\Sat R (pts r (Yk s n bad)::Hs) w,Zi o λ w o=>?_,?_⟩
  · refine Zb.mk rfl ⟨bad,oS,Br.mk (λ h=>no (by unfold XM;rw [qf h]) o) (λ h=>?_)⟩
    refine Zb.mk rfl ⟨n,oS,Zb.mk rfl ⟨s,oS,?_⟩⟩;rw [z];refine Br.d (λ u=>no ?_ o) (λ u=>⟨⟨h,by omega⟩,o⟩);unfold XM;simp only;rw [jg (by omega)];split<;>rfl
  clear o;rintro _ w ⟨⟨f,b⟩,o⟩;have T:=H bs[n] (qh _);have hd:bs.drop n=bs[n]::bs.drop (n + 1):=qv b;have e0:wI bs[n]=bs[n]:=Zc;have nx:XM ⟨bs.drop n,bad⟩=match Xr (bs[n]::bs.drop (n + 1)) with|some (n,neg,k)=>(n,neg,(k:Int))|none=>(0,false,0):=by
    unfold XM;rw [f,hd];rfl
  refine Zi o λ w o=>?_;refine Zb.mk rfl ⟨s,oS,Zb.mk rfl ⟨n,oS,hs.ix Wk n rfl b ?_⟩⟩;rw [e0];have I:0<=(if 16<=bs[n] then bs[n] - 16 else bs[n]):=by split<;>omega
  obtain ⟨k,hk⟩:=qs I;have c:(if 16<=bs[n] then bs[n] - 16 else bs[n]).toNat=k:=by rw [hk];rfl
  refine ⟨λ x w=>x=(k:Int)/\Sat R (pts r (Yk s n bad)::Hs) w,Br.d (λ h=>⟨?_,o⟩) (λ h=>⟨?_,o⟩),?_⟩
  · rw [Zc,<-hk,qf (by omega)]
  · rw [<-hk,qc (by omega)]
  clear o;rintro _ _ w ⟨rfl,o⟩;have dl:(bs.drop (n + 1)).length=bs.length - (n + 1):=qx;have pno:¬ (bs[n]<32/\k<=8/\k<=(bs.drop (n + 1)).length/\(k=0->bs[n]=0)/\(k≠0->(bs.drop (n + 1)).head?≠some 0))->XM ⟨bs.drop n,bad⟩=(0,false,0):=λ h=>by
    rw [nx];unfold Xr;simp only [c];rw [qc h]
  have pyes:(bs[n]<32/\k<=8/\k<=(bs.drop (n + 1)).length/\(k=0->bs[n]=0)/\(k≠0->(bs.drop (n + 1)).head?≠some 0))->XM ⟨bs.drop n,bad⟩=(Zdk 0 ((bs.drop (n + 1)).take k),decide (16<=bs[n]),((k + 1:Nat):Int)):=λ h=>by
    rw [nx];unfold Xr;simp only [c];rw [qf h]
  refine ⟨λ w=>(bs[n]<32/\k<=8/\k<=(bs.drop (n + 1)).length/\(k=0->bs[n]=0)/\(k≠0->(bs.drop (n + 1)).head?≠some 0))/\Sat R (pts r (Yk s n bad)::Hs) w,Zi o λ w o=>?_,?_⟩
  · refine Br.d (λ h=>no (pno λ u=>by omega) o) (λ P=>?_)
    refine Zb.mk rfl ⟨n,oS,Zb.mk rfl ⟨s,oS,?_⟩⟩;rw [Zc (x:=(n:Int) + 1),Zc,z];refine Br.d (λ h=>no (pno λ u=>by omega) o) (λ V=>?_);have g:bs[n]<32:=by split at hk<;>omega
    have last:(k≠0\/bs[n]=0)->Br (decide ((k:Int)>0))
             (Zb (some ⟨r,0,none⟩) λ l=>
              ∃ y:Sl,(At (Sat R (pts r (Yk s n bad)::Hs)) (Addr.add l 0) [.slice y.a y.len y.cap])/\
              Zb (some ⟨r,0,none⟩) λ p=>
              ∃ q:Int,(At (Sat R (pts r (Yk s n bad)::Hs)) (nO p 1) [nI q])/\
              Rng (wI (q + 1)) y.len (Zb y.a λ t=>
              ∃ A:Int,(At (Sat R (pts r (Yk s n bad)::Hs)) (Addr.add t ((wI (q + 1)).toNat)) [.int .u8 A])/\
              Br (A==0)
               (Value.tuple #[.int .u64 0,.bool false,nI 0]=.tuple #[.int .u64 (XM ⟨bs.drop n,bad⟩).1,.bool (XM ⟨bs.drop n,bad⟩).2.1,nI (XM ⟨bs.drop n,bad⟩).2.2]/\Sat R (pts r (Yk s n bad)::Hs) w)
               ((bs[n]<32/\k<=8/\k<=(bs.drop (n + 1)).length/\(k=0->bs[n]=0)/\(k≠0->(bs.drop (n + 1)).head?≠some 0))/\Sat R (pts r (Yk s n bad)::Hs) w)))
             ((bs[n]<32/\k<=8/\k<=(bs.drop (n + 1)).length/\(k=0->bs[n]=0)/\(k≠0->(bs.drop (n + 1)).head?≠some 0))/\Sat R (pts r (Yk s n bad)::Hs) w):=λ hz=>by
      refine Br.d (λ h=>?_) (λ h=>⟨⟨g,by omega,by omega,by omega,λ u=>by omega⟩,o⟩);refine Zb.mk rfl ⟨s,oS,Zb.mk rfl ⟨n,oS,?_⟩⟩;rw [Zc];have D:n + 1<bs.length:=by omega
      have N:(bs.drop (n + 1)).head? =some bs[n + 1]:=by rw [qv D];rfl
      refine hs.ix Wk (n + 1) (by omega) D ?_;refine Br.e (λ E=>no (pno λ u=>?_) o) (λ E=>⟨⟨g,by omega,by omega,by omega,λ u=>?_⟩,o⟩)
      · exact u.2.2.2.2 (by omega) (by rw [N,E])
      · rw [N];intro O;exact E (jp O)
    refine Br.d (λ J=>?_) (λ J=>?_)
    · refine Br.e (λ E=>no (pno λ u=>?_) o) (λ E=>last (.inl (by omega)))
      have:=u.2.2.2.1 (by omega);omega
    · refine last ?_
      rw [qc (by omega)] at hk;by_cases L:k=0
      · exact .inr (by omega)
      · exact .inl L
  clear o;rintro _ w ⟨Q,o⟩;have e:=pyes Q;rw [e];obtain ⟨g,W,X,_,_⟩:=Q;have F:∀ j,∀ x∈(bs.drop (n + 1)).take j,0<=x/\x<256:=λ j x U=>H x (jn (qw U));have vb:∀ j,j<=8->0<=Zdk 0 ((bs.drop (n + 1)).take j)/\Zdk 0 ((bs.drop (n + 1)).take j)<256 ^ j:=λ j hj=>by
    refine ⟨ZeF (by omega) (F j),?_⟩;have Y:=ZeG (acc:=0) (by omega) (F j);have u:((bs.drop (n + 1)).take j).length<=j:=by rw [qd];omega
    have O:(256:Int) ^ ((bs.drop (n + 1)).take j).length<=256 ^ j:=p256 u;rw [show (0:Int) + 1=1 from rfl,zQ] at Y
    omega
  refine ⟨λ x i w=>∃ j:Nat,i=j/\j<=k/\x=Zdk 0 ((bs.drop (n + 1)).take j)/\Sat R (pts r (Yk s n bad)::Hs) w,λ _ i _=>k - i.toNat,⟨0,rfl,by omega,rfl,o⟩,?_⟩;clear o;rintro _ _ _ w ⟨j,rfl,hj,rfl,o⟩;refine Br.d (λ h=>Zi o λ w o=>?_) (λ h=>?_)
  · refine Zb.mk rfl ⟨s,oS,Zb.mk rfl ⟨n,oS,?_⟩⟩
    rw [Zc (x:=(n:Int) + 1),Zc (x:=(n:Int) + 1 + j)];have G:n + 1 + j<bs.length:=by omega
    refine hs.ix Wk (n + 1 + j) (by omega) G ?_;have U:=H bs[n + 1 + j] (qh _);have et:(bs.drop (n + 1)).take (j + 1)=(bs.drop (n + 1)).take j++[bs[n + 1 + j]]:=by
      rw [qp,List.getElem?_drop,List.getElem?_eq_getElem G];rfl
    have S:=vb j (by omega);have M:=vb (j + 1) (by omega);rw [et,GU] at M;have K:(256:Int) ^ j<=256 ^ 7:=p256 (by omega);have C:=S.2;have e7:(256:Int) ^ 7=72057594037927936:=by decide
    rw [ZM (x:=bs[n + 1 + j]),ZM (x:=Zdk 0 ((bs.drop (n + 1)).take j) * 256) (by omega) (by omega),ZM,Zc];exact ⟨⟨j + 1,by omega,by omega,by rw [et,GU],o⟩,by dsimp only;omega⟩
  · have:j=k:=by omega
    subst this;rw [Zc];refine ⟨?_,o⟩;simp
def Ye {r:Nat} {s:Sl} {bs:List Int} {rd:Rd} {most:Int} (hl:bs.length<=1099511627776) (q:∀ x∈bs,0<=x/\x<256) (hs:SlR R.m s (b8 bs)) (o:Sat R (Xn r s bs rd::Hs) w):
    Zg prog 77 #[nP r,.int .u64 most] w λ v w'=>v=.int .u64 (Zh most rd).1/\Sat R (Xn r s bs (Zh most rd).2::Hs) w':=by
  obtain ⟨n,⟨t,hd⟩,o⟩:=Sat.rrd.1 o;apply Zvz;refine (ZdT hl q hs t o).u λ w o=>?_;refine ⟨_,_,_,rfl,?_⟩;rw [hd];have bad:Zh most rd=(0,⟨rd.bs,true⟩)->Zb (some ⟨r,0,none⟩) λ y=>
      ∃ j:World,((Instr.storeAt 4 (xP ((some (nO y 2)))) (.bool true)).run prog w=.ok () j)/\
      (Value.int .u64 0=.int .u64 (Zh most rd).1/\Sat R (Xn r s bs (Zh most rd).2::Hs) j):=λ e=>by
    refine Zb.mk rfl ?_;refine sRu o λ w o=>?_;have o:=o.re (pts r (Yk s n true));rw [e];exact ⟨rfl,Sat.rrd.2 ⟨n,⟨t,hd⟩,o⟩⟩
  refine ⟨λ w=>(∃ x k,rd.bad=false/\Xr rd.bs=some (x,false,k)/\x<=most)/\Sat R (pts r (Yk s n rd.bad)::Hs) w,?_,?_⟩
  · by_cases a:rd.bad=true
    · have e:XM ⟨rd.bs,rd.bad⟩=(0,false,0):=by unfold XM;rw [qf a]
      rw [e];dsimp only;refine Br.mk (λ h=>bad ?_) (λ h=>by simp at h);unfold Zh;rw [qf a];rw [show rd=⟨rd.bs,rd.bad⟩ from rfl,a]
    · have a:rd.bad=false:=by simpa using a
      cases i:Xr rd.bs with
      |none=>
        have e:XM ⟨rd.bs,rd.bad⟩=(0,false,0):=by unfold XM;simp [i]
        rw [e];dsimp only;refine Br.mk (λ h=>bad ?_) (λ h=>by simp at h);unfold Zh;rw [qc (by rw [a];simp),i]
      |some p=>
        obtain ⟨x,l,k⟩:=p;have e:XM ⟨rd.bs,rd.bad⟩=(x,l,(k:Int)):=by unfold XM;simp [i,a]
        rw [e];dsimp only;have z:∀ x∈rd.bs,0<=x/\x<256:=λ x g=>q x (by rw [<-hd] at g;exact jn g);obtain ⟨_,_,c,_,_⟩:=UZ z i;have e2:Zh most rd=if l=false/\x<=most then (x,⟨rd.bs.drop k,false⟩) else (0,⟨rd.bs,true⟩):=by
          unfold Zh;rw [qc (by rw [a];simp),i]
        refine Br.e (λ h=>by omega) (λ _=>Br.mk (λ h=>bad ?_) (λ h=>Br.d (λ A=>bad ?_) (λ A=>?_)))
        · rw [e2,qc (by rintro ⟨f,_⟩;rw [f] at h;cases h)]
        · rw [e2,qc (by rintro ⟨_,f⟩;omega)]
        · exact ⟨⟨x,k,a,by rw [h],by omega⟩,o⟩
  clear bad o;rintro _ w ⟨⟨x,k,a,i,g⟩,o⟩;have z:∀ x∈rd.bs,0<=x/\x<256:=λ x g=>q x (by rw [<-hd] at g;exact jn g);obtain ⟨_,_,c,_,D⟩:=UZ z i;have e:XM ⟨rd.bs,rd.bad⟩=(x,false,(k:Int)):=by unfold XM;simp [i,a]
  have e2:Zh most rd=(x,⟨rd.bs.drop k,false⟩):=by
    unfold Zh;rw [qc (by rw [a];simp),i];dsimp only;rw [qf ⟨rfl,g⟩]
  rw [e,e2];dsimp only;have b:rd.bs.length=bs.length - n:=by rw [<-hd,qx]
  refine Zb.mk rfl ⟨n,oA o,Zb.mk rfl ?_⟩
  try dsimp only
  rw [Zc];refine sRu o λ w o=>?_;rw [a] at o;have o:=o.re (pts r (Yk s (n + k) false));exact ⟨rfl,Sat.rrd.2 ⟨n + k,⟨by omega,by rw [<-jE,hd]⟩,o⟩⟩
def Zbo {r:Nat} {s:Sl} {bs:List Int} {rd:Rd} (hs:SlR R.m s (b8 bs)) (a:Sat R (Xn r s bs rd::Hs) w):
    Zg prog 80 #[nP r] w λ v w'=>v=.bool (Xw rd)/\Sat R (Xn r s bs rd::Hs) w':=by
  have o:s.len=bs.length:=by have:=hs.len;simpa using this
  obtain ⟨n,⟨i,hd⟩,a⟩:=Sat.rrd.1 a;have d:rd.bs.length=bs.length - n:=by rw [<-hd,qx]
  apply Zvx;refine Zi a λ w a=>?_;refine Zb.mk rfl ⟨rd.bad,oS,Br.nb (λ h=>?_) (λ h=>?_)⟩
  · refine Zb.mk rfl ⟨n,oS,Zb.mk rfl ⟨s,oS,?_,Sat.rrd.2 ⟨n,⟨i,hd⟩,a⟩⟩⟩
    unfold Xw;rw [h,o]
    congr 1
    rw [zj,vB,d];show decide ((n:Int)=(bs.length:Int))=_;rw [qJ];omega
  · refine ⟨?_,Sat.rrd.2 ⟨n,⟨i,hd⟩,a⟩⟩
    unfold Xw;rw [h];rfl
def Zf (l:List Int):List Int:=(l.map λ x=>GS x.toNat).flatten
def Zd5 {l:List Int} {k:Nat} (hk:k<l.length):Zf (l.take (k + 1))=Zf (l.take k)++GS l[k].toNat:=by
 unfold Zf;rw [qp,List.getElem?_eq_getElem hk,qe,ja];simp only [q9,qi,jR,jt,zN,jl]
def Zx:∀ {l:List Int},(∀ x∈l,0<=x/\x<18446744073709551616)->(Zf l).length<=9 * l.length
 |[],_=>by simp [Zf]
 |x::l,h=>by
  have o:=h x (qq ..);have:=YS (n:=x.toNat) (by omega);have a:=Zx (l:=l) λ y d=>h y (qj _ d);unfold Zf at a ⊢;rw [qi,jt,qb,qr];omega
def WX:∀ {l:List Int},(∀ x∈l,0<=x/\x<18446744073709551616)->∀ y∈Zf l,0<=y/\y<256
 |[],_=>by simp [Zf]
 |x::l,h=>λ y a=>by
  have d:=h x (qq ..);unfold Zf at a;rw [qi,jt,qt] at a;rcases a with a|a
  ·exact Zip (n:=x.toNat) (by omega) y a
  ·exact WX (λ y a=>h y (qj _ a)) y a
def Vd (a b:List Int):Zf (a++b)=Zf a++Zf b:=by simp [Zf]
def Zex (p:Nat) (bs:List Int):HP:=exs λ s:Sl=>XS [lp p s,Own s 5 (b8 bs)]
def Sat.outB {p:Nat} {bs:List Int}:Sat R (Zex p bs::Hs) w↔∃ s:Sl,Sat R (lp p s::Own s 5 (b8 bs)::Hs) w:=by
 unfold Zex;rw [Sat.exs];exact ⟨λ⟨s,h⟩=>⟨s,Sat.star.1 h⟩,λ⟨s,h⟩=>⟨s,Sat.star.2 h⟩⟩
def Zrk {f:FuncId} {p:Nat} {s:Sl} {xs bs:List Int} (u:∀ x∈xs,0<=x/\x<9223372036854775808) (hl:bs.length + 9 * xs.length<=1099511627776) (hs:RoI R s xs) (o:Sat R (Zex p bs::Hs) w)
  (e:∀ {K:Value->xE} {w:World},B132 s (some ⟨p,0,none⟩) K w->Zg prog f #[.slice s.a s.len s.cap,nP p] w K):
  Zg prog f #[.slice s.a s.len s.cap,nP p] w λ v w'=>v=.tuple #[]/\Sat R (Zex p (bs++Zf xs)::Hs) w':=by
 have q:=hs.len;apply e;refine ⟨λ i w=>∃ k:Nat,i=k/\k<=xs.length/\Sat R (Zex p (bs++Zf (xs.take k))::Hs) w,λ i _=>xs.length - i.toNat,⟨0,rfl,by omega,by simpa [Zf] using o⟩,?_⟩;clear o;rintro _ _ w ⟨k,rfl,hk,o⟩;refine Br.d (λ h=>?_) (λ h=>?_)
 ·have y:k<xs.length:=by omega
  have j:=u xs[k] (qh _);have l:∀ x∈xs.take k,0<=x/\x<18446744073709551616:=λ x j=>by have:=u x (qw j);omega
  have m:=Zx l;rw [qd] at m;refine hs.idx (eqS o) y ?_;obtain ⟨z,o⟩:=Sat.outB.1 o;refine Xk o λ w o=>?_;refine Zb.mk rfl ⟨z,oS,?_⟩;obtain ⟨n,r⟩:=qs j.1;rw [r,ZM];refine (Wo (by omega) o).u1 λ t w o=>?_;refine ⟨t,rfl,o.absorb,?_⟩;have o:=o.m1.b2.m3;have b:=YS (n:=n) (by omega);refine YI ZbX (s:=z) (n:=1099511627790) underlying47 o (by rw [qb];omega) (by omega) (by omega) λ g w o=>?_;have o:Sat R (lp p z::Own g 5 (b8 (bs++Zf (xs.take k)++GS n))::Hs) w:=by
   have h:Sat R (Own t 5 (b8 (GS n))::VC.tru::lp p z::Own g 5 (b8 (bs++Zf (xs.take k)++GS n))::Hs) w:=o.arr;exact h.drop.drop
  refine sRu o λ w o=>?_;have o:=o.re (lp p g);rw [Zc];refine ⟨⟨k + 1,by omega,by omega,Sat.outB.2 ⟨g,?_⟩⟩,by dsimp only;omega⟩;rw [Zd5 y,r,qo,<-qn];exact o
 ·have:k=xs.length:=by omega
  subst this;rw [jz] at o;exact ⟨rfl,o⟩
def Zhs {p:Nat} {s:Sl} {xs bs:List Int} (d:∀ x∈xs,0<=x/\x<9223372036854775808) (hl:bs.length + 9 * xs.length<=1099511627776) (hs:RoI R s xs) (o:Sat R (Zex p bs::Hs) w):
  Zg prog 132 #[.slice s.a s.len s.cap,nP p] w λ v w'=>v=.tuple #[]/\Sat R (Zex p (bs++Zf xs)::Hs) w':=
 Zrk d hl hs o λ h=>Zt2 _ _ _ _ h
def WV {s:Sl} {xs:List Int} (u:∀ x∈xs,0<=x/\x<9223372036854775808) (hl:9 * xs.length<=1099511627776) (hs:RoI R s xs) (o:Sat R Hs w):
  Zg prog 138 #[.slice s.a s.len s.cap] w λ v w'=>∃ t:Sl,v=.slice t.a t.len t.cap/\Sat R (Own t 5 (b8 (Zf xs))::Hs) w':=by
 have l:=hs.len;apply ZtX;refine ⟨λ out i w=>∃ k:Nat,i=k/\k<=xs.length/\Sat R (Own out 5 (b8 (Zf (xs.take k)))::Hs) w,λ _ i _=>xs.length - i.toNat,⟨0,rfl,by omega,Own.nil o⟩,?_⟩;clear o;rintro _ out _ w ⟨k,rfl,hk,o⟩;refine Br.d (λ h=>?_) (λ h=>?_)
 ·have y:k<xs.length:=by omega
  have z:=u xs[k] (qh _);have g:∀ x∈xs.take k,0<=x/\x<18446744073709551616:=λ x z=>by have:=u x (qw z);omega
  have j:=Zx g;rw [qd] at j;refine Ro.ix hs (eqS o) k rfl y ?_;obtain ⟨n,m⟩:=qs z.1;rw [m,ZM];refine (XY (by omega) o).u1 λ t w o=>?_;refine ⟨t,rfl,?_⟩;have p:=YS (n:=n) (by omega);refine YI ZbX (s:=out) (n:=1099511627790) underlying47 o.swap (by omega) (by omega) (by omega) λ q w o=>?_;rw [Zc];refine ⟨⟨k + 1,by omega,by omega,?_⟩,by dsimp only;omega⟩;rw [Zd5 y,m,qo];exact o.swap.drop
 ·rw [qg (by omega)] at o
  exact ⟨out,rfl,o⟩
def Zdl (h:Zw) (t:Sl):List Value:=[nI h.owner,nI h.cls,nI h.many,.slice t.a t.len t.cap]
def XT (L:List Zw) (ts:List Sl):List (List Value):=(L.zip ts).map λ x=>Zdl x.1 x.2
def Z6 (L:List Zw) (ts:List Sl):List HP:=(L.zip ts).map λ x=>Zv x.2 (Zd x.1.seats)
def WS (s:Sl) (L:List Zw):HP:=exs λ ts:List Sl=>XS (pur (ts.length=L.length)::Zn 4 s 197 (XT L ts)::Z6 L ts)
def Sat.holdsL {s:Sl} {L:List Zw}:Sat R (WS s L::Hs) w↔∃ ts:List Sl,ts.length=L.length/\Sat R (Zn 4 s 197 (XT L ts)::(Z6 L ts++Hs)) w:=by
 unfold WS;rw [Sat.exs];constructor
 ·rintro ⟨ts,h⟩
  obtain ⟨a,d⟩:=Sat.pur.1 (Sat.star.1 h);exact ⟨ts,a,d⟩
 ·rintro ⟨ts,a,d⟩
  exact ⟨ts,Sat.star.2 (Sat.pur.2 ⟨a,d⟩)⟩
structure HsR (R:Cx) (s:Sl) (L:List Zw) (ts:List Sl):Prop where
 len:ts.length=L.length
 rows:RoN 4 R s (XT L ts)
 seats:∀ i (h:i<L.length) (h':i<ts.length),SlR R.m ts[i] (Zd L[i].seats)
def ZdM:∀ {L:List Zw} {ts:List Sl} {R:Cx},ts.length=L.length->Sat R (Z6 L ts++Hs) w->∃ R':Cx,R.Ext R'/\(∀ i (h:i<L.length) (h':i<ts.length),SlR R'.m ts[i] (Zd L[i].seats))/\Sat R' Hs w
 |[],_,R,_,a=>⟨R,Cx.Ext.refl,λ i h=>by simp at h,by simpa [Z6] using a⟩
 |h::L,[],R,hl,_=>by simp at hl
 |h::L,t::ts,R,hl,a=>by
  have a:Sat R (Zv t (Zd h.seats)::(Z6 L ts++Hs)) w:=a;obtain ⟨z,o,u,a⟩:=Zv.leak a;obtain ⟨v,d,y,a⟩:=ZdM (by simpa using hl) a;refine ⟨v,o.trans d,λ i h h'=>?_,a⟩;rcases i with _|i
  ·exact d.slR u
  ·exact y i (by simpa using h) (by simpa using h')
def WS.leak {s:Sl} {L:List Zw} (h:Sat R (WS s L::Hs) w):∃ (R':Cx) (ts:List Sl),R.Ext R'/\HsR R' s L ts/\Sat R' Hs w:=by
 obtain ⟨ts,hl,h⟩:=Sat.holdsL.1 h;obtain ⟨u,d,o,h⟩:=Zn.leak h;obtain ⟨i,a,hs,h⟩:=ZdM hl h;exact ⟨i,ts,d.trans a,⟨hl,a.roN o,hs⟩,h⟩
def W7 {L:List Zw} {ts:List Sl} (h:ts.length=L.length):(XT L ts).length=L.length:=by simp [XT,h]
def Zjq {L:List Zw} {ts:List Sl} {k:Nat} (h:k<L.length) (h':k<ts.length) (a:k<(XT L ts).length):(XT L ts)[k]=Zdl L[k] ts[k]:=by simp [XT]
def HsR.fld {s:Sl} {L:List Zw} {ts:List Sl} {S:xE} {k j:Nat} {v:Value} (i:HsR R s L ts) (hS:∀ w,S w->Sat R Hs w) (hk:k<L.length) (h:k<ts.length) (u:(Zdl L[k] ts[k])[j]? =some v) {F:Addr->Prop}
  (f:∀ a:Addr,a.spot=none->At S ⟨(a.add (YQ k 4)).block,(a.add (YQ k 4)).off + j,none⟩ [v]->F a):Rng (k:Int) s.len (Zb s.a F):=by
 have hl:=W7 i.len;refine (i.rows.reads hS).rng (k:=k) (by omega) λ b off z d=>f _ rfl ?_;rw [ZfA];refine d j [v] ?_;rw [Zjq hk h];obtain ⟨o,y⟩:=List.getElem?_eq_some_iff.1 u;rw [qv o,y];exact ⟨rfl,trivial⟩
def Zby (a:Addr) (k:Nat) (h:a.spot=none):Addr.add (Addr.add a (YQ k 4)) 0=(nO (a.add (YQ k 4)) 0):=by
 obtain ⟨b,o,s⟩:=a;dsimp only at h;subst h;rw [Zs,Zs]
def Zu3 (a b:Zw):Prop:=a.owner=b.owner/\a.cls=b.cls/\a.many=b.many/\a.seats=b.seats
def ZpO {a b:Zw} (h:Zu3 a b):a=b:=by
 obtain ⟨d,o,i,u⟩:=h;cases a;cases b;simp_all
instance:DecidableEq Zw:=λ a b=>decidable_of_iff (a.owner=b.owner/\a.cls=b.cls/\a.many=b.many/\a.seats=b.seats) ⟨ZpO,λ h=>by subst h;exact ⟨rfl,rfl,rfl,rfl⟩⟩
structure RF where
 num:Int
 rows:Int
 grps:List Int
 lims:List Int
 L:List Zw
abbrev ZD (r:RF) (sg sl s:Sl):Obj:=.cells [nI r.num,nI r.rows,.slice sg.a sg.len sg.cap,.slice sl.a sl.len sl.cap,.slice s.a s.len s.cap].toArray 179 (0,0)
def Va (owner:Int):List Zw->Nat->Int
 |[],_=>-1
 |h::L,k=>if h.owner=owner then (k:Int) else Va owner L (k + 1)
def Uc (owner:Int) (h:Zw) (L:List Zw) (k:Nat):Va owner (h::L) k=if h.owner=owner then (k:Int) else Va owner L (k + 1):=rfl
def Zu4:Zw:=⟨0,0,0,[]⟩
def Gp (f:PF) (k:Int):Zw:=(ZL k f.hs).getD Zu4
def Gn (f:PF):List Zw:=(ZbC (f.hs.map (·.1))).map (Gp f)
def elH:ElN prog 177 177 197 4 48:=⟨underlying177,⟨_,underlying177⟩,by kernel_rfl⟩
def WS.nil (h:Sat R Hs w):Sat R (WS ⟨none,0,0⟩ []::Hs) w:=Sat.holdsL.2 ⟨[],rfl,Zn.nil h⟩
def ZkL {L:List Zw} {ts:List Sl} (hl:ts.length=L.length) (h:Zw) (t:Sl):XT (L++[h]) (ts++[t])=XT L ts++[Zdl h t]:=by
 unfold XT;rw [List.zip_append hl.symm,qe];rfl
def Zh0 {L:List Zw} {ts:List Sl} (hl:ts.length=L.length) (h:Zw) (t:Sl):Z6 (L++[h]) (ts++[t])=Z6 L ts++[Zv t (Zd h.seats)]:=by
 unfold Z6;rw [List.zip_append hl.symm,qe];rfl
def WS.snoc {s:Sl} {L:List Zw} {ts:List Sl} {h:Zw} {t:Sl} (hl:ts.length=L.length) (a:Sat R (Zn 4 s 197 (XT L ts++[Zdl h t])::Zv t (Zd h.seats)::(Z6 L ts++Hs)) w):Sat R (WS s (L++[h])::Hs) w:=by
 refine Sat.holdsL.2 ⟨ts++[t],by simp [hl],?_⟩;rw [ZkL hl,Zh0 hl,qn];exact a.cons λ _ d=>d.perm qY.symm
def ZiH {p:Nat} {f:PF} (Y:(f.hs.map (·.1)).Nodup) (S:∀ k∈f.hs.map (·.1),-1000000000<=k/\k<=1000000000) (U:f.hs.length<=100000) (C:∀ e∈f.hs,e.2.seats.length<=1000000) (o:Sat R (ZI p f::Hs) w):
  Zg prog 134 #[nP p] w λ v w'=>∃ t:Sl,v=.slice t.a t.len t.cap/\Sat R (WS t (Gn f)::ZI p f::Hs) w':=by
 obtain ⟨hm,om,sg,sl,ss,E,R',m,_,_,_,_,o,back⟩:=Sat.flightO o;have y:(Yd E).map (·.1)=f.hs.map (·.1):=by rw [<-m];simp [Yd,hEr,vc]
 have B:(Yd E).length=f.hs.length:=by rw [<-m];simp [Yd,hEr]
 apply Zt0;refine Zb.mk rfl ⟨some hm,oA o,?_⟩;refine Zge (es:=Yd E) (by rw [y];exact Y) (by rw [y];exact S) (by omega) (o.take (MapAt hm (Yd E))) λ sk w o=>?_;rw [y] at o;have V:(ZbC (f.hs.map (·.1))).length=f.hs.length:=by unfold ZbC;rw [zd,qa]
 have q:∀ k∈ZbC (f.hs.map (·.1)),k∈f.hs.map (·.1):=λ k hk=>List.mem_mergeSort.1 hk;unfold Gn;generalize ZbC (f.hs.map (·.1))=ks at *;obtain ⟨r,T,A,o⟩:=Own.leak o;have J:=A.len;rw [qa] at J;have M:RoI r sk ks:=A.ro;have o:=o.m1;refine ⟨λ out i w=>∃ j:Nat,i=j/\j<=ks.length/\Sat r (WS out ((ks.take j).map (Gp f))::FO p hm om sg sl ss E f Hs) w,λ _ i _=>ks.length - i.toNat,⟨0,rfl,by omega,WS.nil o⟩,?_⟩;clear o;rintro _ out _ w ⟨j,rfl,hj,o⟩;refine Br.d (λ h=>?_) (λ h=>?_)
 ·have D:j<ks.length:=by omega
  refine Ro.ix M (eqS o) j rfl D ?_;have F:(ZL ks[j] E).isSome=true:=by
   have W:=q ks[j] (qh _);rw [<-m,hEr,qZ] at W;obtain ⟨e,P,N⟩:=qm.1 W;have key:∀ (l:List HE),e∈l->(ZL ks[j] l).isSome=true:=λ l=>by
    induction l with
    |nil=>intro h;cases h
    |cons x l ih=>
     intro h;show (if ks[j]==x.1 then some x.2 else ZL ks[j] l).isSome=true
     split
     ·rfl
     ·rename_i K
      rcases qk.1 h with rfl|h
      ·exact absurd (jh.2 N.symm) K
      ·exact ih h
   exact key E P
  obtain ⟨⟨b,h⟩,u⟩:=qS.1 F;have O:Gp f ks[j]=h:=by unfold Gp;rw [<-m,Wr,u];rfl
  have Q:(ks.take (j + 1)).map (Gp f)=(ks.take j).map (Gp f)++[h]:=by
   rw [qp,List.getElem?_eq_getElem D,q9,qe,List.map_singleton,O]
  have h0:((ks.take j).map (Gp f)).length=j:=by rw [qa,qd];omega
  generalize (ks.take j).map (Gp f)=L at *;generalize ks[j]=k at *;obtain ⟨a,c,rfl,h2⟩:=YZ u;have hl:h.seats.length<=1000000:=C (k,h) (by rw [<-m,Ue];simp);refine Zb.mk rfl ⟨some hm,oA o,some ⟨b,0,none⟩,λ w' e=>?_,Zb.mk rfl ?_⟩
  ·rw [show w'=w from e,VV (o.take (MapAt hm (Yd (a++(k,b,h)::c)))) k false,u];rfl
  have o:=o.b4;obtain ⟨s,o⟩:=FO.open o;refine ⟨h.owner,h.cls,h.many,s,oA o,?_⟩;refine Za o λ n w o=>?_;have o:Sat r (pts n (YO ⟨0,0,0,[]⟩ ⟨none,0,0⟩)::FO1 p hm om b sg sl ss s (a++(k,b,h)::c) (a++c) f h f.own (WS out L::Hs)) w:=o;refine sRu o λ w o=>?_;have o:=o.re (pts n (YO h s));refine ⟨s,oA o,?_⟩;obtain ⟨R3,G,_,H,z⟩:=Own.lend (o.take (Own s 3 (Zd h.seats))) (by rw [qa];omega);refine (GP G (by omega) H).use ?_;clear o H;rintro _ w ⟨t,rfl,o⟩;have o:=z o;refine ⟨t,rfl,?_⟩;have o:=o.b3.m1;refine sRu o λ w o=>?_;have o:=o.re (pts n (YO h t));refine ⟨h.owner,h.cls,h.many,t,oA o,?_⟩;obtain ⟨ts,I,o⟩:=Sat.holdsL.1 (o.take (WS out L));have h3:=W7 I;refine UX (x:=Zdl h t) elH o rfl rfl (by omega) (by omega) λ X w o=>?_;rw [Zc];refine ⟨⟨j + 1,by omega,by omega,?_⟩,by dsimp only;omega⟩;rw [Q];have o:Sat r (Zn 4 X 197 (XT L ts++[Zdl h t])::(Z6 L ts++(Own t 3 (Zd h.seats)::pts n (YO h t)::FO1 p hm om b sg sl ss s (a++(k,b,h)::c) (a++c) f h f.own Hs))) w:=
   o.cons λ _ g=>g.perm (List.Perm.append_left _ (Arr.perm (Hs:=_) (Hs':=Own t 3 (Zd h.seats)::pts n (YO h t)::FO1 p hm om b sg sl ss s (a++(k,b,h)::c) (a++c) f h f.own Hs)))
  have o:Sat r (Zn 4 X 197 (XT L ts++[Zdl h t])::Zv t (Zd h.seats)::(Z6 L ts++(pts n (YO h t)::FO1 p hm om b sg sl ss s (a++(k,b,h)::c) (a++c) f h f.own Hs))) w:=
   o.cons λ _ g=>Own.reads (g.perm qY)
  have o:=WS.snoc I o;exact o.cons λ _ g=>FO.close (f:=f) g.drop
 ·rw [qg (by omega)] at o
  refine ⟨out,rfl,?_⟩;have o:=T.back o;have o:=back _ _ o;exact Sat.cons (λ _ g=>Sat.flightC m g) (o.take (WS out (ks.map (Gp f))))
def _root_.Go.VC.Sat.allTru {Hs:List HP}:∀ {R:Cx},Sat R Hs w->Sat R [VC.tru] w:=by
 induction Hs with
 |nil=>exact λ h=>h.tru
 |cons A Hs ih=>exact λ h=>Sat.absorb (h.cons λ _ h=>ih h)
def _root_.Go.VC.Sat.restTru2 {A:HP} (h:Sat R (A::Hs) w):Sat R [A,VC.tru] w:=h.cons λ _ h=>h.allTru
def _root_.Go.VC.MapAt.len {P:Program} {α:Type} [BEq α] [XW α] {m:Nat} {es:List (α × Value)} {T ty:TypeId} (hT:P.underlying T=some (.map (P.mapKeyOf T) (P.mapElemOf T))) (h:Sat R (MapAt m es::Hs) w):
  (Builtin.len_ #[T] ty #[.map (some m)]).run P w=.ok (nI es.length) w:=by
 obtain ⟨l,c,hs,a,d⟩:=MapAt.iff.1 h;rw [run_len_map w T ty m _ c hT d.at];subst hs;simp [goInt,Wj]
def Vr (l:List Int):List Int:=Zf [(l.length:Int)]++Zf l
def UB (h:Zw):List Int:=Zf [h.owner,h.cls,h.many]++Vr h.seats
def Yi (L:List Zw):List Int:=(L.map UB).flatten
def ZqD (num rows:Int) (grps lims:List Int) (L:List Zw):List Int:=Zf [num,rows]++Vr grps++Vr lims++Zf [(L.length:Int)]++Yi L
abbrev VH (l:List Int):Prop:=∀ x∈l,0<=x/\x<9223372036854775808
def Y9 {l:List Int} (h:VH l):∀ x∈l,0<=x/\x<18446744073709551616:=λ x a=>by have:=h x a;omega
def WD {l:List Int} (h:VH l) (hl:l.length<9223372036854775808):(Vr l).length<=9 * l.length + 9:=by
 unfold Vr;have d:=Zx (Y9 h);have o:(Zf [(l.length:Int)]).length<=9:=Zx (by intro y a;simp at a;omega);rw [qb];omega
def Zfc {l:List Int} (h:VH l) (hl:l.length<9223372036854775808):∀ y∈Vr l,0<=y/\y<256:=by
 unfold Vr;intro y a;rcases qt.1 a with a|a
 ·exact WX (by intro y a;simp at a;omega) y a
 ·exact WX (Y9 h) y a
structure ZbB (h:Zw):Prop where
 o:0<=h.owner/\h.owner<9223372036854775808
 c:0<=h.cls/\h.cls<9223372036854775808
 m:0<=h.many/\h.many<9223372036854775808
 s:VH h.seats
 n:h.seats.length<=1000
def ZbB.three {h:Zw} (a:ZbB h):VH [h.owner,h.cls,h.many]:=by
 intro x d;rcases qk.1 d with rfl|d
 ·exact a.o
 rcases qk.1 d with rfl|d
 ·exact a.c
 rw [qK.1 d];exact a.m
def ZnR {h:Zw} (a:ZbB h):(UB h).length<=9036:=by
 unfold UB;have d:(Zf [h.owner,h.cls,h.many]).length<=27:=Zx (Y9 a.three);have o:=WD a.s (by have:=a.n;omega);have:=a.n;rw [qb];omega
def ZpP {h:Zw} (a:ZbB h):∀ y∈UB h,0<=y/\y<256:=by
 unfold UB;intro y d;rcases qt.1 d with d|d
 ·exact WX (Y9 a.three) y d
 ·exact Zfc a.s (by have:=a.n;omega) y d
def U3:∀ {L:List Zw},(∀ h∈L,ZbB h)->(Yi L).length<=9036 * L.length
 |[],_=>jc _
 |h::L,a=>by
  have o:=ZnR (a h qq);have i:=U3 λ x d=>a x (qj _ d);show (UB h++Yi L).length<=_;rw [qb,qr];omega
def Zhi:∀ {L:List Zw},(∀ h∈L,ZbB h)->∀ y∈Yi L,0<=y/\y<256
 |[],_=>λ y d=>by cases d
 |h::L,a=>by
  intro y d;have d:y∈UB h++Yi L:=d;rcases qt.1 d with d|d
  ·exact ZpP (a h qq) y d
  ·exact Zhi (λ x o=>a x (qj _ o)) y d
def ZcW {L:List Zw} {j:Nat} (h:j<L.length):Yi (L.take (j + 1))=Yi (L.take j)++UB L[j]:=by
 unfold Yi;rw [qp,List.getElem?_eq_getElem h,qe,ja];simp only [q9,qi,jR,jt,zN,jl]
abbrev Zrl (pb:Nat):Value:=.func (.func 132) #[] #[nP pb]
abbrev Zjw (bp pb:Nat):HP:=pts bp (.cells [Zrl pb].toArray 113 (0,0))
def ZeZ {d o:Nat} {bs xs:List Int} {n:Nat} (z:n=xs.length) (i:VH xs) (hl:bs.length + 9 * xs.length<=1099511627776) (h:Sat R (pts d (.cells (xs.map (Value.int .i64)).toArray 3 (0,0))::Zex o bs::Hs) w):
  XP prog cl (Zrl o) [.slice (some ⟨d,0,none⟩) n n] w λ e w'=>e=xR (.tuple #[])/\Sat R (Zex o (bs++Zf xs)::Hs) w':=by
 refine XP.mk (by kernel_rfl) ?_;have h:=YL (n:=n) h (by rw [qa];exact z);obtain ⟨g,v,y,h,a⟩:=Own.lendI h (by omega);refine (Zhs (s:=⟨some ⟨d,0,none⟩,n,n⟩) i hl v h).u λ w h=>?_;exact ⟨rfl,(a h).drop⟩
def Zbc {z o:Nat} {s:Sl} {xs bs:List Int} (g:VH xs) (hl:bs.length + 9 * xs.length<=1000000000) (hs:RoI R s xs) (d:Sat R (Zjw z o::Zex o bs::Hs) w):
  Zg prog 133 #[.slice s.a s.len s.cap,nP z] w λ v w'=>v=.tuple #[]/\Sat R (Zjw z o::Zex o (bs++Vr xs)::Hs) w':=by
 have i:=hs.len;have l:(Zf [(xs.length:Int)]).length<=9:=Zx (by intro y j;simp at j;omega);apply Zt1;refine Zb.mk rfl ⟨Zrl o,oA d,?_⟩;rw [i];refine Za d λ k w d=>?_;have d:Sat R (pts k (.cells ([(xs.length:Int)].map (Value.int .i64)).toArray 3 (0,0))::Zex o bs::Zjw z o::Hs) w:=d.cons λ _ h=>h.swap;refine (ZeZ (n:=1) (by rfl) (by intro y j;simp at j;omega) (by simp;omega) d).mono ?_;rintro _ w ⟨rfl,d⟩;refine ⟨rfl,Zb.mk rfl ⟨Zrl o,oA d,XP.mk (by kernel_rfl) ?_⟩⟩;rw [<-i];refine (Zhs g (by rw [qb];omega) hs d).u λ w d=>?_;refine ⟨rfl,rfl,?_⟩;rw [qn] at d;exact d.swap
def HsR.row {s:Sl} {L:List Zw} {ts:List Sl} {S:xE} {k:Nat} (o:HsR R s L ts) (hS:∀ w,S w->Sat R Hs w) (hk:k<L.length) (h:k<ts.length) {F:Addr->Prop}
  (f:∀ a:Addr,At S (Addr.add a (YQ k 4)) (Zdl L[k] ts[k])->F a):Rng (k:Int) s.len (Zb s.a F):=by
 have hl:=W7 o.len;refine (o.rows.reads hS).rng (k:=k) (by omega) λ b off i d=>f _ ?_;rw [Zc8];refine d 0 _ ?_;rw [Zjq hk h];exact ⟨rfl,rfl,rfl,rfl,trivial⟩
def ZuE (f:PF):List Int:=ZqD f.num f.rows f.grps f.lims (Gn f)
def Zeg (f:PF):(Gn f).length=f.hs.length:=by unfold Gn ZbC;rw [qa,zd,qa]
structure ZqY (f:PF):Prop where
 num:0<=f.num/\f.num<9223372036854775808
 rows:0<=f.rows/\f.rows<9223372036854775808
 grps:VH f.grps
 lims:VH f.lims
 gl:f.grps.length<=1000
 ll:f.lims.length<=1000
 hs:∀ h∈Gn f,ZbB h
 hl:f.hs.length<=10000
def Zhu {p:Nat} {f:PF} (z:ZqY f) (U:(f.hs.map (·.1)).Nodup) (V:∀ k∈f.hs.map (·.1),-1000000000<=k/\k<=1000000000) (W:∀ e∈f.hs,e.2.seats.length<=1000000) (o:Sat R (ZI p f::Hs) w):
  Zg prog 64 #[nP p] w λ v w'=>∃ t:Sl,v=.slice t.a t.len t.cap/\Sat R (Own t 5 (b8 (ZuE f))::ZI p f::Hs) w':=by
 obtain ⟨hm,om,sg,sl,ss,E,R',N,ee,X,Y,_,o,back⟩:=Sat.flightO o;have rgo:RoI R' sg f.grps:=X.ro (by rw [qa];have:=z.gl;omega);have rlo:RoI R' sl f.lims:=Y.ro (by rw [qa];have:=z.ll;omega);have F:(Yd E).length=f.hs.length:=by rw [<-N];simp [Yd,hEr]
 apply ZvK
 suffices H:∀ K:Value->xE,(∀ (t:Sl) w',Sat R (Own t 5 (b8 (ZuE f))::ZI p f::Hs) w'->K (.slice t.a t.len t.cap) w')->B64 (some ⟨p,0,none⟩) K w from
  H _ λ t w' h=>⟨t,rfl,h⟩
 intro K hK;refine Za o λ u w o=>Za o λ g w o=>?_;have o:Sat R' (pts g (.cells [.nilFunc].toArray 113 (0,0))::lp u ⟨none,0,0⟩::FO p hm om sg sl ss E f Hs) w:=o;refine sRu o λ w o=>?_;have o:Sat R' (Zjw g u::lp u ⟨none,0,0⟩::FO p hm om sg sl ss E f Hs) w:=o;have o:Sat R' (Zex u []::Zjw g u::FO p hm om sg sl ss E f Hs) w:=Sat.outB.2 ⟨⟨none,0,0⟩,o.swap.cons λ _ h=>Own.nil h⟩;have l2:(Zf [f.num,f.rows]).length<=18:=Zx (by intro y m;have:=z.num;have:=z.rows;simp at m;omega);have lg:=WD z.grps (by have:=z.gl;omega);have ll:=WD z.lims (by have:=z.ll;omega);have l1:(Zf [(f.hs.length:Int)]).length<=9:=Zx (by intro y m;have:=z.hl;simp at m;omega);have:=z.gl;have:=z.ll;have:=z.hl;refine Zj (Sat R' [Zjw g u,pts p (Y2 f sg sl ss hm om),VC.tru]) o (λ w o=>?_) λ w o=>?_
 ·have o:=o.b2
  exact o.cons λ _ h=>h.restTru2
 refine ⟨Zrl u,oS,Zb.mk rfl ⟨f.num,by rw [Zs];exact oS,Zb.mk rfl ⟨f.rows,oS,?_⟩⟩⟩;refine Za o λ r w o=>⟨?_,?_⟩
 ·have o:Sat R' (Zjw g u::pts p (Y2 f sg sl ss hm om)::Zex u []::MapAt hm (Yd E)::MapAt om (WM f.own)::Yh E::Hs) w:=o.drop.arr
  exact o.cons λ _ h=>h.restTru2
 have o:Sat R' (pts r (.cells ([f.num,f.rows].map (Value.int .i64)).toArray 3 (0,0))::Zex u []::Zjw g u::FO p hm om sg sl ss E f Hs) w:=o;refine (ZeZ (n:=2) (by rfl) (by intro y m;have:=z.num;have:=z.rows;simp at m;omega) (by simp) o).mono ?_;rintro _ w ⟨rfl,o⟩;rw [jr] at o;refine ⟨rfl,?_,?_⟩
 ·have o:=o.b2
  exact o.cons λ _ h=>h.restTru2
 refine Zb.mk rfl ⟨sg,oA o,?_⟩;refine (Zbc z.grps (by omega) rgo o.swap).use ?_;rintro _ w ⟨rfl,o⟩;refine ⟨rfl,Zb.mk rfl ⟨sl,oA o,?_⟩⟩;refine (Zbc z.lims (by rw [qb];omega) rlo o).use ?_;rintro _ w ⟨rfl,o⟩;refine ⟨rfl,?_⟩;have S:(Zf [f.num,f.rows]++Vr f.grps++Vr f.lims).length<=20000:=by rw [qb,qb];omega
 have b:Zf [f.num,f.rows]++Vr f.grps++Vr f.lims++Zf [(f.hs.length:Int)]++Yi (Gn f)=ZuE f:=by
  unfold ZuE ZqD;rw [Zeg]
 generalize O:Zf [f.num,f.rows]++Vr f.grps++Vr f.lims=pre at *;refine Zj (Sat R' [Zjw g u,pts p (Y2 f sg sl ss hm om),MapAt hm (Yd E),VC.tru]) o (λ w o=>?_) λ w o=>?_
 ·have o:=o.m1.b3
  exact o.cons λ _ h=>h.cons λ _ h=>h.restTru2
 refine ⟨Zrl u,oS,Zb.mk rfl ⟨some hm,oS,f.hs.length,λ w' h=>?_,?_⟩⟩
 ·rw [<-F]
  exact MapAt.len (by kernel_rfl) (h.take (MapAt hm (Yd E)))
 refine Za o λ r w o=>⟨?_,?_⟩
 ·have o:Sat R' (Zjw g u::pts p (Y2 f sg sl ss hm om)::MapAt hm (Yd E)::Zex u pre::MapAt om (WM f.own)::Yh E::Hs) w:=o.drop.arr
  exact o.cons λ _ h=>h.cons λ _ h=>h.restTru2
 have o:Sat R' (pts r (.cells ([(f.hs.length:Int)].map (Value.int .i64)).toArray 3 (0,0))::Zex u pre::Zjw g u::FO p hm om sg sl ss E f Hs) w:=o.cons λ _ h=>h.swap;refine (ZeZ (n:=1) (by rfl) (by intro y m;simp at m;omega) (by simp;omega) o).mono ?_;rintro _ w ⟨rfl,o⟩;refine ⟨rfl,?_,?_⟩
 ·have o:=o.b3
  exact o.cons λ _ h=>h.cons λ _ h=>h.restTru2
 have o:=o.b5.b5;have o:=Sat.flightC N (back _ _ o);refine (ZiH U V (by omega) W o).use ?_;rintro _ w ⟨t,rfl,o⟩;refine ⟨t,rfl,?_⟩;have C:(pre++Zf [(f.hs.length:Int)]).length<=20010:=by rw [qb];omega
 generalize pre++Zf [(f.hs.length:Int)]=pre2 at *;have B:=Zeg f;have c:=z.hs;generalize Gn f=L at *;obtain ⟨G,ts,T,D,o⟩:=WS.leak o;have I:=D.len;have J:=D.rows.len;rw [W7 I] at J;refine ⟨λ i w=>∃ j:Nat,i=j/\j<=L.length/\Sat G (Zex u (pre2++Yi (L.take j))::Zjw g u::ZI p f::Hs) w,λ i _=>L.length - i.toNat,⟨0,rfl,by omega,?_⟩,?_⟩
 ·rw [show pre2++Yi (L.take 0)=pre2 by simp [Yi]]
  exact o.arr
 clear o;rintro _ _ w ⟨j,rfl,hj,o⟩;refine Br.d (λ h=>?_) (λ h=>?_)
 ·have q:j<L.length:=by omega
  have A:j<ts.length:=by omega
  have l:=c L[j] (qh _);have P:(Yi (L.take j)).length<=9036 * 10000:=by
   have:=U3 (L:=L.take j) λ x hx=>c x (qw hx);rw [qd] at this;have:min j L.length<=10000:=by omega
   omega
  have h3:(Zf [L[j].owner,L[j].cls,L[j].many]).length<=27:=Zx (Y9 l.three);have h0:=l.n;refine D.row (eqS o) q A λ a ha=>⟨L[j].owner,L[j].cls,L[j].many,ts[j],ha,?_⟩;refine Za o λ M w o=>?_;have o:Sat G (pts M (YO ⟨0,0,0,[]⟩ ⟨none,0,0⟩)::Zex u (pre2++Yi (L.take j))::Zjw g u::ZI p f::Hs) w:=o;refine sRu o λ w o=>?_;have o:=o.re (pts M (YO L[j] ts[j]));refine ⟨Zrl u,oA o,L[j].owner,oA o,L[j].cls,oA o,L[j].many,oA o,?_⟩;refine Za o λ r w o=>?_;have o:Sat G (pts r (.cells ([L[j].owner,L[j].cls,L[j].many].map (Value.int .i64)).toArray 3 (0,0))::Zex u (pre2++Yi (L.take j))::Zjw g u::pts M (YO L[j] ts[j])::ZI p f::Hs) w:=o.cons λ _ h=>h.arr;refine (ZeZ (n:=3) (by rfl) l.three (by rw [qb];simp;omega) o).mono ?_;rintro _ w ⟨rfl,o⟩;refine ⟨rfl,ts[j],oA o,?_⟩;refine (Zbc l.s (by rw [qb,qb];omega) ((D.seats j q A).ro) o.swap).use ?_;rintro _ w ⟨rfl,o⟩;refine ⟨rfl,?_⟩;rw [Zc];refine ⟨⟨j + 1,by omega,by omega,?_⟩,by dsimp only;omega⟩;rw [ZcW q,<-qn];unfold UB;rw [<-qn];have o:=o.m1.m2;exact o.drop
 ·rw [qg (by omega),b] at o
  have o:=T.back o;obtain ⟨Q,o⟩:=Sat.outB.1 o;refine ⟨Q,oA o,hK Q w ?_⟩;have o:=o.m2;exact o.drop.drop
end
section
open Go Go.VC Tryz
def Gq (k:Int):List Zw->Int
 |[]=>0
 |h::L=>(if h.cls=k then h.many else 0) + Gq k L
def Ya (n:Nat) (L:List Zw):List Int:=(List.range n).map λ (k:Nat)=>Gq (k:Int) L
def Zz (L:List Zw):List Int:=L.flatMap Zw.seats
def V2 (k:Int) (h:Zw) (L:List Zw):Gq k (h::L)=(if h.cls=k then h.many else 0) + Gq k L:=rfl
def Gc (k:Int):∀ A B:List Zw,Gq k (A++B)=Gq k A + Gq k B
 |[],B=>by simp [Gq]
 |h::A,B=>by simp only [qU,Gq,Gc k A B];omega
def V1 {k:Int} {A B:List Zw} (h:A.Perm B):Gq k A=Gq k B:=by
 induction h with
 |nil=>rfl
 |cons x _ ih=>simp only [Gq,ih]
 |swap x y l=>simp only [Gq];exact zD _ _ _
 |trans _ _ a b=>exact a.trans b
def YX (n:Nat) (L:List Zw):(Ya n L).length=n:=by simp [Ya]
def VP {n k:Nat} {L:List Zw} (h:k<(Ya n L).length):(Ya n L)[k]=Gq (k:Int) L:=by simp [Ya]
def XX {n k:Nat} {L:List Zw} (h:k<n):(Ya n L).getD k 0=Gq (k:Int) L:=by
 rw [List.getD_eq_getElem?_getD,List.getElem?_eq_getElem (by rw [YX];exact h),VP];rfl
def Zgf {n:Nat} {L L':List Zw} {c x:Int} (d:0<=c) (o:c<n) (h:Gq c L'=x) (a:∀ k:Nat,(k:Int)≠c->Gq (k:Int) L'=Gq (k:Int) L):(Ya n L).set c.toNat x=Ya n L':=by
 apply j0
 ·simp [Ya]
 ·intro i u v
  rw [vz];split
  ·rename_i e
   rw [VP];rw [<-h]
   congr 1
   omega
  ·rename_i e
   rw [VP,VP];exact (a i (by omega)).symm
def Ur {n:Nat} {h:Zw} {L L':List Zw} (p:L'.Perm (h::L)) (a:0<=h.cls) (d:h.cls<n):(Ya n L).set h.cls.toNat ((Ya n L).getD h.cls.toNat 0 + h.many)=Ya n L':=by
 refine Zgf a d ?_ λ k hk=>?_
 ·rw [XX (by omega),V1 p,show ((h.cls.toNat:Nat):Int)=h.cls by omega]
  rw [V2,qf rfl];omega
 ·rw [V1 p]
  show (if h.cls=(k:Int) then h.many else 0) + Gq (k:Int) L=_
  rw [qc (λ e=>hk e.symm)];omega
def Zmh {n:Nat} {h:Zw} {L L':List Zw} (p:L'.Perm (h::L)) (a:0<=h.cls) (d:h.cls<n):(Ya n L').set h.cls.toNat ((Ya n L').getD h.cls.toNat 0 - h.many)=Ya n L:=by
 refine Zgf a d ?_ λ k hk=>?_
 ·rw [XX (by omega),V1 p,show ((h.cls.toNat:Nat):Int)=h.cls by omega]
  show _=(if h.cls=h.cls then h.many else 0) + Gq h.cls L - h.many
  rw [qf rfl];omega
 ·rw [V1 p]
  show _=(if h.cls=(k:Int) then h.many else 0) + Gq (k:Int) L
  rw [qc (λ e=>hk e.symm)];omega
def Wc (o:Int):List Zw->Option Zw
 |[]=>none
 |h::L=>if h.owner=o then some h else Wc o L
def ZkA (o:Int) (h':Zw):List Zw->List Zw
 |[]=>[]
 |h::L=>if h.owner=o then h'::L else h::ZkA o h' L
def ZqE (o:Int):List Zw->List Zw
 |[]=>[]
 |h::L=>if h.owner=o then L else h::ZqE o L
def ZcU (h:Zw):List Zw->List Zw
 |[]=>[h]
 |x::L=>if x.owner<h.owner then x::ZcU h L else h::x::L
def Yv (o:Int) (h:Zw) (L:List Zw):Wc o (h::L)=if h.owner=o then some h else Wc o L:=rfl
def Vh {o:Int}:∀ {L:List Zw},Wc o L=none↔∀ h∈L,h.owner≠o
 |[]=>by simp [Wc]
 |h::L=>by
  rw [Yv];constructor
  ·intro e x a
   split at e
   ·cases e
   ·rename_i d
    rcases qk.1 a with rfl|a
    ·exact d
    ·exact Vh.1 e x a
  ·intro e
   rw [qc (e h qq)];exact Vh.2 λ x a=>e x (qj _ a)
def YB {o:Int} {h:Zw}:∀ {L:List Zw},Wc o L=some h->∃ A C,L=A++h::C/\Wc o A=none/\h.owner=o
 |[],e=>by cases e
 |x::L,e=>by
  rw [Yv] at e;split at e
  ·rename_i a;cases e;exact ⟨[],L,rfl,rfl,a⟩
  ·rename_i a
   obtain ⟨A,C,rfl,d,i⟩:=YB e;exact ⟨x::A,C,rfl,by rw [Yv,qc a];exact d,i⟩
def Zfq {o:Int} {h:Zw} {C:List Zw} (a:h.owner=o):∀ {A:List Zw},Wc o A=none->Wc o (A++h::C)=some h
 |[],_=>by show Wc o (h::C)=_;rw [Yv,qf a]
 |x::A,e=>by
  rw [Yv] at e;split at e
  ·cases e
  ·rename_i d
   show Wc o (x::(A++h::C))=_;rw [Yv,qc d];exact Zfq a e
def V9 {o:Int} {h h':Zw} {C:List Zw} (a:h.owner=o):∀ {A:List Zw},Wc o A=none->ZkA o h' (A++h::C)=A++h'::C
 |[],_=>by show ZkA o h' (h::C)=_;unfold ZkA;rw [qf a];rfl
 |x::A,e=>by
  rw [Yv] at e;split at e
  ·cases e
  ·rename_i d
   show ZkA o h' (x::(A++h::C))=_;unfold ZkA;rw [qc d,V9 a e];rfl
def ZbY {o:Int} {h:Zw} {C:List Zw} (a:h.owner=o):∀ {A:List Zw},Wc o A=none->ZqE o (A++h::C)=A++C
 |[],_=>by show ZqE o (h::C)=_;unfold ZqE;rw [qf a];rfl
 |x::A,e=>by
  rw [Yv] at e;split at e
  ·cases e
  ·rename_i d
   show ZqE o (x::(A++h::C))=_;unfold ZqE;rw [qc d,ZbY a e];rfl
def X2 {o:Int} {h:Zw} {C:List Zw} (a:h.owner=o):∀ {A:List Zw} (k:Nat),Wc o A=none->Va o (A++h::C) k=((k + A.length:Nat):Int)
 |[],k,_=>by show Va o (h::C) k=_;rw [Uc,qf a];simp
 |x::A,k,e=>by
  rw [Yv] at e;split at e
  ·cases e
  ·rename_i d
   show Va o (x::(A++h::C)) k=_;rw [Uc,qc d,X2 a (k + 1) e,qr]
   congr 1;omega
def Wn {o:Int}:∀ {L:List Zw} (k:Nat),Wc o L=none->Va o L k=-1
 |[],_,_=>rfl
 |x::L,k,e=>by
  rw [Yv] at e;split at e
  ·cases e
  ·rename_i h;rw [Uc,qc h];exact Wn (k + 1) e
def Wb (h:Zw):∀ L:List Zw,(ZcU h L).Perm (h::L)
 |[]=>jD _
 |x::L=>by
  unfold ZcU;split
  ·exact ((Wb h L).cons x).trans (List.Perm.swap _ _ _)
  ·exact jD _
def OwR (L:List Zw):Prop:=L.Pairwise λ a b=>a.owner<b.owner
def OwR.ne {L:List Zw} (h:OwR L):L.Pairwise λ a b=>a.owner≠b.owner:=h.imp λ h e=>by omega
def Zas {o:Int} {h:Zw}:∀ {L:List Zw},(L.Pairwise λ a b=>a.owner≠b.owner)->(Wc o L=some h↔h∈L/\h.owner=o)
 |[],_=>by simp [Wc]
 |x::L,u=>by
  obtain ⟨v,y⟩:=qC.1 u;rw [Yv];split
  ·rename_i d
   constructor
   ·intro e;cases e;exact ⟨qq,d⟩
   ·rintro ⟨hm,i⟩
    rcases qk.1 hm with rfl|hm
    ·rfl
    ·exact absurd (d.trans i.symm) (v h hm)
  ·rename_i d
   rw [Zas y];constructor
   ·rintro ⟨a,b⟩;exact ⟨qj _ a,b⟩
   ·rintro ⟨hm,i⟩
    rcases qk.1 hm with rfl|hm
    ·exact absurd i d
    ·exact ⟨hm,i⟩
def ZnV {o:Int} {A B:List Zw} (p:A.Perm B) (h:A.Pairwise λ a b=>a.owner≠b.owner):Wc o A=Wc o B:=by
 have h':B.Pairwise λ a b=>a.owner≠b.owner:=(p.pairwise_iff λ h=>h.symm).1 h;apply Option.ext;intro x;rw [Zas h,Zas h',p.mem_iff]
def Zhh {h:Zw}:∀ {L:List Zw},OwR L->Wc h.owner L=none->OwR (ZcU h L)
 |[],_,_=>by simp [OwR,ZcU]
 |x::L,i,o=>by
  obtain ⟨u,v⟩:=qC.1 i;rw [Yv] at o;split at o
  ·cases o
  rename_i z;unfold ZcU;split
  ·rename_i d
   refine qC.2 ⟨λ y a=>?_,Zhh v o⟩;rcases qk.1 ((Wb h L).mem_iff.1 a) with rfl|a
   ·exact d
   ·exact u y a
  ·rename_i d
   refine qC.2 ⟨λ y a=>?_,i⟩;rcases qk.1 a with rfl|a
   ·omega
   ·have:=u y a;omega
def Zro {A C:List Zw} {h h':Zw} (i:h'.owner=h.owner) (d:OwR (A++h::C)):OwR (A++h'::C):=by
 unfold OwR at *;rw [ji,qC] at *;refine ⟨d.1,⟨λ y v=>by rw [i];exact d.2.1.1 y v,d.2.1.2⟩,λ a u b o=>?_⟩;rcases qk.1 o with rfl|o
 ·rw [i];exact d.2.2 a u h qq
 ·exact d.2.2 a u b (qj _ o)
def Zrp {A C:List Zw} {h:Zw} (d:OwR (A++h::C)):OwR (A++C):=by
 unfold OwR at *;rw [ji,qC] at d;rw [ji];exact ⟨d.1,d.2.1.2,λ a o b i=>d.2.2 a o b (qj _ i)⟩
def RF.sold (r:RF):List Int:=Ya r.lims.length r.L
def Zy (r:RF) (owner cls many:Int):RF × Int:=
 if owner<1\/owner>28629151 then (r,1) else if (Wc owner r.L).isSome then (r,7)
 else if (YP r.lims r.sold cls many).2=0 then ({ r with L:=ZcU ⟨owner,cls,many,[]⟩ r.L },0) else (r,(YP r.lims r.sold cls many).2)
def Xg (r:RF) (owner:Int):RF × Int:=
 match Wc owner r.L with
 |none=>(r,2)
 |some _=>({ r with L:=ZqE owner r.L },0)
def ZR (r:RF) (owner:Int) (lab:ByteArray):RF × Int:=
 match Wc owner r.L with
 |none=>(r,2)
 |some h=>if (YG r.rows r.grps lab).2≠0 then (r,2) else if (h.seats.length:Int) >= h.many then (r,7)
  else if (YG r.rows r.grps lab).1∈Zz r.L then (r,3)
  else ({ r with L:=ZkA owner (h.put (YG r.rows r.grps lab).1) r.L },0)
def ZQ (r:RF) (owner:Int):RF × List ByteArray × Int:=
 match Wc owner r.L with
 |none=>(r,[],2)
 |some h=>if h.seats.length>0 then (r,[],7)
  else if (Z8 r.rows r.grps (Zz r.L) h.many).2=0 then ({ r with L:=ZkA owner { h with seats:=(Z8 r.rows r.grps (Zz r.L) h.many).1 } r.L },XD r.rows r.grps (Z8 r.rows r.grps (Zz r.L) h.many).1,0)
  else (r,[],(Z8 r.rows r.grps (Zz r.L) h.many).2)
def YD (r:RF) (owner:Int):List ByteArray:=match Wc owner r.L with|none=>[]|some h=>XD r.rows r.grps h.seats
def Zr (r:RF):List Int:=(List.range r.lims.length).map λ (k:Nat)=>(Xb r.lims r.sold k).1
structure ZqX (n:Nat) (N:Int) (h:Zw):Prop where
 owner:1<=h.owner/\h.owner<=28629151
 cls:0<=h.cls/\h.cls<n
 many:1<=h.many
 rise:ZlO h.seats
 few:(h.seats.length:Int)<=h.many
 seats:∀ x∈h.seats,0<=x/\x<N
structure Y5 (r:RF):Prop where
 num:1<=r.num/\r.num<=9999
 lay:VK r.rows r.grps=true
 nest:Yc r.lims r.sold=true
 l0:r.lims.getD 0 0=YN r.rows r.grps
 rise:OwR r.L
 each:∀ h∈r.L,ZqX r.lims.length (YN r.rows r.grps) h
 apart:r.L.Pairwise λ a b=>∀ x∈a.seats,x ∉ b.seats
structure Tie (f:PF) (r:RF):Prop where
 num:f.num=r.num
 rows:f.rows=r.rows
 grps:f.grps=r.grps
 lims:f.lims=r.lims
 sold:f.sold=r.sold
 hs:(f.hs.map (·.2)).Perm r.L
 key:∀ e∈f.hs,e.2.owner=e.1
 own:∀ n o,ZL n f.own=some o↔∃ h∈r.L,h.owner=o/\n∈h.seats
 nod:(f.own.map (·.1)).Nodup
def Zjh {o:Int}:∀ {hs:List (Int × Zw)},(∀ e∈hs,e.2.owner=e.1)->ZL o hs=Wc o (hs.map (·.2))
 |[],_=>rfl
 |e::hs,h=>by
  have d:=h e qq;have ih:=Zjh (o:=o) λ x i=>h x (qj _ i);rw [qi,Yv,d,<-ih];show (if o==e.1 then some e.2 else ZL o hs)=_
  by_cases a:e.1=o
  ·rw [qf a,qf (by rw [a];exact uR o)]
  ·rw [qc a,qc (by rw [jh];exact λ e'=>a e'.symm)]
variable {f:PF} {r:RF}
def Tie.ne (t:Tie f r) (g:OwR r.L):(f.hs.map (·.2)).Pairwise λ a b=>a.owner≠b.owner:=(t.hs.pairwise_iff λ h=>h.symm).2 g.ne
def Tie.get (t:Tie f r) (g:OwR r.L) (o:Int):ZL o f.hs=Wc o r.L:=by
 rw [Zjh t.key,ZnV t.hs (t.ne g)]
def Tie.taken (t:Tie f r) (n:Int):(ZL n f.own).isSome=true↔n∈Zz r.L:=by
 unfold Zz;rw [zO,qS];constructor
 ·rintro ⟨o,h⟩
  obtain ⟨x,a,_,d⟩:=(t.own n o).1 h;exact ⟨x,a,d⟩
 ·rintro ⟨x,a,d⟩
  exact ⟨x.owner,(t.own n x.owner).2 ⟨x,a,rfl,d⟩⟩
end
end Go.Proofs.YtlplemdmegpoeaaGreatDoor
