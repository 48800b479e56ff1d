/- Package queue: Add, Remove, First, All. Condition: a bound on the length. -/
import Derived.Test.YtlplemdmegpoeaaGreatDoorB5
import Derived.Lib.Bytealg
import Derived.Test.YtlplemdmegpoeaaGreatDoorB3
import Derived.SizedLaws
set_option linter.unusedVariables false
set_option linter.unusedSimpArgs false
set_option maxHeartbeats 8000000
namespace Go.Proofs.YtlplemdmegpoeaaGreatDoor
section
open Go Go.VC Tryz
open Classical
variable {R:Cx} {Hs Rest:List HP} {w:World}
theorem Zv2 {q:List Wt} (h:QSt q) {i j:Nat} (hij:i<j) (hj:j<q.length):q[i].ahead q[j]=true:=List.pairwise_iff_getElem.1 h i j (by omega) hj hij
theorem ZlG {s:Sl} {l:List Wt} {x:Wt} (hl:l.length<=1000000000) (hst:QSt l) (hw:Sat R (Zs 5 s wtT (l.map wtV)::Hs) w):
  Zm prog 171 #[.slice s.a s.len s.cap,wtA x,.func (.func 172) #[] #[]] w λ v w'=>(∃ (p:Nat) (b:Bool),v=.tuple #[nI p,.bool b]/\p<=l.length/\(∀ k (h:k<l.length),k<p->l[k].ahead x=true)/\(∀ k (h:k<l.length),p<=k->l[k].ahead x=false))/\Sat R (Zs 5 s wtT (l.map wtV)::Hs) w':=by
 have hlen:=Zs.len hw;rw [List.length_map] at hlen;apply Zzc;refine Za hw λ b w hw=>?_;have ordC:∀ (y:Wt) w,Sat R (Zs 5 s wtT (l.map wtV)::wtC b x::Hs) w->Zbq prog cl (.func (.func 172) #[] #[]) [wtA y,wtA x] w (λ e w'=>e=.returned (nI (y.ord x))/\Sat R (Zs 5 s wtT (l.map wtV)::wtC b x::Hs) w'):=λ y w hw=>Zbq.mk (by kernel_rfl) ((ZpJ hw).use λ v w' h=>⟨by rw [h.1],h.2⟩);have hw:Sat R (Zs 5 s wtT (l.map wtV)::wtC b x::Hs) w:=Sat.swap hw;refine ⟨λ i j w=>∃ a b':Nat,i=a/\j=b'/\a<=b'/\b'<=l.length/\(∀ k (h:k<l.length),k<a->l[k].ahead x=true)/\(∀ k (h:k<l.length),b'<=k->l[k].ahead x=false)/\Sat R (Zs 5 s wtT (l.map wtV)::wtC b x::Hs) w,λ i j _=>(j - i).toNat,⟨0,l.length,rfl,by omega,by omega,by omega,λ k _ hk=>by omega,λ k h hk=>by omega,hw⟩,?_⟩;clear hw;rintro _ _ _ w ⟨a,c,rfl,rfl,hac,hc,h1,h2,hw⟩;refine Br.d (λ h=>?_) (λ h=>?_)
 ·refine Zo hw λ w hw=>?_
  rw [ZsR (by omega)];have hm:(a + c) / 2<l.length:=by omega
  refine (Zs.reads (S:=Sat R (Zs 5 s wtT (l.map wtV)::wtC b x::Hs)) hw (λ _ h=>h)).rngM (E:=l) (g:=wtV) hm λ ad _ he=>?_;refine ⟨_,_,_,_,_,he.z (by exact ⟨rfl,rfl,rfl,rfl,rfl,trivial⟩),x.id,x.cls,x.many,x.time,x.sc,oS,?_⟩;refine (ordC l[(a + c) / 2] _ hw).mono ?_;clear hw;rintro _ w ⟨rfl,hw⟩;refine ⟨_,rfl,Br.d (λ h3=>?_) (λ h3=>?_)⟩
  ·have ha:=Zr9.1 h3
   rw [show wI ((((a + c) / 2:Nat):Int) + 1)=(((a + c) / 2 + 1:Nat):Int) from Zf]
   refine ⟨⟨(a + c) / 2 + 1,c,rfl,rfl,by omega,hc,λ k hk hk2=>?_,h2,hw⟩,by dsimp only;omega⟩;by_cases hkm:k=(a + c) / 2
   ·subst hkm;exact ha
   ·exact ZdU (Zv2 hst (show k<(a + c) / 2 by omega) hm) ha
  ·have ha:l[(a + c) / 2].ahead x=false:=by
    rw [<-Bool.not_eq_true];exact λ h=>h3 (Zr9.2 h)
   refine ⟨⟨a,(a + c) / 2,rfl,rfl,by omega,by omega,h1,λ k hk hk2=>?_,hw⟩,by dsimp only;omega⟩;by_cases hkm:k=(a + c) / 2
   ·subst hkm;exact ha
   ·rw [<-Bool.not_eq_true] at ha ⊢
    exact λ h=>ha (ZdU (Zv2 hst (show (a + c) / 2<k by omega) hk) h)
 ·obtain rfl:a=c:=by omega
  have fin:∀ (t:Bool) w,Sat R (Zs 5 s wtT (l.map wtV)::wtC b x::Hs) w->(∃ (p:Nat) (b:Bool),Value.tuple #[nI a,.bool t]=.tuple #[nI p,.bool b]/\p<=l.length/\(∀ k (h:k<l.length),k<p->l[k].ahead x=true)/\(∀ k (h:k<l.length),p<=k->l[k].ahead x=false))/\Sat R (Zs 5 s wtT (l.map wtV)::Hs) w:=λ t w hw=>⟨⟨a,t,rfl,hc,h1,h2⟩,hw.cons λ _ h=>h.drop⟩;refine Zo hw λ w hw=>?_;refine Br.d (λ h3=>?_) (λ h3=>fin _ _ hw);have ha:a<l.length:=by omega
  refine (Zs.reads (S:=Sat R (Zs 5 s wtT (l.map wtV)::wtC b x::Hs)) hw (λ _ h=>h)).rngM (E:=l) (g:=wtV) ha λ ad _ he=>?_;refine ⟨_,_,_,_,_,he.z (by exact ⟨rfl,rfl,rfl,rfl,rfl,trivial⟩),x.id,x.cls,x.many,x.time,x.sc,oS,?_⟩;refine (ordC l[a] _ hw).mono ?_;clear hw;rintro _ w ⟨rfl,hw⟩;exact ⟨_,rfl,fin _ _ hw⟩
theorem ZsQ {l:List Wt} {id:Int} {k:Nat} (hk:k<l.length) (h1:l[k].id=id) (h2:Ze7 id (l.take k)=false):Ze7 id l=true/\Zig id l=l.take k++l.drop (k + 1):=by
 induction l generalizing k with
 |nil=>simp at hk
 |cons w l ih=>
  cases k with
  |zero=>
   have h1:w.id=id:=h1;refine ⟨by simp [Ze7,h1],?_⟩;show (if w.id=id then l else _)=_
   rw [if_pos h1];simp
  |succ k=>
   rw [List.take_succ_cons] at h2;have h3:¬ w.id=id/\Ze7 id (l.take k)=false:=by simpa [Ze7] using h2
   obtain ⟨a1,a2⟩:=ih (by simpa using hk) (by simpa using h1) h3.2;refine ⟨by simp only [Ze7,List.any_cons];rw [show l.any _=true from a1];simp,?_⟩
   show (if w.id=id then _ else w::Zig id l)=_
   rw [if_neg h3.1,a2];simp
theorem ZgW {q:Nat} {l:List Wt} {id:Int} (hl:l.length<=1000000000) (hw:Sat R (ZR q l::Hs) w):
  Zm prog 105 #[nP q,nI id] w λ v w'=>v=nI (Zv3 l id).2/\Sat R (ZR q (Zv3 l id).1::Hs) w':=by
 apply ZzP;refine (ZhN hl hw).use ?_;clear hw;rintro _ w ⟨⟨i,rfl,hi⟩,hw⟩;refine ⟨i,rfl,Br.d (λ h=>?_) (λ h=>?_)⟩
 ·rcases hi with ⟨_,h1⟩|⟨k,rfl,_⟩
  ·unfold Zv3
   rw [h1];exact ⟨rfl,hw⟩
  ·omega
 rcases hi with ⟨h1,_⟩|⟨k,rfl,hk,h1,h2⟩
 ·omega
 obtain ⟨a1,a2⟩:=ZsQ hk h1 h2;unfold Zv3;rw [a1,if_pos rfl,a2];obtain ⟨s,hw⟩:=Sat.qu.1 hw;refine Zc.mk rfl ⟨s,oA hw,?_⟩;rw [show wI ((k:Int) + 1)=((k + 1:Nat):Int) from Zf]
 refine (ZlI hl hk hw.swap).u1 λ t w hw=>?_;refine ⟨t,rfl,Zc.mk rfl ?_⟩;refine sRu hw.swap λ w hw=>?_;have hw:=hw.re (pts q (Zay t));exact ⟨rfl,Sat.qu.2 ⟨t,hw⟩⟩
theorem ZrS {q:Nat} {l:List Wt} {x:Wt} (hq:QOk l) (hw:Sat R (ZR q l::Hs) w):
  Zm prog 102 #[nP q,wtA x] w λ v w'=>v=nI (ZcL l x).2/\Sat R (ZR q (ZcL l x).1::Hs) w':=by
 have hl:l.length<=1000000000:=by have:=hq.len;omega
 apply ZzS;refine Za hw λ b1 w hw=>?_;have hw:Sat R (wtD b1 x::ZR q l::Hs) w:=hw;refine ⟨x.id,x.cls,x.many,x.time,x.sc,oA hw,?_⟩;refine Za hw λ b2 w hw=>?_;refine sRu hw λ w hw=>?_;have hw:=hw.re (wtC b2 x);refine ⟨x.id,x.cls,x.many,x.time,x.sc,oA hw,?_⟩;refine (Zm4 hw).u λ w hw=>?_;refine ⟨_,rfl,Br.nd (λ h=>?_) (λ hok=>?_)⟩
 ·unfold ZcL
  rw [if_pos h];exact ⟨rfl,hw.drop.drop⟩
 refine ⟨x.id,oA hw,?_⟩;have hw:Sat R (ZR q l::wtC b2 x::wtD b1 x::Hs) w:=hw.arr;refine (ZhN hl hw).use ?_;clear hw;rintro _ w ⟨⟨i,rfl,hi⟩,hw⟩;have close:∀ {w l},Sat R (ZR q l::wtC b2 x::wtD b1 x::Hs) w->Sat R (ZR q l::Hs) w:=λ h=>h.cons λ _ h=>h.drop.drop;refine ⟨i,rfl,Br.d (λ h=>?_) (λ h=>?_)⟩
 ·rcases hi with ⟨h1,_⟩|⟨k,rfl,hk,h1,h2⟩
  ·omega
  unfold ZcL;rw [if_neg (λ h=>h hok),if_pos (ZsQ hk h1 h2).1];exact ⟨rfl,close hw⟩
 have hno:Ze7 x.id l=false:=by
  rcases hi with ⟨_,h1⟩|⟨k,rfl,_⟩
  ·exact h1
  ·omega
 obtain ⟨s,hw⟩:=Sat.qu.1 hw;have hlen:=Zs.len hw.swap;rw [List.length_map] at hlen;refine Zc.mk rfl ⟨s,oA hw,Br.d (λ h3=>?_) (λ h3=>?_)⟩
 ·unfold ZcL
  rw [if_neg (λ h=>h hok),hno,if_neg (by simp),if_pos (by omega)];exact ⟨rfl,close (Sat.qu.2 ⟨s,hw⟩)⟩
 have hadd:ZcL l x=(ZgA x l,0):=by
  unfold ZcL;rw [if_neg (λ h=>h hok),hno,if_neg (by simp),if_neg (by omega)]
 rw [hadd];refine Zo hw λ w hw=>Zc.mk rfl ?_;refine ⟨s,oS,x.id,x.cls,x.many,x.time,x.sc,oS,?_⟩;refine (ZlG hl hq.st hw.swap).use ?_;clear hw;rintro _ w ⟨⟨p,fb,rfl,hp,h1,h2⟩,hw⟩;refine ⟨_,_,rfl,?_⟩;refine ZC (Sat R [pts q (Zay s),wtC b2 x,VC.tru]) hw (λ w hw=>?_) λ w hw=>?_
 ·exact (hw.arr (Hs':=pts q (Zay s)::wtC b2 x::Zs 5 s wtT (l.map wtV)::wtD b1 x::Hs)).cons λ _ h=>h.restTru2
 refine Zc.mk rfl ⟨s,oS,x.id,x.cls,x.many,x.time,x.sc,oS,?_⟩;refine Za hw λ b3 w hw=>?_;have hw:Sat R (wtC b3 x::Zs 5 s wtT (l.map wtV)::pts q (Zay s)::wtC b2 x::wtD b1 x::Hs) w:=hw;refine ⟨?_,?_⟩
 ·exact (hw.arr (Hs':=pts q (Zay s)::wtC b2 x::Zs 5 s wtT (l.map wtV)::wtD b1 x::wtC b3 x::Hs)).cons λ _ h=>h.restTru2
 refine (ZlH hl hp hw.swap).u1 λ t w hw=>?_;refine ⟨t,rfl,?_,Zc.mk rfl ?_⟩
 ·exact (hw.arr (Hs':=pts q (Zay s)::wtC b2 x::Zs 5 t wtT ((l.take p++x::l.drop p).map wtV)::wtD b1 x::wtC b3 x::Hs)).cons λ _ h=>h.restTru2
 have hw:Sat R (pts q (Zay s)::Zs 5 t wtT ((l.take p++x::l.drop p).map wtV)::wtC b2 x::wtD b1 x::wtC b3 x::Hs) w:=hw.arr;refine sRu hw λ w hw=>?_;have hw:=hw.re (pts q (Zay t));have e:ZgA x l=l.take p++x::l.drop p:=by
  refine Zxx hq.st ?_ (λ h=>h2 p h (Nat.le_refl _)) hp;by_cases h0:p=0
  ·exact .inl h0
  ·exact .inr ⟨by omega,h1 (p - 1) (by omega) (by omega)⟩
 rw [e];exact ⟨rfl,Sat.qu.2 ⟨t,hw.cons λ _ h=>h.cons λ _ h=>h.drop.drop.drop⟩⟩
end
end Go.Proofs.YtlplemdmegpoeaaGreatDoor
namespace Go.VC
section
variable {R:Cx} {Hs:List HP} {w:World}
theorem ZAP {s:ByteArray} {i:Nat} (h:(s.get! i).toNat<128):Utf8.decode s i=((s.get! i).toNat,1):=by
 unfold Utf8.decode;simp only [Nat.add_zero];rw [if_pos h]
theorem ZAQ {s:ByteArray} {i:Nat} (h:¬ (s.get! i).toNat<128):128<=(Utf8.decode s i).1:=by
 unfold Utf8.decode;simp only [Nat.add_zero];rw [if_neg h];have hr:128<=Utf8.runeError:=by decide
 repeat' split
 all_goals first|exact hr|(rename_i h1;simp only [Bool.and_eq_true,decide_eq_true_eq] at h1;dsimp only;omega)|(rename_i h1;dsimp only;omega)
theorem ZtA {s:ByteArray} {i:Nat} (h:i<s.size):((s.get! i).toNat:Int)=(ZX s)[i]'(by rw [Zak];exact h):=by
 have h2:i<s.data.toList.length:=by simpa using h
 have e:s.get! i=s.data.toList[i]:=by
  show s.data[i]! =_;rw [getElem!_pos s.data i (by simpa using h2)];simp
 rw [e];simp [ZX]
theorem ZpQ {b:Nat} {s:ByteArray} {pos:Nat} {A:Int->Int->World->Prop} {B:World->Prop} (hw:Sat R (pts b (.stringIter s pos)::Hs) w)
  (h1:pos<s.size->∀ w',Sat R (pts b (.stringIter s (pos + (Utf8.decode s pos).2))::Hs) w'->A (pos:Int) ((Utf8.decode s pos).1:Int) w') (h2:¬ pos<s.size->B w):ZvO (some ⟨b,0,none⟩) A B w:=
 ⟨b,s,pos,rfl,hw.at,λ h=>h1 h _ (hw.setPts (.stringIter s (pos + (Utf8.decode s pos).2))),h2⟩
def ZjK (b:Nat) (w:World):Nat:=match w.heap[b]? with
 |some (.stringIter s pos)=>s.size - pos
 |_=>0
theorem Zgn {b:Nat} {s:ByteArray} {pos:Nat} (hw:Sat R (pts b (.stringIter s pos)::Hs) w):ZjK b w=s.size - pos:=by
 unfold ZjK;rw [hw.at]
end
end Go.VC
namespace Go.Proofs.YtlplemdmegpoeaaGreatDoor
section
open Go Go.VC Tryz
open Classical
variable {R:Cx} {Hs Rest:List HP} {w:World}
theorem Zm5 {l:List Wt} {left:List Int} {j:Nat} (hj:j<l.length) (h:(l.take j).any (ZdT left)=false) (hf:ZdT left l[j]=true):ZaD l left=some l[j]:=by
 unfold ZaD;rw [List.find?_eq_some_iff_append];refine ⟨hf,l.take j,l.drop (j + 1),by rw [<-List.drop_eq_getElem_cons hj,List.take_append_drop],λ x hx=>?_⟩;rw [<-Bool.not_eq_true,List.any_eq_true] at h;cases hx2:ZdT left x with
 |false=>rfl
 |true=>exact absurd ⟨x,hx,hx2⟩ h
theorem ZpD {l:List Wt} {left:List Int} (h:l.any (ZdT left)=false):ZaD l left=none:=by
 unfold ZaD;rw [List.find?_eq_none];intro x hx hx2;rw [<-Bool.not_eq_true,List.any_eq_true] at h;exact h ⟨x,hx,hx2⟩
theorem Zs1 {left:List Int} {x:Wt} (h:¬ (x.cls<left.length/\x.many<=left.getD x.cls.toNat 0)):ZdT left x=false:=by
 unfold ZdT;rw [<-Bool.not_eq_true,Bool.and_eq_true,decide_eq_true_iff,decide_eq_true_iff];exact h
def Zbe:Wt:=⟨0,0,0,0,0⟩
theorem Zm6 {q:Nat} {l:List Wt} {sl:Sl} {left:List Int} (hq:QOk l) (hL:RoI R sl left) (hw:Sat R (ZR q l::Hs) w):
  Zm prog 174 #[nP q,.slice sl.a sl.len sl.cap] w λ v w'=>v=.tuple #[wtA ((ZaD l left).getD Zbe),.bool (ZaD l left).isSome]/\Sat R (ZR q l::Hs) w':=by
 have hl:l.length<=1000000000:=by have:=hq.len;omega
 have hLl:=hL.len;obtain ⟨s,hw⟩:=Sat.qu.1 hw;apply Zy9;refine Za hw λ b w hw=>?_;have hw:Sat R (Zs 5 s wtT (l.map wtV)::pts q (Zay s)::wtD b Zbe::Hs) w:=by
  have hw:Sat R (wtD b Zbe::pts q (Zay s)::Zs 5 s wtT (l.map wtV)::Hs) w:=hw;exact hw.arr
 have hlen:=Zs.len hw;rw [List.length_map] at hlen;refine Zc.mk rfl ⟨s,oA hw,?_⟩;have close:∀ {w x},Sat R (Zs 5 s wtT (l.map wtV)::pts q (Zay s)::wtD b x::Hs) w->Sat R (ZR q l::Hs) w:=λ {w x} h=>by
  have h:Sat R (pts q (Zay s)::Zs 5 s wtT (l.map wtV)::wtD b x::Hs) w:=h.swap;exact Sat.qu.2 ⟨s,h.cons λ _ h=>h.cons λ _ h=>h.drop⟩
 refine ⟨λ i w=>∃ j:Nat,i=j/\j<=l.length/\(l.take j).any (ZdT left)=false/\Sat R (Zs 5 s wtT (l.map wtV)::pts q (Zay s)::wtD b Zbe::Hs) w,λ i _=>l.length - i.toNat,⟨0,rfl,by omega,by simp,hw⟩,?_⟩;clear hw;rintro _ _ w ⟨j,rfl,hj,hn,hw⟩;refine Br.d (λ h=>?_) (λ h=>?_)
 ·have hj2:j<l.length:=by omega
  have hx:=hq.ok l[j] (List.getElem_mem hj2);have next:ZdT left l[j]=false->(l.take (j + 1)).any (ZdT left)=false:=λ h=>by
   rw [List.take_add_one,List.getElem?_eq_getElem hj2,List.any_append,hn];simp [h]
  rw [Zf (x:=(j:Int) + 1)];refine (Zs.reads hw (eqS hw)).rngM (E:=l) (g:=wtV) hj2 λ a _ he=>?_;refine ⟨_,_,_,_,_,he.z (by exact ⟨rfl,rfl,rfl,rfl,rfl,trivial⟩),?_⟩;refine Za hw λ b2 w hw=>?_;refine sRu hw λ w hw=>?_;have hw:=hw.re (wtC b2 l[j]);refine Zo hw λ w hw=>?_;refine ⟨l[j].cls,oS,Br.d (λ h1=>?_) (λ h1=>⟨⟨j + 1,by omega,by omega,next (Zs1 λ h=>h1 (by omega)),hw.drop⟩,by dsimp only;omega⟩)⟩;have hc:l[j].cls=(l[j].cls.toNat:Int):=by have:=hx.2.1.1;omega
  have hc2:l[j].cls.toNat<left.length:=by omega
  refine ⟨l[j].many,oS,l[j].cls,oS,?_⟩;refine Ro.ix hL (λ _ h=>h) l[j].cls.toNat hc hc2 ?_;refine Br.d (λ h2=>?_) (λ h2=>⟨⟨j + 1,by omega,by omega,next (Zs1 λ h=>h2 ?_),hw.drop⟩,by dsimp only;omega⟩)
  ·have hf:ZdT left l[j]=true:=by
    unfold ZdT;rw [Bool.and_eq_true,decide_eq_true_iff,decide_eq_true_iff];refine ⟨by omega,?_⟩;rw [List.getD_eq_getElem?_getD,List.getElem?_eq_getElem hc2];exact h2
   refine ⟨l[j].id,l[j].cls,l[j].many,l[j].time,l[j].sc,oA hw,?_⟩;have hw:Sat R (wtD b Zbe::wtC b2 l[j]::Zs 5 s wtT (l.map wtV)::pts q (Zay s)::Hs) w:=hw.arr;refine ZZ hw (by kernel_rfl) rfl (by simp [Value.cells,wtV]) λ w hw=>?_;have hw:=hw.re (wtD b l[j]);refine ⟨l[j].id,l[j].cls,l[j].many,l[j].time,l[j].sc,oA hw,?_⟩;have hw:Sat R (wtC b2 l[j]::Zs 5 s wtT (l.map wtV)::pts q (Zay s)::wtD b l[j]::Hs) w:=hw.arr;rw [Zm5 hj2 hn hf];exact ⟨rfl,close hw.drop⟩
  ·have:=h.2
   rwa [List.getD_eq_getElem?_getD,List.getElem?_eq_getElem hc2] at this
 ·rw [List.take_of_length_le (by omega)] at hn
  have hw:Sat R (wtD b Zbe::Zs 5 s wtT (l.map wtV)::pts q (Zay s)::Hs) w:=hw.arr;refine ZZ hw (by kernel_rfl) rfl (by simp [Value.cells,wtV]) λ w hw=>?_;have hw:=hw.re (wtD b Zbe);refine ⟨0,0,0,0,0,oA hw,?_⟩;rw [ZpD hn];have hw:Sat R (Zs 5 s wtT (l.map wtV)::pts q (Zay s)::wtD b Zbe::Hs) w:=hw.arr;exact ⟨rfl,close hw⟩
theorem ZBY:ElN prog 100 100 168 5 40:=⟨underlying100,⟨_,underlying100⟩,by kernel_rfl⟩
theorem ZrR {q:Nat} {l:List Wt} (hl:l.length<=1000000000) (hw:Sat R (ZR q l::Hs) w):
  Zm prog 56 #[nP q] w λ v w'=>∃ t:Sl,v=.slice t.a t.len t.cap/\Sat R (Zs 5 t 168 (l.map wtV)::ZR q l::Hs) w':=by
 obtain ⟨s,hw⟩:=Sat.qu.1 hw;apply ZBl;refine Zc.mk rfl ⟨s,oA hw,?_⟩;have hlen:=Zs.len hw.swap;rw [List.length_map] at hlen;refine ⟨λ t i w=>∃ j:Nat,i=j/\j<=l.length/\Sat R (Zs 5 t 168 ((l.take j).map wtV)::Zs 5 s wtT (l.map wtV)::pts q (Zay s)::Hs) w,λ _ i _=>l.length - i.toNat,⟨0,rfl,by omega,Zs.nil hw.swap⟩,?_⟩;clear hw;rintro _ t _ w ⟨j,rfl,hj,hw⟩;refine Br.d (λ h=>?_) (λ h=>?_)
 ·have hj2:j<l.length:=by omega
  have hw2:=hw.swap;refine (Zs.reads hw2 (S:=λ w'=>w'=w) (Hs':=Zs 5 t 168 ((l.take j).map wtV)::pts q (Zay s)::Hs) (λ w' e=>by rw [e];exact hw2)).rngM (E:=l) (g:=wtV) hj2 λ a _ he=>?_;refine ⟨_,_,_,_,_,he.z (by exact ⟨rfl,rfl,rfl,rfl,rfl,trivial⟩),?_⟩;refine Za hw λ b2 w hw=>?_;refine sRu hw λ w hw=>?_;have hw:=hw.re (wtC b2 l[j]);refine ⟨l[j].id,l[j].cls,l[j].many,l[j].time,l[j].sc,oA hw,?_⟩;have hw:=hw.drop;refine Zgv (x:=wtV l[j]) ZBY hw rfl rfl (by rw [List.length_map,List.length_take];omega) (by rw [List.length_map,List.length_take];omega) λ t2 w hw=>⟨?_,?_⟩
  ·refine ⟨j + 1,Zf,by omega,?_⟩
   rw [List.take_add_one,List.getElem?_eq_getElem hj2,List.map_append];exact hw
  ·rw [Zf (x:=(j:Int) + 1)]
   dsimp only;omega
 ·rw [List.take_of_length_le (by omega)] at hw
  exact ⟨t,rfl,hw.cons λ _ h=>Sat.qu.2 ⟨s,h.swap⟩⟩
theorem Zxt : (f285.name == "runtime.NumGoroutine") = false := by kernel_rfl
theorem Zxv:f285.body.isNone=true:=by kernel_rfl
theorem Zxs:Extern.findNext f285=none:=by kernel_rfl
theorem Zxu:Extern.find f285=some Extern.BytealgIndexByte.indexByte:=by kernel_rfl
abbrev ZiQ:ByteArray:=ByteArray.mk #[65,66,67,68,69,70,71,72,74,75,76,77,78,80,81,82,84,85,86,87,88,89,90,50,51,52,53,54,55,56,57]
theorem ZAF:(List.range 256).all (λ c=>Lib.indexByte ZiQ.data.toList c.toUInt8==ZM c && (decide (ZM c<0)||decide (c<=90)))=true:=by kernel_rfl
theorem Zkj {c:Int} (h:0<=c/\c<256):Lib.indexByte ZiQ.data.toList c.toNat.toUInt8=ZM c/\(ZM c<0\/c<=90):=by
 have:=List.all_eq_true.1 ZAF c.toNat (List.mem_range.2 (by omega));rw [Bool.and_eq_true,Bool.or_eq_true,decide_eq_true_iff,decide_eq_true_iff,beq_iff_eq,show ((c.toNat:Nat):Int)=c by omega] at this;exact ⟨this.1,this.2.imp id (by omega)⟩
theorem ZhA {c:Int} (h:0<=c/\c<256) (hw:Sat R Hs w):Zm prog 183 #[.string ZiQ,.int .u8 c] w λ v w'=>v=nI (ZM c)/\Sat R Hs w':=by
 apply Zy1;have h1:Zm prog 255 #[.string ZiQ,.int .u8 c] w λ v w'=>v=nI (ZM c)/\Sat R Hs w':=by
  apply Zym;refine ⟨nI (ZM c),w,?_,_,rfl,rfl,hw⟩;rw [run_callFunc_extern func285 Zxt Zxv Zxs Zxu,Lib.run_indexByteString,(Zkj h).1];rfl
 refine h1.u λ w hw=>?_;exact ⟨_,rfl,rfl,hw⟩
abbrev Zdb (b:Nat) (n:Int):HP:=pts b (.cells [nI n].toArray 3 (0,0))
theorem ZgN (hw:Sat R Hs w):Zm prog 182 #[] w λ v w'=>∃ b1 b2,v=.func (.func 254) #[] #[nP b1,nP b2]/\Sat R (Zdb b1 0::Zdb b2 2::Hs) w':=by
 apply Zy2;refine Za hw λ b1 w hw=>Za hw λ b2 w hw=>?_;have hw:Sat R (Zdb b1 0::Zdb b2 0::Hs) w:=Sat.swap hw;refine sRu hw λ w hw=>?_;have hw:=(hw.re (Zdb b1 0)).swap;refine sRu hw λ w hw=>?_;have hw:=(hw.re (Zdb b2 2)).swap;exact ⟨b1,b2,rfl,hw⟩
theorem Zk3 {b1 b2:Nat} {s k d:Int} (hs:0<=s/\s<31) (hk:0<=k/\k<=100) (hd:0<=d/\d<31) (hw:Sat R (Zdb b1 s::Zdb b2 k::Hs) w):
  Zm prog 254 #[nI d,nP b1,nP b2] w λ v w'=>v=nI ((s + k * d) % 31)/\Sat R (Zdb b1 ((s + k * d) % 31)::Zdb b2 (k + 1)::Hs) w':=by
 have hkd:0<=k * d/\k * d<=100 * 31:=⟨Int.mul_nonneg hk.1 hd.1,Int.mul_le_mul hk.2 (by omega) hd.1 (by omega)⟩;apply Zyn;refine Zc.mk rfl ⟨s,oA hw,Zc.mk rfl ⟨k,oA hw,?_⟩⟩;rw [Zf (x:=k * d),Zf (x:=s + k * d),Int.tmod_eq_emod_of_nonneg (by omega)];refine sRu hw λ w hw=>?_;have hw:=(hw.re (Zdb b1 ((s + k * d) % 31))).swap;refine Zc.mk rfl ⟨k,oA hw,?_⟩;rw [Zf (x:=k + 1)];refine sRu hw λ w hw=>?_;have hw:=(hw.re (Zdb b2 (k + 1))).swap;exact Zc.mk rfl ⟨_,oA hw,rfl,hw⟩
theorem Zk0 {l:List Int} {d:Int} {k:Nat} (hk:l.length=k):(ZdK 2 l % 31 + (2 + (k:Int)) * d) % 31=ZdK 2 (l++[d]) % 31:=by
 rw [Zui,hk];simp only [ZdK,Int.add_zero];rw [Int.emod_add_emod]
theorem p31 {k:Nat} (h:k<5):(31:Int) ^ k<=923521:=by
 rcases (show k=0\/k=1\/k=2\/k=3\/k=4 by omega) with rfl|rfl|rfl|rfl|rfl<;>simp
theorem ZuZ {bs:List Int} (h:∃ c∈bs,ZM c<0):Zcf bs=(0,6):=by
 unfold Zcf;rw [if_pos (.inr h)]
theorem ZqK {l:List Int} (h:∀ c∈l,0<=ZM c):∀ d∈l.map ZM,0<=d/\d<31:=by
 intro d hd;obtain ⟨c,hc,rfl⟩:=List.mem_map.1 hd;have h1:=h c hc;have:=ZnW c;omega
theorem ZpR {s:ByteArray} (hw:Sat R Hs w):Zm prog 108 #[.string s] w λ v w'=>v=.tuple #[nI (Zcf (ZX s)).1,nI (Zcf (ZX s)).2]/\Sat R Hs w':=by
 apply ZzM
 suffices H:∀ K:nK,(∀ w',Sat R Hs w'->K (.tuple #[nI (Zcf (ZX s)).1,nI (Zcf (ZX s)).2]) w')->B108 s K w from H _ λ w' h=>⟨rfl,h⟩
 intro K hK;have hbl:=Zak s;obtain ⟨bs,hbs⟩:∃ bs,bs=ZX s:=⟨_,rfl⟩;rw [<-hbs] at hK hbl;refine Br.ne (λ h=>?_) (λ h=>?_)
 ·have:=hK w hw
  unfold Zcf at this;rw [if_pos (.inl (by omega))] at this;exact this
 have hsz:s.size=6:=by omega
 have hl6:bs.length=6:=by omega
 refine (ZgN hw).use ?_;clear hw;rintro _ w ⟨b1,b2,rfl,hw⟩;refine ⟨_,rfl,?_⟩;refine Za hw λ it w hw=>?_;refine ⟨λ n sum w=>∃ k:Nat,k<=6/\(∀ c∈bs.take k,0<=ZM c)/\n=Zu1 ((bs.take (min k 5)).map ZM)/\sum=ZdK 2 ((bs.take (min k 5)).map ZM) % 31/\(k=6->(ZdK 2 ((bs.take 5).map ZM) + ZM (bs.getD 5 0)) % 31=0)/\
  Sat R (pts it (.stringIter s k)::Zdb b1 (ZdK 2 ((bs.take (min k 5)).map ZM) % 31)::Zdb b2 (2 + (min k 5:Nat))::Hs) w,λ _ _ w=>ZjK it w,⟨0,by omega,by simp,by simp [Zu1],by simp [ZdK],by omega,by simpa [ZdK] using hw⟩,?_⟩
 clear hw;rintro _ _ _ w ⟨k,hk,hpos,rfl,rfl,hlast,hw⟩;have hm:ZjK it w=6 - k:=by rw [Zgn hw,hsz]
 refine ZpQ hw (λ hlt w hw=>?_) (λ hge=>?_)
 ·rw [hsz] at hlt
  have hkl:k<bs.length:=by omega
  have hxb:0<=bs[k]/\bs[k]<256:=by
   subst hbs;exact Zmw s _ (List.getElem_mem _)
  have hget:((s.get! k).toNat:Int)=bs[k]:=by subst hbs;exact ZtA (by omega)
  have err:∀ {w A},ZM bs[k]<0->Sat R (A::Zdb b1 (ZdK 2 ((bs.take (min k 5)).map ZM) % 31)::Zdb b2 (2 + (min k 5:Nat))::Hs) w->K (.tuple #[nI 0,nI 6]) w:=λ {w A} h hw=>by
   have:=hK w hw.drop.drop.drop;rw [ZuZ ⟨_,List.getElem_mem hkl,h⟩] at this;exact this
  by_cases hlo:(s.get! k).toNat<128
  ·rw [ZAP hlo] at hw ⊢
   dsimp only at hw ⊢;rw [hget];rw [show IntKind.u8.wrap bs[k]=bs[k] by rw [IntKind.wrap_u8];omega];refine (ZhA hxb hw).u λ w hw=>?_;have h90:=(Zkj hxb).2;refine ⟨_,rfl,λ t w=>(t=true↔ZM bs[k]<0)/\Sat R (pts it (.stringIter s (k + 1))::Zdb b1 (ZdK 2 ((bs.take (min k 5)).map ZM) % 31)::Zdb b2 (2 + (min k 5:Nat))::Hs) w,?_,?_⟩
   ·exact Br.d (λ h=>⟨⟨λ _=>h,λ _=>rfl⟩,hw⟩) (λ h=>⟨⟨λ h2=>by have:=of_decide_eq_true h2;omega,λ h2=>absurd h2 h⟩,hw⟩)
   clear hw;rintro _ t w ⟨ht,hw⟩;refine Br.mk (λ h=>err (ht.1 h) hw) (λ h=>?_);have hd0:0<=ZM bs[k]:=by
    rw [<-Bool.not_eq_true] at h;have:¬ ZM bs[k]<0:=λ h2=>h (ht.2 h2);omega
   have hdb:0<=ZM bs[k]/\ZM bs[k]<31:=by have:=ZnW bs[k];omega
   have hpos':∀ c∈bs.take (k + 1),0<=ZM c:=λ c hc=>by
    rw [List.take_add_one,List.getElem?_eq_getElem hkl] at hc;rcases List.mem_append.1 hc with hc|hc
    ·exact hpos c hc
    ·simp at hc;rw [hc];exact hd0
   have hsb:0<=ZdK 2 ((bs.take (min k 5)).map ZM) % 31/\ZdK 2 ((bs.take (min k 5)).map ZM) % 31<31:=by omega
   refine Br.d (λ h5=>?_) (λ h5=>?_)
   ·have hk5:k<5:=by omega
    rw [show min k 5=k by omega] at hw hsb ⊢;have htk:(bs.take k).length=k:=by rw [List.length_take];omega
    have hw:Sat R (Zdb b1 (ZdK 2 ((bs.take k).map ZM) % 31)::Zdb b2 (2 + (k:Int))::pts it (.stringIter s (k + 1))::Hs) w:=hw.arr;have hadd:Zbq prog cl (.func (.func 254) #[] #[nP b1,nP b2]) [nI (ZM bs[k])] w λ e w'=>e=.returned (nI ((ZdK 2 ((bs.take k).map ZM) % 31 + (2 + (k:Int)) * ZM bs[k]) % 31))/\Sat R (Zdb b1 ((ZdK 2 ((bs.take k).map ZM) % 31 + (2 + (k:Int)) * ZM bs[k]) % 31)::Zdb b2 (2 + (k:Int) + 1)::pts it (.stringIter s (k + 1))::Hs) w':=
     Zbq.mk (by kernel_rfl) ((Zk3 hsb (by omega) hdb hw).use λ v w' h=>⟨by rw [h.1],h.2⟩)
    refine hadd.mono ?_;clear hw hadd;rintro _ w ⟨rfl,hw⟩;have htk1:(bs.take (k + 1)).map ZM=(bs.take k).map ZM++[ZM bs[k]]:=by
     rw [List.take_add_one,List.getElem?_eq_getElem hkl,List.map_append];rfl
    rw [Zk0 (by rw [List.length_map,htk]),<-htk1] at hw ⊢;have hnb:=Zxm (ZqK hpos);rw [List.length_map,htk] at hnb;have hp31:=p31 hk5;refine ⟨_,rfl,⟨k + 1,by omega,hpos',?_,?_,λ h=>by omega,?_⟩,?_⟩
    ·rw [show min (k + 1) 5=k + 1 by omega,htk1,Zu0,Zf (x:=Zu1 ((bs.take k).map ZM) * 31) (by omega) (by omega),Zf]
    ·rw [show min (k + 1) 5=k + 1 by omega]
    ·rw [show min (k + 1) 5=k + 1 by omega,show (2:Int) + ((k + 1:Nat):Int)=2 + (k:Int) + 1 by omega]
     exact hw.arr
    ·have hw:Sat R (pts it (.stringIter s (k + 1))::Zdb b1 (ZdK 2 ((bs.take (k + 1)).map ZM) % 31)::Zdb b2 (2 + (k:Int) + 1)::Hs) w:=hw.arr
     rw [Zgn hw,hsz,hm];omega
   ·have hk5:k=5:=by omega
    subst hk5;rw [show min 5 5=5 from rfl] at hw hsb
    have hx5:bs.getD 5 0=bs[5]:=by rw [List.getD_eq_getElem?_getD,List.getElem?_eq_getElem hkl];rfl
    have e1:(ZdK 2 ((bs.take 5).map ZM) % 31 + ZM bs[5]) % 31=(ZdK 2 ((bs.take 5).map ZM) + ZM (bs.getD 5 0)) % 31:=by rw [hx5];omega
    rw [show min 5 5=5 from rfl,Zf,Int.tmod_eq_emod_of_nonneg (by omega)]
    have hall:¬ ∃ c∈bs,ZM c<0:=by
     rintro ⟨c,hc,h⟩;have:=hpos' c (by rw [List.take_of_length_le (by omega)];exact hc);omega
    refine Br.ne (λ hne=>?_) (λ he=>?_)
    ·have:=hK w hw.drop.drop.drop
     unfold Zcf at this;rw [if_neg (λ h=>h.elim (λ h=>h hl6) hall),if_pos (by rw [<-e1];exact hne)] at this;exact this
    ·refine ⟨⟨6,by omega,hpos',by rw [show min 6 5=5 from rfl],by rw [show min 6 5=5 from rfl],λ _=>by rw [<-e1];exact he,?_⟩,?_⟩
     ·rw [show min 6 5=5 from rfl]
      exact hw
     ·rw [Zgn hw,hsz,hm]
      omega
  ·have hhi:=ZAQ hlo
   obtain ⟨c,hc⟩:∃ c:Int,c=((Utf8.decode s k).1:Int):=⟨_,rfl⟩;rw [<-hc];have hc128:128<=c:=by omega
   have hneg:ZM bs[k]<0:=by
    have:=(Zkj hxb).2;omega
   refine (ZhA (by rw [IntKind.wrap_u8];omega) hw).u λ w hw=>?_;refine ⟨_,rfl,λ t w=>t=true/\Sat R (pts it (.stringIter s (k + (Utf8.decode s k).2))::Zdb b1 (ZdK 2 ((bs.take (min k 5)).map ZM) % 31)::Zdb b2 (2 + (min k 5:Nat))::Hs) w,?_,?_⟩
   ·exact Br.d (λ _=>⟨rfl,hw⟩) (λ _=>⟨decide_eq_true (by omega),hw⟩)
   clear hw;rintro _ t w ⟨rfl,hw⟩;exact Br.t rfl (err hneg hw)
 ·have hk6:k=6:=by omega
  subst hk6;have hall:¬ ∃ c∈bs,ZM c<0:=by
   rintro ⟨c,hc,h⟩;have:=hpos c (by rw [List.take_of_length_le (by omega)];exact hc);omega
  have:=hK w hw.drop.drop.drop;unfold Zcf at this;rw [if_neg (λ h=>h.elim (λ h=>h hl6) hall),if_neg (λ h=>h (hlast rfl))] at this;exact this
abbrev outB (b:Nat) (l:List Int):HP:=pts b (.cells (b8 l).toArray 255 (0,0))
abbrev Zo8 (b:Nat) (l:List Int):HP:=pts b (.cells (Ze l).toArray 256 (0,0))
def Zz5:Nat->Int->List Int
 |0,_=>[0,0,0,0,0]
 |1,n=>[0,0,0,0,n % 31]
 |2,n=>[0,0,0,n / 31 % 31,n % 31]
 |3,n=>[0,0,n / 961 % 31,n / 31 % 31,n % 31]
 |4,n=>[0,n / 29791 % 31,n / 961 % 31,n / 31 % 31,n % 31]
 |_,n=>ZdX n
def ZwP:Nat->Int->Int
 |0,n=>n
 |1,n=>n / 31
 |2,n=>n / 961
 |3,n=>n / 29791
 |4,n=>n / 923521
 |_,_=>0
theorem Zut {n:Int} (h:0<=n/\n<28629151):∀ {k:Nat},k<5->0<=ZwP k n/\ZwP k n<28629151/\ZwP (k + 1) n=ZwP k n / 31/\ZeD (Ze (Zz5 k n)) (0 + (4 - k)) [nI (ZwP k n % 31)]=Ze (Zz5 (k + 1) n)
 |0,_=>⟨h.1,h.2,rfl,rfl⟩
 |1,_=>⟨by show 0<=n / 31;omega,by show n / 31<_;omega,by show n / 961=n / 31 / 31;omega,rfl⟩
 |2,_=>⟨by show 0<=n / 961;omega,by show n / 961<_;omega,by show n / 29791=n / 961 / 31;omega,rfl⟩
 |3,_=>⟨by show 0<=n / 29791;omega,by show n / 29791<_;omega,by show n / 923521=n / 29791 / 31;omega,rfl⟩
 |4,_=>⟨by show 0<=n / 923521;omega,by show n / 923521<_;omega,by show 0=n / 923521 / 31;omega,rfl⟩
theorem Zuu {n:Int}:∀ {k:Nat},k<=5->(Zz5 k n).length=5
 |0,_=>rfl|1,_=>rfl|2,_=>rfl|3,_=>rfl|4,_=>rfl|5,_=>rfl
def Zoj (n:Int) (k:Nat):List Int:=((ZdX n).take k).map ZhB++List.replicate (6 - k) 0
theorem Zr7 {n:Int}:∀ {k:Nat} (hk:k<5),ZeD (b8 (Zoj n k)) (0 + k) [.int .u8 (ZhB ((ZdX n)[k]'hk))]=b8 (Zoj n (k + 1))
 |0,_=>rfl|1,_=>rfl|2,_=>rfl|3,_=>rfl|4,_=>rfl
theorem ZuR {n:Int}:ZeD (b8 (Zoj n 5)) 5 [.int .u8 (ZhB (ZAa n))]=b8 (Zxn n):=rfl
theorem Zoi {n:Int}:∀ {k:Nat},k<=5->(b8 (Zoj n k)).length=6
 |0,_=>rfl|1,_=>rfl|2,_=>rfl|3,_=>rfl|4,_=>rfl|5,_=>rfl
theorem Zn5 {d:Int} (h:0<=d/\d<31):ZiQ[d.toNat]? =some (UInt8.ofNat (ZhB d).toNat)/\((UInt8.ofNat (ZhB d).toNat).toNat:Int)=ZhB d:=by
 have:∀ j:Fin 31,ZiQ[j.val]? =some (UInt8.ofNat (ZmS.getD j.val 0).toNat)/\((UInt8.ofNat (ZmS.getD j.val 0).toNat).toNat:Int)=ZmS.getD j.val 0:=by decide
 exact this ⟨d.toNat,by omega⟩
theorem ZuX {n:Int} (hn:0<=n/\n<28629151) (hw:Sat R Hs w):Zm prog 121 #[nI n] w λ v w'=>v=.tuple #[.string (Zz8 n),nI 0]/\Sat R Hs w':=by
 apply ZzK;refine ⟨λ w=>Sat R Hs w,Br.d (λ h=>by omega) (λ _=>Br.d (λ h=>by omega) (λ _=>hw)),?_⟩;clear hw;rintro _ w hw;refine Za hw λ bo w hw=>Za hw λ bw w hw=>?_;have hw:Sat R (Zo8 bw (Zz5 0 n)::outB bo (Zoj n 0)::Hs) w:=hw;refine ⟨λ m i w=>∃ k:Nat,k<=5/\m=ZwP k n/\i=4 - (k:Int)/\Sat R (Zo8 bw (Zz5 k n)::outB bo (Zoj n 0)::Hs) w,λ _ i _=>(i + 1).toNat,⟨0,by omega,rfl,rfl,hw⟩,?_⟩;clear hw;rintro _ _ _ w ⟨k,hk,rfl,rfl,hw⟩;refine Br.d (λ h=>?_) (λ h=>?_)
 ·have hk5:k<5:=by omega
  obtain ⟨s1,s2,s3,s4⟩:=Zut hn hk5;rw [Int.tmod_eq_emod_of_nonneg s1,Int.tdiv_eq_ediv_of_nonneg s1,Zf (x:=ZwP k n / 31),Zf (x:=4 - (k:Int) - 1)];refine Rng.mk (by omega) (by omega) ?_;rw [Zy,show (4 - (k:Int)).toNat=4 - k by omega];refine ZZ hw (by kernel_rfl) rfl (by rw [List.length_map,Zuu (by omega)];show 0 + (4 - k) + 1<=5;omega) λ w hw=>?_;have hw:Sat R (Zo8 bw (Zz5 (k + 1) n)::outB bo (Zoj n 0)::Hs) w:=by
   unfold Zo8;rw [<-s4];exact hw
  exact ⟨⟨k + 1,by omega,s3.symm,by omega,hw⟩,by dsimp only;omega⟩
 ·have hk5:k=5:=by omega
  subst hk5;refine (ZgN hw).use ?_;clear hw;rintro _ w ⟨b1,b2,rfl,hw⟩;have hw:Sat R (Zdb b1 0::Zdb b2 2::Zo8 bw (ZdX n)::outB bo (Zoj n 0)::Hs) w:=hw;have hw:Sat R (Zo8 bw (ZdX n)::outB bo (Zoj n 0)::Zdb b1 0::Zdb b2 2::Hs) w:=hw.arr;have hw0:Sat R (outB bo (Zoj n 0)::Zdb b1 0::Zdb b2 2::Zo8 bw (ZdX n)::Hs) w:=hw.arr;refine ⟨_,rfl,Ze (ZdX n),rfl,oA hw,?_⟩;refine ⟨λ sum i w=>∃ k:Nat,i=k/\k<=5/\sum=ZdK 2 ((ZdX n).take k) % 31/\Sat R (outB bo (Zoj n k)::Zdb b1 (ZdK 2 ((ZdX n).take k) % 31)::Zdb b2 (2 + (k:Int))::Zo8 bw (ZdX n)::Hs) w,λ _ i _=>(5 - i).toNat,⟨0,rfl,by omega,rfl,hw0⟩,?_⟩;clear hw hw0;rintro _ _ _ w ⟨k,rfl,hk,rfl,hw⟩;refine Br.d (λ h=>?_) (λ h=>?_)
  ·have hk5:k<5:=by omega
   have hkl:k<(ZdX n).length:=hk5;have hd:=ZxT n _ (List.getElem_mem hkl);obtain ⟨g1,g2⟩:=Zn5 hd;refine Rng.mk (by omega) (by omega) ⟨(ZdX n)[k],?_,_,hd.1,g1,?_⟩
   ·rw [Int.toNat_natCast,List.getElem?_toArray,List.getElem?_map,List.getElem?_eq_getElem hkl]
    rfl
   refine Rng.mk (by omega) (by omega) ?_;rw [Zy,Int.toNat_natCast,g2];refine ZZ hw (by kernel_rfl) rfl (by rw [Zoi (by omega)];show 0 + k + 1<=6;omega) λ w hw=>?_;have hw:Sat R (outB bo (Zoj n (k + 1))::Zdb b1 (ZdK 2 ((ZdX n).take k) % 31)::Zdb b2 (2 + (k:Int))::Zo8 bw (ZdX n)::Hs) w:=by
    unfold outB;rw [<-Zr7 (n:=n) hk5];exact hw
   have hsb:0<=ZdK 2 ((ZdX n).take k) % 31/\ZdK 2 ((ZdX n).take k) % 31<31:=by omega
   have hw:Sat R (Zdb b1 (ZdK 2 ((ZdX n).take k) % 31)::Zdb b2 (2 + (k:Int))::outB bo (Zoj n (k + 1))::Zo8 bw (ZdX n)::Hs) w:=hw.arr;have hadd:Zbq prog cl (.func (.func 254) #[] #[nP b1,nP b2]) [nI (ZdX n)[k]] w λ e w'=>e=.returned (nI ((ZdK 2 ((ZdX n).take k) % 31 + (2 + (k:Int)) * (ZdX n)[k]) % 31))/\Sat R (Zdb b1 ((ZdK 2 ((ZdX n).take k) % 31 + (2 + (k:Int)) * (ZdX n)[k]) % 31)::Zdb b2 (2 + (k:Int) + 1)::outB bo (Zoj n (k + 1))::Zo8 bw (ZdX n)::Hs) w':=
    Zbq.mk (by kernel_rfl) ((Zk3 hsb (by omega) hd hw).use λ v w' h=>⟨by rw [h.1],h.2⟩)
   refine hadd.mono ?_;clear hw hadd;rintro _ w ⟨rfl,hw⟩;have htk:((ZdX n).take k).length=k:=by rw [List.length_take];omega
   have htk1:(ZdX n).take (k + 1)=(ZdX n).take k++[(ZdX n)[k]]:=by
    rw [List.take_add_one,List.getElem?_eq_getElem hkl];rfl
   rw [Zk0 htk,<-htk1] at hw ⊢;rw [Zf (x:=(k:Int) + 1)];refine ⟨_,rfl,⟨k + 1,by omega,by omega,rfl,?_⟩,by dsimp only;omega⟩;rw [show (2:Int) + ((k + 1:Nat):Int)=2 + (k:Int) + 1 by omega];exact hw.arr
  ·have hk5:k=5:=by omega
   subst hk5;have hcd:=Zx4 n;have e:(31 - ZdK 2 ((ZdX n).take 5) % 31).tmod 31=ZAa n:=by
    rw [List.take_of_length_le (by exact Nat.le_refl 5),Int.tmod_eq_emod_of_nonneg (by omega)];rfl
   rw [Zf (x:=31 - ZdK 2 ((ZdX n).take 5) % 31) (by omega) (by omega),e];obtain ⟨g1,g2⟩:=Zn5 hcd;refine ⟨_,hcd.1,g1,?_⟩;rw [Zy,g2];refine ZZ hw (by kernel_rfl) rfl (by rw [Zoi (by omega)];show 0 + 5 + 1<=6;omega) λ w hw=>?_;have hw:Sat R (outB bo (Zxn n)::Zdb b1 (ZdK 2 ((ZdX n).take 5) % 31)::Zdb b2 (2 + ((5:Nat):Int))::Zo8 bw (ZdX n)::Hs) w:=by
    unfold outB;rw [<-ZuR (n:=n)];exact hw
   have hw2:Sat R (Own ⟨some ⟨bo,0,none⟩,6,6⟩ 255 (b8 (Zxn n))::Zdb b1 (ZdK 2 ((ZdX n).take 5) % 31)::Zdb b2 (2 + ((5:Nat):Int))::Zo8 bw (ZdX n)::Hs) w:=ZbH (n:=6) hw;obtain ⟨R1,h1,_,h3,_⟩:=Own.lend hw2 (by rw [List.length_map,Zot];omega);refine ⟨_,rfl,VC.strOf (Zxn n),λ w' e=>?_,?_⟩
   ·rw [show w'=w from e]
    exact Zdc (s:=⟨some ⟨bo,0,none⟩,6,6⟩) (xs:=Zxn n) underlying47 underlying5 underlying9 h3 h1
   ·exact ⟨rfl,hw.drop.drop.drop.drop⟩
theorem ZjL {A C:List HP} {x:HP}:Sat R (Zah (A++x::C)::Hs) w↔Sat R (x::Zah (A++C)::Hs) w:=by
 have hp:((A++x::C)++Hs).Perm (x::((A++C)++Hs)):=List.perm_middle.append_right Hs;constructor
 ·intro h
  exact ((Sat.star.1 h).perm hp).cons λ _ h=>Sat.star.2 h
 ·intro h
  have h2:Sat R (x::((A++C)++Hs)) w:=h.cons λ _ h=>Sat.star.1 h;exact Sat.star.2 (h2.perm hp.symm)
theorem ZbL {A C:List FE} {f q:Nat} {p:Pl}:Sat R (Zi (A++(f,q,p)::C)::Hs) w↔Sat R (Zg f p.r::ZR q p.q::Zi (A++C)::Hs) w:=by
 unfold Zi;rw [List.map_append,List.map_cons,ZjL,List.map_append];exact Sat.star
theorem ZcX {A C:List BE} {a:Nat} {x:Bk}:Sat R (Zj (A++(a,x)::C)::Hs) w↔Sat R (pts a (ZA x)::Zj (A++C)::Hs) w:=by
 unfold Zj;rw [List.map_append,List.map_cons,ZjL,List.map_append];exact Iff.rfl
theorem Zkv {β:Type} {k:Int} {v:β} {a b:List (Int × β)} (h:∀ e∈a,e.1≠k):ZO k (a++(k,v)::b)=some v:=ZoE (Zfs.2 h) (by simp)
theorem Zvs {β:Type} {k:Int} {v:β} {a b:List (Int × β)} (h:∀ e∈a,e.1≠k):Zfy k (a++(k,v)::b)=a++b:=ZeO (Zfs.2 h) (by simp)
structure ZkS (A C:List FE) (n:Int) (p:Pl):Prop where
 num:p.n=n
 a:∀ e∈A,e.2.2.n≠n
 c:∀ e∈C,e.2.2.n≠n
structure Zt6 (A C:List BE) (x:Bk):Prop where
 a:∀ e∈A,e.2.id≠x.id
 c:∀ e∈C,e.2.id≠x.id
theorem ZdS {b:ZU} {fs:List FE} {xs:List BE} (hl:ZaX b fs xs) (c:ZaO Pl.n b.fl) {n:Int} {p:Pl} (h:b.at n=some p):∃ A f q C,fs=A++(f,q,p)::C/\ZkS A C n p:=by
 have h1:=Zef h;obtain ⟨⟨f,q,p'⟩,he,hp⟩:=List.mem_map.1 (hl.fl.mem_iff.2 h1.1);dsimp only at hp;subst hp;obtain ⟨A,C,rfl⟩:=List.append_of_mem he;have hnd:((A++(f,q,p')::C).map λ e=>e.2.2).Pairwise λ a b=>a.n≠b.n:=(hl.fl.pairwise_iff (λ h=>Ne.symm h)).2 (ZaO.ne c);rw [List.map_append,List.map_cons,List.pairwise_append,List.pairwise_cons] at hnd;refine ⟨A,f,q,C,rfl,h1.2,λ e he2=>?_,λ e he2=>?_⟩
 ·have:=hnd.2.2 e.2.2 (List.mem_map.2 ⟨e,he2,rfl⟩) p' (by simp)
  rw [<-h1.2];exact this
 ·have:=hnd.2.1.1 e.2.2 (List.mem_map.2 ⟨e,he2,rfl⟩)
  rw [<-h1.2];exact this.symm
theorem Zjo {A C:List FE} {f q:Nat} {n:Int} {p:Pl} (h:ZkS A C n p):ZO n ((A++(f,q,p)::C).map flV)=some (.agg #[nP f,nP q]):=by
 rw [List.map_append,List.map_cons];unfold flV;dsimp only;rw [h.num];exact Zkv λ e he=>by
  obtain ⟨e',h1,rfl⟩:=List.mem_map.1 he;exact h.a e' h1
theorem Zge {b:ZU} {fs:List FE} {xs:List BE} (hl:ZaX b fs xs) (c:ZaO Bk.id b.L) {x:Bk} (h:x∈b.L):∃ A a C,xs=A++(a,x)::C/\Zt6 A C x:=by
 rw [<-hl.bk] at h;obtain ⟨⟨a,x'⟩,he,hp⟩:=List.mem_map.1 h;dsimp only at hp;subst hp;obtain ⟨A,C,rfl⟩:=List.append_of_mem he;have hnd:((A++(a,x')::C).map λ e=>e.2).Pairwise λ a b=>a.id≠b.id:=by rw [hl.bk];exact ZaO.ne c
 rw [List.map_append,List.map_cons,List.pairwise_append,List.pairwise_cons] at hnd;refine ⟨A,a,C,rfl,λ e he2=>?_,λ e he2=>?_⟩
 ·exact hnd.2.2 e.2 (List.mem_map.2 ⟨e,he2,rfl⟩) x' (by simp)
 ·exact (hnd.2.1.1 e.2 (List.mem_map.2 ⟨e,he2,rfl⟩)).symm
theorem Zmy {A C:List BE} {a:Nat} {x:Bk} (h:Zt6 A C x):ZO x.id ((A++(a,x)::C).map bkV)=some (nP a):=by
 rw [List.map_append,List.map_cons];exact Zkv λ e he=>by
  obtain ⟨e',h1,rfl⟩:=List.mem_map.1 he;exact h.a e' h1
theorem ZnL {b:ZU} {fs:List FE} {xs:List BE} (hl:ZaX b fs xs) {n:Int}:ZO n (xs.map bkV)=none↔b.bk n=none:=by
 unfold ZU.bk;rw [Zfs,Zeg,<-hl.bk];constructor
 ·intro h x hx
  obtain ⟨e,he,rfl⟩:=List.mem_map.1 hx;exact h (bkV e) (List.mem_map.2 ⟨e,he,rfl⟩)
 ·rintro h _ he
  obtain ⟨e,h1,rfl⟩:=List.mem_map.1 he;exact h e.2 (List.mem_map.2 ⟨e,h1,rfl⟩)
theorem ZoZ {b:ZU} {fs:List FE} {xs:List BE} (hl:ZaX b fs xs):xs.length=b.L.length:=by
 have:=congrArg List.length hl.bk;rwa [List.length_map] at this
theorem ZaX.fset {b:ZU} {A C:List FE} {xs:List BE} {f q:Nat} {n:Int} {p:Pl} (hl:ZaX b (A++(f,q,p)::C) xs) (h:ZkS A C n p) (g:Pl->Pl):((A++(f,q,g p)::C).map λ e=>e.2.2).Perm (Ze0 Pl.n n g b.fl):=by
 have h1:=hl.fl.map λ x=>if x.n=n then g x else x
 unfold Ze0;refine List.Perm.trans (List.Perm.of_eq ?_) h1;have key:∀ L:List FE,(∀ e∈L,e.2.2.n≠n)->(L.map λ e=>e.2.2).map (λ x=>if x.n=n then g x else x)=L.map λ e=>e.2.2:=λ L hL=>by
  rw [List.map_map];refine List.map_congr_left λ e he=>?_;show (if e.2.2.n=n then _ else _)=_
  rw [if_neg (hL e he)]
 rw [List.map_append,List.map_cons,List.map_append,List.map_cons,List.map_append,List.map_cons,key A h.a,key C h.c];rw [if_pos h.num]
theorem ZaX.bset {b:ZU} {A C:List BE} {fs:List FE} {a:Nat} {x:Bk} (hl:ZaX b fs (A++(a,x)::C)) (c:ZaO Bk.id b.L) (g:Bk->Bk):(A++(a,g x)::C).map (λ e=>e.2)=Ze0 Bk.id x.id g b.L:=by
 have e:=hl.bk;rw [List.map_append,List.map_cons] at e ⊢;rw [<-e] at c ⊢;exact (Zu6 rfl c).symm
theorem ZaX.bdel {b:ZU} {A C:List BE} {fs:List FE} {a:Nat} {x:Bk} (hl:ZaX b fs (A++(a,x)::C)) (c:ZaO Bk.id b.L):(A++C).map (λ e=>e.2)=ZoA Bk.id x.id b.L:=by
 have e:=hl.bk;rw [List.map_append,List.map_cons] at e;rw [List.map_append];rw [<-e] at c ⊢;exact (Zu8 rfl c).symm
theorem Zft {A C:List FE} {f q:Nat} {n:Int} {p p':Pl} (h:p.n=n) (h':p'.n=n):(A++(f,q,p')::C).map flV=(A++(f,q,p)::C).map flV:=by
 rw [List.map_append,List.map_append,List.map_cons,List.map_cons];unfold flV;dsimp only;rw [h,h']
theorem ZtG {A C:List BE} {a:Nat} {x x':Bk} (h:x'.id=x.id):(A++(a,x')::C).map bkV=(A++(a,x)::C).map bkV:=by
 rw [List.map_append,List.map_append,List.map_cons,List.map_cons];unfold bkV;dsimp only;rw [h]
theorem ZtF {A C:List BE} {a:Nat} {x:Bk} (h:Zt6 A C x):Zfy x.id ((A++(a,x)::C).map bkV)=(A++C).map bkV:=by
 rw [List.map_append,List.map_cons,List.map_append];exact Zvs λ e he=>by
  obtain ⟨e',h1,rfl⟩:=List.mem_map.1 he;exact h.a e' h1
abbrev plC (b:Nat) (v1 v2:Option Addr):HP:=pts b (.cells [.pointer v1,.pointer v2].toArray 97 (0,0))
theorem Zvg {n:Int} {fs:List FE}:∃ v1 v2:Option Addr,(ZO n (fs.map flV)).getD (.agg #[.pointer none,.pointer none])=.agg #[.pointer v1,.pointer v2]:=by
 cases hgm:ZO n (fs.map flV) with
 |none=>exact ⟨none,none,rfl⟩
 |some v=>
  obtain ⟨A,C,e,_⟩:=ZaG hgm;have:(n,v)∈fs.map flV:=by rw [e];simp
  obtain ⟨x,_,hx⟩:=List.mem_map.1 this;have hx2:=congrArg Prod.snd hx;exact ⟨_,_,hx2.symm⟩
theorem ZvI {n:Int} {xs:List BE}:∃ v:Option Addr,(ZO n (xs.map bkV)).getD (.pointer none)=.pointer v:=by
 cases hgm:ZO n (xs.map bkV) with
 |none=>exact ⟨none,rfl⟩
 |some v=>
  obtain ⟨A,C,e,_⟩:=ZaG hgm;have:(n,v)∈xs.map bkV:=by rw [e];simp
  obtain ⟨x,_,hx⟩:=List.mem_map.1 this;have hx2:=congrArg Prod.snd hx;exact ⟨_,hx2.symm⟩
theorem ZkP {p m1 m2:Nat} {b:ZU} {fs:List FE} {n:Int} (hw:Sat R (pts p (Zh b m1 m2)::MapAt m1 (fs.map flV)::Hs) w):
  Zba prog 54 #[nP p,nI n] w
   (λ ch w'=>ch=Zjr 2/\ZO n (fs.map flV)=none/\Sat R (pts p (Zh b m1 m2)::MapAt m1 (fs.map flV)::Hs) w')
   (λ v w'=>(∃ v1 v2,ZO n (fs.map flV)=some (.agg #[.pointer v1,.pointer v2])/\v=.agg #[.pointer v1,.pointer v2])/\Sat R (pts p (Zh b m1 m2)::MapAt m1 (fs.map flV)::Hs) w'):=by
 obtain ⟨v1,v2,hv⟩:=Zvg (n:=n) (fs:=fs);apply ZBn;refine Za hw λ b4 w hw=>?_;refine Zc.mk rfl ⟨some m1,oA hw,v1,v2,(ZO n (fs.map flV)).isSome,λ w' e=>?_,?_⟩
 ·rw [show w'=w from e]
  have hm:Sat R (MapAt m1 (fs.map flV)::pts p (Zh b m1 m2)::plC b4 none none::Hs) w:=hw.arr;have:=MapAt.look Zv5 hm n true;rw [hv] at this;exact this
 refine Za hw λ b5 w hw=>?_;refine sRu hw λ w hw=>?_;have hw:=hw.re (plC b5 v1 v2);refine Zce (λ hn=>.inl ⟨rfl,?_⟩) (λ hn=>.inr ⟨_,rfl,rfl,?_,hw.drop.drop⟩)
 ·refine ⟨v1,v2,oA hw,?_⟩
  have hw:Sat R (plC b4 none none::plC b5 v1 v2::pts p (Zh b m1 m2)::MapAt m1 (fs.map flV)::Hs) w:=hw.swap;refine sRu hw λ w hw=>?_;have hw:=hw.re (plC b4 v1 v2);refine ⟨v1,v2,oA hw,⟨v1,v2,?_,rfl⟩,hw.drop.drop⟩;obtain ⟨v,hs⟩:=Option.isSome_iff_exists.1 hn;rw [hs] at hv ⊢;exact congrArg some hv
 ·cases hg:ZO n (fs.map flV) with
  |none=>rfl
  |some v=>rw [hg] at hn;cases hn
theorem ZnJ {p m1 m2:Nat} {b:ZU} {xs:List BE} {s:ByteArray} (hw:Sat R (pts p (Zh b m1 m2)::MapAt m2 (xs.map bkV)::Hs) w):
  Zba prog 43 #[nP p,.string s] w
   (λ ch w'=>(∃ e,ch=Zjr e/\(((Zcf (ZX s)).2≠0/\e=(Zcf (ZX s)).2)\/((Zcf (ZX s)).2=0/\e=2/\ZO (Zcf (ZX s)).1 (xs.map bkV)=none)))/\Sat R (pts p (Zh b m1 m2)::MapAt m2 (xs.map bkV)::Hs) w')
   (λ v w'=>(∃ v1,(Zcf (ZX s)).2=0/\ZO (Zcf (ZX s)).1 (xs.map bkV)=some (.pointer v1)/\v=.pointer v1)/\Sat R (pts p (Zh b m1 m2)::MapAt m2 (xs.map bkV)::Hs) w'):=by
 obtain ⟨v1,hv⟩:=ZvI (n:=(Zcf (ZX s)).1) (xs:=xs);apply ZBp;refine (ZpR hw).u λ w hw=>?_;refine .inl ⟨_,_,rfl,?_⟩;refine Zfn (λ h0=>.inl ⟨rfl,?_⟩) (λ h0=>.inr ⟨_,rfl,⟨_,rfl,.inl ⟨h0,rfl⟩⟩,hw⟩);refine Zc.mk rfl ⟨some m2,oA hw,v1,(ZO (Zcf (ZX s)).1 (xs.map bkV)).isSome,λ w' e=>?_,?_⟩
 ·rw [show w'=w from e]
  have:=MapAt.look Zwx hw.swap (Zcf (ZX s)).1 true;rw [hv] at this;exact this
 refine Zce (λ hn=>.inl ⟨rfl,⟨v1,h0,?_,rfl⟩,hw⟩) (λ hn=>.inr ⟨_,rfl,⟨_,rfl,.inr ⟨h0,rfl,?_⟩⟩,hw⟩)
 ·obtain ⟨v,hs⟩:=Option.isSome_iff_exists.1 hn
  rw [hs] at hv ⊢;exact congrArg some hv
 ·cases hg:ZO (Zcf (ZX s)).1 (xs.map bkV) with
  |none=>rfl
  |some v=>rw [hg] at hn;cases hn
theorem ZfA {p m1 m2 a f q:Nat} {b:ZU} {A C:List FE} {x:Bk} {pl:Pl} (hid:0<=x.id/\x.id<28629151) (hm:ZkS A C x.flt pl)
  (hw:Sat R (pts p (Zh b m1 m2)::MapAt m1 ((A++(f,q,pl)::C).map flV)::pts a (ZA x)::Zg f pl.r::Hs) w):
  Zm prog 53 #[nP p,nP a] w λ v w'=>∃ sl sb:Sl,v=.agg (rpV (ZdL pl x) sl sb).toArray/\
   Sat R (Own sl 3 (Ze (Zq pl.r))::Own sb 9 ((ZaY pl.r x.id).map Value.string)::pts p (Zh b m1 m2)::MapAt m1 ((A++(f,q,pl)::C).map flV)::pts a (ZA x)::Zg f pl.r::Hs) w':=by
 obtain ⟨M,hM⟩:∃ M,M=(A++(f,q,pl)::C).map flV:=⟨_,rfl⟩;have hget:ZO x.flt M=some (.agg #[nP f,nP q]):=by rw [hM];exact Zjo hm
 rw [<-hM] at hw ⊢;apply ZBo;refine Za hw λ b4 w hw=>?_;have hw:Sat R (Zp b4::pts p (Zh b m1 m2)::MapAt m1 M::pts a (ZA x)::Zg f pl.r::Hs) w:=hw;refine ZaV hw λ w hw=>?_;refine Zc.mk rfl ⟨some m1,oS,Zc.mk rfl ⟨x.flt,oS,some ⟨f,0,none⟩,some ⟨q,0,none⟩,λ w' h=>?_,?_⟩⟩
 ·have hm1:Sat R (MapAt m1 M::VC.tru::Zp b4::pts p (Zh b m1 m2)::pts a (ZA x)::Zg f pl.r::Hs) w':=Sat.arr h
  have:=MapAt.look Zv5 hm1 x.flt false;rw [hget] at this;exact this
 refine Za hw λ b5 w hw=>⟨hw.absorb,?_⟩;refine sRu hw λ w hw=>?_;have hw:=hw.re (plC b5 (some ⟨f,0,none⟩) (some ⟨q,0,none⟩));have hw:Sat R (plC b5 (some ⟨f,0,none⟩) (some ⟨q,0,none⟩)::Zp b4::pts p (Zh b m1 m2)::MapAt m1 M::pts a (ZA x)::Zg f pl.r::Hs) w:=hw.cons λ _ h=>h.drop;refine Zc.mk rfl ⟨x.id,oA hw,?_⟩;refine (ZuX hid hw).u λ w hw=>?_;refine ⟨_,_,rfl,?_⟩;refine ZC (Sat R [pts a (ZA x),plC b5 (some ⟨f,0,none⟩) (some ⟨q,0,none⟩),VC.tru]) hw (λ w hw=>?_) λ w hw=>?_
 ·exact (hw.arr (Hs':=pts a (ZA x)::plC b5 (some ⟨f,0,none⟩) (some ⟨q,0,none⟩)::Zp b4::pts p (Zh b m1 m2)::MapAt m1 M::Zg f pl.r::Hs)).cons λ _ h=>h.restTru2
 refine Zc.mk rfl ⟨x.state,oS,Zc.mk rfl ⟨x.flt,oS,Zc.mk rfl ⟨x.cls,oS,Zc.mk rfl ⟨x.many,oS,Zc.mk rfl ⟨x.till,oS,some ⟨f,0,none⟩,oS,some ⟨f,0,none⟩,oS,Zc.mk rfl ⟨x.id,oS,?_⟩⟩⟩⟩⟩⟩;have hw:Sat R (Zg f pl.r::pts a (ZA x)::plC b5 (some ⟨f,0,none⟩) (some ⟨q,0,none⟩)::Zp b4::pts p (Zh b m1 m2)::MapAt m1 M::Hs) w:=hw.arr;refine (ZcQ hw).u1 λ sl w hw=>?_;refine ⟨sl,rfl,?_,?_⟩
 ·exact (hw.arr (Hs':=pts a (ZA x)::plC b5 (some ⟨f,0,none⟩) (some ⟨q,0,none⟩)::Own sl 3 (Ze (Zq pl.r))::Zg f pl.r::Zp b4::pts p (Zh b m1 m2)::MapAt m1 M::Hs)).cons λ _ h=>h.restTru2
 have hw:Sat R (Zg f pl.r::pts a (ZA x)::plC b5 (some ⟨f,0,none⟩) (some ⟨q,0,none⟩)::Zp b4::Own sl 3 (Ze (Zq pl.r))::pts p (Zh b m1 m2)::MapAt m1 M::Hs) w:=hw.arr;refine (Znd hw).u1 λ sb w hw=>?_;refine ⟨sb,rfl,?_,?_⟩
 ·exact (hw.arr (Hs':=pts a (ZA x)::plC b5 (some ⟨f,0,none⟩) (some ⟨q,0,none⟩)::Own sb 9 ((ZaY pl.r x.id).map Value.string)::Zg f pl.r::Zp b4::Own sl 3 (Ze (Zq pl.r))::pts p (Zh b m1 m2)::MapAt m1 M::Hs)).cons λ _ h=>h.restTru2
 have hw:Sat R (Zp b4::plC b5 (some ⟨f,0,none⟩) (some ⟨q,0,none⟩)::Own sl 3 (Ze (Zq pl.r))::Own sb 9 ((ZaY pl.r x.id).map Value.string)::pts p (Zh b m1 m2)::MapAt m1 M::pts a (ZA x)::Zg f pl.r::Hs) w:=hw.arr;refine sRu hw λ w hw=>?_;have hw:=hw.re (rpC b4 (ZdL pl x) sl sb);refine ⟨0,Zz8 x.id,x.state,x.flt,x.cls,x.many,x.till,sl,sb,oA hw,sl,sb,rfl,hw.drop.drop⟩
def ZpB (q:Nat) (w : nW):Nat:=match w.heap[q]? with
 |some (.cells l _ _)=>(match l[0]? with|some (Value.slice _ n _)=>n|_=>0)
 |_=>0
theorem Zog {q:Nat} {l:List Wt} (hw:Sat R (ZR q l::Hs) w):ZpB q w=l.length:=by
 obtain ⟨s,hw⟩:=Sat.qu.1 hw;have h:=Zs.len hw.swap;rw [List.length_map] at h;unfold ZpB;rw [hw.at];exact h
theorem Zf7 {q:Nat} {l:List Wt} {sl:Sl} {left:List Int} (hq:QOk l) (hb:left.length<=9223372036854775807) (hw:Sat R (Own sl 3 (Ze left)::ZR q l::Hs) w):
  Zm prog 174 #[nP q,.slice sl.a sl.len sl.cap] w λ v w'=>v=.tuple #[wtA ((ZaD l left).getD Zbe),.bool (ZaD l left).isSome]/\Sat R (ZR q l::Hs) w':=by
 obtain ⟨R1,e1,g1,hw⟩:=Own.leak hw;refine (Zm6 hq (g1.ro (by rw [List.length_map];exact hb)) hw).u λ w hw=>?_;exact ⟨_,rfl,rfl,e1.back hw⟩
abbrev fqC (b f q:Nat):HP:=plC b (some ⟨f,0,none⟩) (some ⟨q,0,none⟩)
structure Zz2 (n:Int) (b:ZU) (A C:List FE) (f q:Nat) (MB:List (Int × Value)) (j:Nat) (b':ZU) (pl:Pl) (xs:List BE):Prop where
 prom:ZV n b=Zj0 j n b'
 len:pl.q.length<j
 core:Core b'
 here:b'.at n=some pl
 now:b'.now=b.now
 next:b'.next=b.next
 book:ZaX b' (A++(f,q,pl)::C) xs
 mb:xs.map bkV=MB
abbrev Zw3 (R:Cx) (Hs:List HP) (p m1 m2 f q b4 bw:Nat) (b:ZU) (pl:Pl) (A C:List FE) (MF MB:List (Int × Value)) (xs:List BE) (w : nW):Prop:=
 Sat R (Zg f pl.r::ZR q pl.q::pts p (Zh b m1 m2)::MapAt m1 MF::MapAt m2 MB::Zi (A++C)::Zj xs::fqC b4 f q::wtD bw ((ZaD pl.q (Zq pl.r)).getD Zbe)::Hs) w
theorem ZeH {r:RF} (g:ZaM r):(Zq r).length<=9223372036854775807:=by have:=(Zhg g).1;omega
theorem Zea {p m1 m2:Nat} {b:ZU} {fs:List FE} {xs:List BE} {n:Int} {pl:Pl} (k:Core b) (hl:ZaX b fs xs) (hat:b.at n=some pl)
  (hw:Sat R (pts p (Zh b m1 m2)::MapAt m1 (fs.map flV)::MapAt m2 (xs.map bkV)::Zi fs::Zj xs::Hs) w):
  Zm prog 103 #[nP p,nI n] w λ v w'=>v=.tuple #[]/\∃ fs' xs',ZaX (ZV n b) fs' xs'/\fs'.map flV=fs.map flV/\xs'.map bkV=xs.map bkV/\
   Sat R (pts p (Zh (ZV n b) m1 m2)::MapAt m1 (fs.map flV)::MapAt m2 (xs.map bkV)::Zi fs'::Zj xs'::Hs) w':=by
 obtain ⟨A,f,q,C,rfl,hm⟩:=ZdS hl k.nums hat;obtain ⟨MF,hMF⟩:∃ M,M=(A++(f,q,pl)::C).map flV:=⟨_,rfl⟩;obtain ⟨MB,hMB⟩:∃ M,M=xs.map bkV:=⟨_,rfl⟩;have hget:ZO n MF=some (.agg #[nP f,nP q]):=by rw [hMF];exact Zjo hm
 rw [<-hMF,<-hMB] at hw ⊢;have hpl:=Zax hat;apply ZzR;refine Zc.mk rfl ⟨some m1,oA hw,some ⟨f,0,none⟩,some ⟨q,0,none⟩,λ w' e=>?_,?_⟩
 ·rw [show w'=w from e]
  have:=MapAt.look Zv5 hw.swap n false;rw [hget] at this;exact this
 refine Za hw λ b4 w hw=>?_;refine sRu hw λ w hw=>?_;have hw:=hw.re (fqC b4 f q);have hw:Sat R (Zi (A++(f,q,pl)::C)::pts p (Zh b m1 m2)::MapAt m1 MF::MapAt m2 MB::Zj xs::fqC b4 f q::Hs) w:=hw.arr;have hw:=ZbL.1 hw;have hg:ZaM pl.r:=k.good pl hpl.1;have hqok:QOk pl.q:=k.qok pl hpl.1;have hi0:Zz2 n b A C f q MB 201 b pl xs:=⟨rfl,by have:=hqok.len;omega,k,hat,rfl,rfl,hl,hMB.symm⟩;refine ⟨λ w5 fits w=>∃ bw,w5=some ⟨bw,0,none⟩/\fits=(ZaD pl.q (Zq pl.r)).isSome/\Zw3 R Hs p m1 m2 f q b4 bw b pl A C MF MB xs w,?_,?_⟩
 ·refine ZC (Sat R [fqC b4 f q,VC.tru]) hw (λ w hw=>?_) λ w hw=>?_
  ·exact (hw.arr (Hs':=fqC b4 f q::Zg f pl.r::ZR q pl.q::Zi (A++C)::pts p (Zh b m1 m2)::MapAt m1 MF::MapAt m2 MB::Zj xs::Hs)).cons λ _ h=>h.allTru
  refine ⟨some ⟨q,0,none⟩,oS,some ⟨f,0,none⟩,oS,?_,?_⟩
  ·refine (ZcQ hw).u1 λ sl w hw=>?_
   refine ⟨sl,rfl,?_,?_,?_⟩
   ·exact (hw.arr (Hs':=fqC b4 f q::Own sl 3 (Ze (Zq pl.r))::Zg f pl.r::ZR q pl.q::Zi (A++C)::pts p (Zh b m1 m2)::MapAt m1 MF::MapAt m2 MB::Zj xs::Hs)).cons λ _ h=>h.allTru
   ·have hw:Sat R (Own sl 3 (Ze (Zq pl.r))::ZR q pl.q::Zg f pl.r::Zi (A++C)::pts p (Zh b m1 m2)::MapAt m1 MF::MapAt m2 MB::Zj xs::fqC b4 f q::Hs) w:=hw.arr
    refine (Zf7 hqok (ZeH hg) hw).u λ w hw=>?_;refine ⟨_,_,_,_,_,_,rfl,?_,?_⟩
    ·exact (hw.arr (Hs':=fqC b4 f q::Zg f pl.r::ZR q pl.q::Zi (A++C)::pts p (Zh b m1 m2)::MapAt m1 MF::MapAt m2 MB::Zj xs::Hs)).cons λ _ h=>h.allTru
    refine Za hw λ bw w hw=>?_;have hw:Sat R (wtD bw Zbe::ZR q pl.q::Zg f pl.r::Zi (A++C)::pts p (Zh b m1 m2)::MapAt m1 MF::MapAt m2 MB::Zj xs::fqC b4 f q::Hs) w:=hw;refine ⟨?_,?_⟩
    ·exact (hw.arr (Hs':=fqC b4 f q::wtD bw Zbe::Zg f pl.r::ZR q pl.q::Zi (A++C)::pts p (Zh b m1 m2)::MapAt m1 MF::MapAt m2 MB::Zj xs::Hs)).cons λ _ h=>h.allTru
    refine ZZ hw (by kernel_rfl) rfl (by simp [Value.cells,wtV]) λ w hw=>?_;have hw:=hw.re (wtD bw ((ZaD pl.q (Zq pl.r)).getD Zbe));exact ⟨bw,rfl,rfl,hw.arr⟩
   ·refine Za hw λ bw w hw=>?_
    have hw:Sat R (wtD bw Zbe::Own sl 3 (Ze (Zq pl.r))::Zg f pl.r::ZR q pl.q::Zi (A++C)::pts p (Zh b m1 m2)::MapAt m1 MF::MapAt m2 MB::Zj xs::fqC b4 f q::Hs) w:=hw;refine ⟨?_,?_⟩
    ·exact (hw.arr (Hs':=fqC b4 f q::wtD bw Zbe::Own sl 3 (Ze (Zq pl.r))::Zg f pl.r::ZR q pl.q::Zi (A++C)::pts p (Zh b m1 m2)::MapAt m1 MF::MapAt m2 MB::Zj xs::Hs)).cons λ _ h=>h.allTru
    have hw:Sat R (wtD bw Zbe::Own sl 3 (Ze (Zq pl.r))::Zg f pl.r::ZR q pl.q::Zi (A++C)::pts p (Zh b m1 m2)::MapAt m1 MF::MapAt m2 MB::Zj xs::fqC b4 f q::Hs) w:=hw;have hw:Sat R (Own sl 3 (Ze (Zq pl.r))::ZR q pl.q::wtD bw Zbe::Zg f pl.r::Zi (A++C)::pts p (Zh b m1 m2)::MapAt m1 MF::MapAt m2 MB::Zj xs::fqC b4 f q::Hs) w:=hw.arr;refine (Zf7 hqok (ZeH hg) hw).u λ w hw=>?_;refine ⟨_,_,_,_,_,_,rfl,?_,?_⟩
    ·exact (hw.arr (Hs':=fqC b4 f q::wtD bw Zbe::Zg f pl.r::ZR q pl.q::Zi (A++C)::pts p (Zh b m1 m2)::MapAt m1 MF::MapAt m2 MB::Zj xs::Hs)).cons λ _ h=>h.allTru
    have hw:Sat R (wtD bw Zbe::ZR q pl.q::Zg f pl.r::Zi (A++C)::pts p (Zh b m1 m2)::MapAt m1 MF::MapAt m2 MB::Zj xs::fqC b4 f q::Hs) w:=hw.arr;refine ZZ hw (by kernel_rfl) rfl (by simp [Value.cells,wtV]) λ w hw=>?_;have hw:=hw.re (wtD bw ((ZaD pl.q (Zq pl.r)).getD Zbe));exact ⟨bw,rfl,rfl,hw.arr⟩
  ·refine Za hw λ bw w hw=>?_
   have hw:Sat R (wtD bw Zbe::Zg f pl.r::ZR q pl.q::Zi (A++C)::pts p (Zh b m1 m2)::MapAt m1 MF::MapAt m2 MB::Zj xs::fqC b4 f q::Hs) w:=hw;refine ⟨?_,?_⟩
   ·exact (hw.arr (Hs':=fqC b4 f q::wtD bw Zbe::Zg f pl.r::ZR q pl.q::Zi (A++C)::pts p (Zh b m1 m2)::MapAt m1 MF::MapAt m2 MB::Zj xs::Hs)).cons λ _ h=>h.allTru
   have hw:Sat R (wtD bw Zbe::Zg f pl.r::ZR q pl.q::Zi (A++C)::pts p (Zh b m1 m2)::MapAt m1 MF::MapAt m2 MB::Zj xs::fqC b4 f q::Hs) w:=hw;refine (ZcQ hw.swap).u1 λ sl w hw=>?_;refine ⟨sl,rfl,?_,?_⟩
   ·exact (hw.arr (Hs':=fqC b4 f q::wtD bw Zbe::Own sl 3 (Ze (Zq pl.r))::Zg f pl.r::ZR q pl.q::Zi (A++C)::pts p (Zh b m1 m2)::MapAt m1 MF::MapAt m2 MB::Zj xs::Hs)).cons λ _ h=>h.allTru
   have hw:Sat R (Own sl 3 (Ze (Zq pl.r))::ZR q pl.q::wtD bw Zbe::Zg f pl.r::Zi (A++C)::pts p (Zh b m1 m2)::MapAt m1 MF::MapAt m2 MB::Zj xs::fqC b4 f q::Hs) w:=hw.arr;refine (Zf7 hqok (ZeH hg) hw).u λ w hw=>?_;refine ⟨_,_,_,_,_,_,rfl,?_,?_⟩
   ·exact (hw.arr (Hs':=fqC b4 f q::wtD bw Zbe::Zg f pl.r::ZR q pl.q::Zi (A++C)::pts p (Zh b m1 m2)::MapAt m1 MF::MapAt m2 MB::Zj xs::Hs)).cons λ _ h=>h.allTru
   have hw:Sat R (wtD bw Zbe::ZR q pl.q::Zg f pl.r::Zi (A++C)::pts p (Zh b m1 m2)::MapAt m1 MF::MapAt m2 MB::Zj xs::fqC b4 f q::Hs) w:=hw.arr;refine ZZ hw (by kernel_rfl) rfl (by simp [Value.cells,wtV]) λ w hw=>?_;have hw:=hw.re (wtD bw ((ZaD pl.q (Zq pl.r)).getD Zbe));exact ⟨bw,rfl,rfl,hw.arr⟩
 clear hw;rintro _ _ _ w ⟨bw,rfl,rfl,hw⟩;refine ⟨λ w5 fits w=>∃ j b' pl xs' bw,Zz2 n b A C f q MB j b' pl xs'/\w5=some ⟨bw,0,none⟩/\fits=(ZaD pl.q (Zq pl.r)).isSome/\Zw3 R Hs p m1 m2 f q b4 bw b pl A C MF MB xs' w,λ _ _ w=>ZpB q w,⟨201,b,pl,xs,bw,hi0,rfl,rfl,hw⟩,?_⟩;clear hw hi0 hqok hg hpl;rintro _ _ _ w ⟨j,b',pl',xs',bw,hi,rfl,rfl,hw⟩;have hql:ZpB q w=pl'.q.length:=Zog hw.swap;have hpl:=Zax hi.here;have hg:=hi.core.good pl' hpl.1;have hqok:=hi.core.qok pl' hpl.1;have hm':ZkS A C n pl':=⟨hpl.2,hm.a,hm.c⟩;obtain ⟨j,rfl⟩:∃ i,j=i + 1:=⟨j - 1,by have:=hi.len;omega⟩;have hprom:=hi.prom;unfold Zj0 at hprom;rw [hi.here] at hprom;dsimp only at hprom;cases hf:ZaD pl'.q (Zq pl'.r) with
 |none=>
  rw [hf] at hprom;dsimp only at hprom;refine Br.f rfl ⟨rfl,A++(f,q,pl')::C,xs',?_,?_,hi.mb,?_⟩
  ·rw [hprom];exact hi.book
  ·rw [hMF];exact Zft hm.num hpl.2
  ·rw [hprom,show Zh b' m1 m2=Zh b m1 m2 by unfold Zh;rw [hi.now,hi.next]]
   have hw:Sat R (Zg f pl'.r::ZR q pl'.q::Zi (A++C)::pts p (Zh b m1 m2)::MapAt m1 MF::MapAt m2 MB::Zj xs'::fqC b4 f q::wtD bw ((ZaD pl'.q (Zq pl'.r)).getD Zbe)::Hs) w:=hw.arr;have hw:=ZbL.2 hw;have hw:Sat R (pts p (Zh b m1 m2)::MapAt m1 MF::MapAt m2 MB::Zi (A++(f,q,pl')::C)::Zj xs'::fqC b4 f q::wtD bw ((ZaD pl'.q (Zq pl'.r)).getD Zbe)::Hs) w:=hw.arr;exact hw.cons λ _ h=>h.cons λ _ h=>h.cons λ _ h=>h.cons λ _ h=>h.cons λ _ h=>h.drop.drop
 |some x=>
  rw [hf] at hprom;dsimp only at hprom;obtain ⟨hx,hfit,htk⟩:=Zkz hi.core hpl.1 hf;obtain ⟨y,hyL,hyid,hyf,hys,hyc,hym⟩:=hi.core.waits hpl.1 hx;obtain ⟨A2,a,C2,rfl,hbm⟩:=Zge hi.book hi.core.ids hyL;have hgetb:ZO x.id MB=some (nP a):=by rw [<-hi.mb,<-hyid];exact Zmy hbm
  have hhas:Ze7 x.id pl'.q=true:=Zhk.2 ⟨x,hx,rfl⟩;have hrem:Zv3 pl'.q x.id=(Zig x.id pl'.q,0):=by unfold Zv3;rw [if_pos hhas]
  have hdl:=ZoO hhas;have hw:Sat R (Zg f pl'.r::ZR q pl'.q::pts p (Zh b m1 m2)::MapAt m1 MF::MapAt m2 MB::Zi (A++C)::Zj (A2++(a,y)::C2)::fqC b4 f q::wtD bw x::Hs) w:=by
   have:=hw;unfold Zw3 at this;rw [hf] at this;exact this
  refine Br.t rfl ⟨some ⟨q,0,none⟩,oA hw,Zc.mk rfl ⟨x.id,oA hw,?_⟩⟩;refine (ZgW (by have:=hqok.len;omega) hw.swap).u λ w hw=>?_;rw [hrem] at hw ⊢;refine ⟨_,rfl,some ⟨f,0,none⟩,oA hw,Zc.mk rfl ⟨x.id,oA hw,Zc.mk rfl ⟨x.cls,oA hw,Zc.mk rfl ⟨x.many,oA hw,?_⟩⟩⟩⟩;refine (ZlZ hw.swap).u λ w hw=>?_;refine ⟨_,rfl,?_⟩;refine Zo hw λ w hw=>Zc.mk rfl ⟨some m2,oS,Zc.mk rfl ⟨x.id,oS,some ⟨a,0,none⟩,λ w' h=>?_,Zc.mk rfl ?_⟩⟩
  ·have hm1:Sat R (MapAt m2 MB::Zg f (ZQ pl'.r x.id x.cls x.many).1::ZR q (Zig x.id pl'.q)::pts p (Zh b m1 m2)::MapAt m1 MF::Zi (A++C)::Zj (A2++(a,y)::C2)::fqC b4 f q::wtD bw x::Hs) w':=Sat.arr h
   have:=MapAt.look Zwx hm1 x.id false;rw [hgetb] at this;exact this
  have hw:Sat R (Zj (A2++(a,y)::C2)::Zg f (ZQ pl'.r x.id x.cls x.many).1::ZR q (Zig x.id pl'.q)::pts p (Zh b m1 m2)::MapAt m1 MF::MapAt m2 MB::Zi (A++C)::fqC b4 f q::wtD bw x::Hs) w:=hw.arr;have hw:=ZcX.1 hw;refine sRu hw λ w hw=>?_;have hw:=ZcX.2 (hw.re (pts a (ZA (Ze2 y))));refine Zc.mk rfl ⟨x.id,x.cls,x.many,x.time,x.sc,oA hw,?_⟩;refine Za hw λ bw2 w hw=>?_;refine sRu hw λ w hw=>?_;have hw:=hw.re (wtD bw2 x);have hcore:Core (Zkc b' n x):=Zms hi.core hpl.1 hpl.2 hf;have hat2:(Zkc b' n x).at n=some (ZmQ x pl'):=Zsn hi.core hi.here;have hpl2:=Zax hat2;have hi2:Zz2 n b A C f q MB j (Zkc b' n x) (ZmQ x pl') (A2++(a,Ze2 y)::C2):=
   ⟨hprom,by have:=hi.len;show (Zig x.id pl'.q).length<j;omega,hcore,hat2,hi.now,hi.next,⟨hi.book.fset hm' (ZmQ x),by
    have:=hi.book.bset hi.core.ids Ze2;rw [hyid] at this;exact this⟩,(ZtG (show (Ze2 y).id=y.id from rfl)).trans hi.mb⟩
  obtain ⟨pl2,hpe⟩:∃ pl2,pl2=ZmQ x pl':=⟨_,rfl⟩;have hw:Sat R (Zg f pl2.r::ZR q pl2.q::wtD bw2 x::pts p (Zh b m1 m2)::MapAt m1 MF::MapAt m2 MB::Zi (A++C)::Zj (A2++(a,Ze2 y)::C2)::fqC b4 f q::wtD bw x::Hs) w:=by
   have hw:Sat R (wtD bw2 x::Zj (A2++(a,Ze2 y)::C2)::Zg f pl2.r::ZR q pl2.q::pts p (Zh b m1 m2)::MapAt m1 MF::MapAt m2 MB::Zi (A++C)::fqC b4 f q::wtD bw x::Hs) w:=by
    rw [hpe];exact hw
   exact hw.arr
  have hql2:pl2.q.length + 1=pl'.q.length:=by rw [hpe];exact hdl
  rw [<-hpe] at hi2 hat2 hpl2;have hg2:=hcore.good pl2 hpl2.1;have hqok2:=hcore.qok pl2 hpl2.1;clear hpe;refine ZC (Sat R [fqC b4 f q,VC.tru]) hw (λ w hw=>?_) λ w hw=>?_
  ·exact (hw.arr (Hs':=fqC b4 f q::Zg f pl2.r::ZR q pl2.q::wtD bw2 x::pts p (Zh b m1 m2)::MapAt m1 MF::MapAt m2 MB::Zi (A++C)::Zj (A2++(a,Ze2 y)::C2)::wtD bw x::Hs)).cons λ _ h=>h.allTru
  refine ⟨some ⟨q,0,none⟩,oS,some ⟨f,0,none⟩,oS,?_⟩;refine (ZcQ hw).u1 λ sl w hw=>?_;refine ⟨sl,rfl,?_,?_⟩
  ·exact (hw.arr (Hs':=fqC b4 f q::Own sl 3 (Ze (Zq pl2.r))::Zg f pl2.r::ZR q pl2.q::wtD bw2 x::pts p (Zh b m1 m2)::MapAt m1 MF::MapAt m2 MB::Zi (A++C)::Zj (A2++(a,Ze2 y)::C2)::wtD bw x::Hs)).cons λ _ h=>h.allTru
  have hw:Sat R (Own sl 3 (Ze (Zq pl2.r))::ZR q pl2.q::wtD bw2 x::Zg f pl2.r::pts p (Zh b m1 m2)::MapAt m1 MF::MapAt m2 MB::Zi (A++C)::Zj (A2++(a,Ze2 y)::C2)::fqC b4 f q::wtD bw x::Hs) w:=hw.arr;refine (Zf7 hqok2 (ZeH hg2) hw).u λ w hw=>?_;refine ⟨_,_,_,_,_,_,rfl,?_,?_⟩
  ·exact (hw.arr (Hs':=fqC b4 f q::Zg f pl2.r::ZR q pl2.q::wtD bw2 x::pts p (Zh b m1 m2)::MapAt m1 MF::MapAt m2 MB::Zi (A++C)::Zj (A2++(a,Ze2 y)::C2)::wtD bw x::Hs)).cons λ _ h=>h.allTru
  have hw:Sat R (wtD bw2 x::ZR q pl2.q::Zg f pl2.r::pts p (Zh b m1 m2)::MapAt m1 MF::MapAt m2 MB::Zi (A++C)::Zj (A2++(a,Ze2 y)::C2)::fqC b4 f q::wtD bw x::Hs) w:=hw.arr;refine ZZ hw (by kernel_rfl) rfl (by simp [Value.cells,wtV]) λ w hw=>?_;have hw:=hw.re (wtD bw2 ((ZaD pl2.q (Zq pl2.r)).getD Zbe));have hw:Sat R (wtD bw x::Zg f pl2.r::ZR q pl2.q::pts p (Zh b m1 m2)::MapAt m1 MF::MapAt m2 MB::Zi (A++C)::Zj (A2++(a,Ze2 y)::C2)::fqC b4 f q::wtD bw2 ((ZaD pl2.q (Zq pl2.r)).getD Zbe)::Hs) w:=hw.arr;have hw:=hw.drop;refine ⟨⟨j,_,pl2,_,bw2,hi2,rfl,rfl,hw⟩,?_⟩;show ZpB q _<ZpB q _;rw [Zog hw.swap,hql];omega
theorem Zbz {p m1 m2 f q:Nat} {b:ZU} {A C:List FE} {xs:List BE} {pl:Pl} (hl:ZaX b (A++(f,q,pl)::C) xs) {MF MB:List (Int × Value)} (hF:MF=(A++(f,q,pl)::C).map flV) (hB:MB=xs.map bkV)
  (hw:Sat R (Zg f pl.r::ZR q pl.q::pts p (Zh b m1 m2)::MapAt m1 MF::MapAt m2 MB::Zi (A++C)::Zj xs::Hs) w):Sat R (Zk p b::Hs) w:=by
 subst hF hB;have hw:Sat R (Zg f pl.r::ZR q pl.q::Zi (A++C)::pts p (Zh b m1 m2)::MapAt m1 ((A++(f,q,pl)::C).map flV)::MapAt m2 (xs.map bkV)::Zj xs::Hs) w:=hw.arr;have hw:=ZbL.2 hw;have hw:Sat R (pts p (Zh b m1 m2)::MapAt m1 ((A++(f,q,pl)::C).map flV)::MapAt m2 (xs.map bkV)::Zi (A++(f,q,pl)::C)::Zj xs::Hs) w:=hw.arr;exact Sat.book.2 ⟨m1,m2,_,xs,hl,hw⟩
theorem Zky {b:ZU} {fs:List FE} {xs:List BE} (hl:ZaX b fs xs) (k:Core b) {n:Int} {v:Value} (h:ZO n (fs.map flV)=some v):
  ∃ A f q C pl,fs=A++(f,q,pl)::C/\ZkS A C n pl/\b.at n=some pl/\v=.agg #[nP f,nP q]:=by
 cases hat:b.at n with
 |none=>rw [(Zh9 hl).2 hat] at h;cases h
 |some pl=>
  obtain ⟨A,f,q,C,rfl,hm⟩:=ZdS hl k.nums hat;rw [Zjo hm] at h;exact ⟨A,f,q,C,pl,rfl,hm,rfl,(Option.some.inj h).symm⟩
theorem Zo0 {b:ZU} {fs:List FE} {xs:List BE} (hl:ZaX b fs xs) (k:Core b) (v:Value):Ze4 b.next v (xs.map bkV)=xs.map bkV++[(b.next,v)]:=by
 have:ZO b.next (xs.map bkV)=none:=by
  rw [ZnL hl];unfold ZU.bk;rw [Zeg];intro x hx e;have:=(k.each x hx).id.2;omega
 unfold Ze4;rw [this];rfl
theorem ZoY {xs:List BE} {a:Nat} {x:Bk} (hw:Sat R (pts a (ZA x)::Zj xs::Hs) w):Sat R (Zj (xs++[(a,x)])::Hs) w:=by
 have:Sat R (pts a (ZA x)::Zj (xs++[])::Hs) w:=by rw [List.append_nil];exact hw
 exact ZcX.2 this
theorem ZtX {p:Nat} {b:ZU} {c:Cm} {sg sp:Sl} (hk:c.kind=2) (k:Core b) (hr:ZaL c) (hw:Sat R (Zk p b::Hs) w):
  Zba prog 40 #[nP p,.agg #[nI c.kind,.string c.pnr,nI c.flt,nI c.cls,nI c.many,nI c.time,.float .f64 c.sc,.string c.lab,nI c.rows,.slice sg.a sg.len sg.cap,.slice sp.a sp.len sp.cap]] w
   (λ ch w'=>∃ e,ch=Zjr e/\Zdm b c=(b,Zby e)/\Sat R (Zk p b::Hs) w')
   (λ v w'=>∃ sl sb:Sl,v=.agg (rpV (Zdm b c).2 sl sb).toArray/\Sat R (Own sl 3 (Ze (Zdm b c).2.left)::Own sb 9 ((Zdm b c).2.labs.map Value.string)::Zk p (Zdm b c).1::Hs) w'):=by
 apply Zwv
 suffices H:∀ (X:List PanicEntry->World->Prop) (K:nK),(∀ e w',Zdm b c=(b,Zby e)->Sat R (Zk p b::Hs) w'->X (Zjr e) w')->
   (∀ sl sb w',Sat R (Own sl 3 (Ze (Zdm b c).2.left)::Own sb 9 ((Zdm b c).2.labs.map Value.string)::Zk p (Zdm b c).1::Hs) w'->K (.agg (rpV (Zdm b c).2 sl sb).toArray) w')->B40 (some ⟨p,0,none⟩) c.kind c.pnr c.flt c.cls c.many c.time c.sc c.lab c.rows sg sp X K w from
  H _ _ (λ e w' h1 h2=>⟨e,rfl,h1,h2⟩) (λ sl sb w' h2=>⟨sl,sb,rfl,h2⟩)
 intro X K hX hK;obtain ⟨m1,m2,fs,xs,hl,hw⟩:=Sat.book.1 hw;have hxl:=ZoZ hl;refine Za hw λ b3 w hw=>Za hw λ b4 w hw=>?_;have hw:Sat R (Zp b4::cmC b3 c sg sp::pts p (Zh b m1 m2)::MapAt m1 (fs.map flV)::MapAt m2 (xs.map bkV)::Zi fs::Zj xs::Hs) w:=hw;refine ⟨c.flt,oA hw,?_⟩;have hw:Sat R (pts p (Zh b m1 m2)::MapAt m1 (fs.map flV)::Zp b4::cmC b3 c sg sp::MapAt m2 (xs.map bkV)::Zi fs::Zj xs::Hs) w:=hw.arr;refine (ZkP hw).use ?_ ?_
 rotate_left
 ·clear hw
  rintro _ w ⟨rfl,hno,hw⟩;refine .inr ⟨_,rfl,hX 2 w ?_ ?_⟩
  ·unfold Zdm
   rw [(Zh9 hl).1 hno]
  ·have hw:Sat R (Zp b4::cmC b3 c sg sp::pts p (Zh b m1 m2)::MapAt m1 (fs.map flV)::MapAt m2 (xs.map bkV)::Zi fs::Zj xs::Hs) w:=hw.arr
   exact Sat.book.2 ⟨m1,m2,fs,xs,hl,hw.drop.drop⟩
 clear hw;rintro _ w ⟨⟨v1,v2,hgm,rfl⟩,hw⟩;obtain ⟨A,f,q,C,pl,rfl,hm,hat,hv⟩:=Zky hl k hgm;simp only [Value.agg.injEq,Array.mk.injEq,List.cons.injEq,Value.pointer.injEq,and_true] at hv;obtain ⟨rfl,rfl⟩:=hv;obtain ⟨MF,hMF⟩:∃ M,M=(A++(f,q,pl)::C).map flV:=⟨_,rfl⟩;obtain ⟨MB,hMB⟩:∃ M,M=xs.map bkV:=⟨_,rfl⟩;have hMBl:MB.length=b.L.length:=by rw [hMB,List.length_map];exact hxl
 rw [<-hMF,<-hMB] at hw;have hw:Sat R (Zi (A++(f,q,pl)::C)::cmC b3 c sg sp::Zp b4::pts p (Zh b m1 m2)::MapAt m1 MF::MapAt m2 MB::Zj xs::Hs) w:=hw.arr;have hw:=ZbL.1 hw;refine .inl ⟨_,_,rfl,?_⟩;refine Za hw λ b5 w hw=>?_;refine sRu hw λ w hw=>?_;have hw:=hw.re (fqC b5 f q);refine ZaV hw λ w hw=>?_;refine Zc.mk rfl ⟨b.next,oS,c.flt,oS,c.cls,oS,c.many,oS,c.time,oS,?_⟩;refine Za hw λ bx w hw=>⟨hw.absorb,?_⟩;have hw:Sat R (pts bx (ZA (Zat b c))::fqC b5 f q::Zg f pl.r::ZR q pl.q::Zi (A++C)::cmC b3 c sg sp::Zp b4::pts p (Zh b m1 m2)::MapAt m1 MF::MapAt m2 MB::Zj xs::Hs) w:=by
  have hw:Sat R (pts bx (ZA (Zat b c))::VC.tru::fqC b5 f q::Zg f pl.r::ZR q pl.q::Zi (A++C)::cmC b3 c sg sp::Zp b4::pts p (Zh b m1 m2)::MapAt m1 MF::MapAt m2 MB::Zj xs::Hs) w:=hw;exact hw.cons λ _ h=>h.drop
 have close:∀ {w},Sat R (pts bx (ZA (Zat b c))::fqC b5 f q::Zg f pl.r::ZR q pl.q::Zi (A++C)::cmC b3 c sg sp::Zp b4::pts p (Zh b m1 m2)::MapAt m1 MF::MapAt m2 MB::Zj xs::Hs) w->Sat R (Zk p b::Hs) w:=λ {w} hw=>by
  have hw:Sat R (pts bx (ZA (Zat b c))::fqC b5 f q::cmC b3 c sg sp::Zp b4::Zg f pl.r::ZR q pl.q::pts p (Zh b m1 m2)::MapAt m1 MF::MapAt m2 MB::Zi (A++C)::Zj xs::Hs) w:=hw.arr;exact Zbz hl hMF hMB hw.drop.drop.drop.drop
 have hheld:∀ {e},Zdm b c=e↔(if c.time<=b.now then (b,Zby 1) else if b.full then (b,Zby 3)
   else if (ZQ pl.r b.next c.cls c.many).2≠0 then (b,Zby (ZQ pl.r b.next c.cls c.many).2)
   else ({ b.put c.flt (takeP b.next c.cls c.many) (b.L++[Zat b c]) with next:=b.next + 1 },ZdL (takeP b.next c.cls c.many pl) (Zat b c)))=e:=by
  intro e;unfold Zdm;rw [hat]
 refine ⟨λ w=>¬ c.time<=b.now/\Sat R (pts bx (ZA (Zat b c))::fqC b5 f q::Zg f pl.r::ZR q pl.q::Zi (A++C)::cmC b3 c sg sp::Zp b4::pts p (Zh b m1 m2)::MapAt m1 MF::MapAt m2 MB::Zj xs::Hs) w,?_,?_⟩
 ·refine ⟨c.kind,oA hw,Br.e (λ _=>?_) (λ h=>absurd hk h)⟩
  refine Zo hw λ w hw=>⟨c.time,oS,Zc.mk rfl ⟨b.now,oS,?_⟩⟩;refine Zce (λ h=>.inl ⟨rfl,hw,?_,hw⟩) (λ h=>.inr ⟨_,rfl,hX 1 w ?_ (close hw)⟩)
  ·have:=of_decide_eq_true h;omega
  ·have:=of_decide_eq_false h
   exact hheld.2 (by rw [if_pos (by omega)])
 clear hw;rintro _ w ⟨ht,hw⟩;refine ⟨λ w=>¬ b.full/\Sat R (pts bx (ZA (Zat b c))::fqC b5 f q::Zg f pl.r::ZR q pl.q::Zi (A++C)::cmC b3 c sg sp::Zp b4::pts p (Zh b m1 m2)::MapAt m1 MF::MapAt m2 MB::Zj xs::Hs) w,?_,?_⟩
 ·refine Zc.mk rfl ⟨some m2,oA hw,(MB.length:Int),λ w' e=>?_,?_⟩
  ·rw [show w'=w from e]
   have hm1:Sat R (MapAt m2 MB::pts bx (ZA (Zat b c))::fqC b5 f q::Zg f pl.r::ZR q pl.q::Zi (A++C)::cmC b3 c sg sp::Zp b4::pts p (Zh b m1 m2)::MapAt m1 MF::Zj xs::Hs) w:=hw.arr;exact MapAt.len (by kernel_rfl) hm1
  rw [hMBl]
  with_reducible refine Br.d (λ h3=>?_) (λ h3=>?_)
  ·refine Zc.mk rfl ⟨b.next,oA hw,?_⟩
   refine Zce (λ h=>.inl ⟨rfl,?_,hw⟩) (λ h=>.inr ⟨_,rfl,hX 3 w ?_ (close hw)⟩)
   ·have:=of_decide_eq_true h
    unfold ZU.full;omega
   ·have:=of_decide_eq_false h
    exact hheld.2 (by rw [if_neg ht,if_pos (.inr (by omega))])
  ·exact Zce (λ h=>by cases h) (λ h=>.inr ⟨_,rfl,hX 3 w (hheld.2 (by rw [if_neg ht,if_pos (.inl (by omega))])) (close hw)⟩)
 clear hw;rintro _ w ⟨hf,hw⟩;have hnext:=k.next;have hf2:b.L.length<300/\b.next<28629151:=by unfold ZU.full at hf;omega
 obtain ⟨r2,hr2⟩:∃ r2,r2=(ZQ pl.r b.next c.cls c.many).1:=⟨_,rfl⟩;refine ⟨λ w=>(ZQ pl.r b.next c.cls c.many).2=0/\Sat R (pts bx (ZA (Zat b c))::fqC b5 f q::Zg f r2::ZR q pl.q::Zi (A++C)::cmC b3 c sg sp::Zp b4::pts p (Zh b m1 m2)::MapAt m1 MF::MapAt m2 MB::Zj xs::Hs) w,?_,?_⟩
 ·refine ⟨c.kind,oA hw,Br.e (λ _=>?_) (λ h=>absurd hk h)⟩
  refine ZC (Sat R [fqC b5 f q,pts bx (ZA (Zat b c)),VC.tru]) hw (λ w hw=>?_) λ w hw=>?_
  ·exact (hw.arr (Hs':=fqC b5 f q::pts bx (ZA (Zat b c))::Zg f pl.r::ZR q pl.q::Zi (A++C)::cmC b3 c sg sp::Zp b4::pts p (Zh b m1 m2)::MapAt m1 MF::MapAt m2 MB::Zj xs::Hs)).cons λ _ h=>h.restTru2
  refine ⟨some ⟨f,0,none⟩,oS,b.next,oS,c.cls,oS,c.many,oS,?_⟩;have hw:Sat R (Zg f pl.r::pts bx (ZA (Zat b c))::fqC b5 f q::ZR q pl.q::Zi (A++C)::cmC b3 c sg sp::Zp b4::pts p (Zh b m1 m2)::MapAt m1 MF::MapAt m2 MB::Zj xs::Hs) w:=hw.arr;refine (ZlZ hw).u λ w hw=>?_;refine .inl ⟨_,rfl,?_⟩;refine Zfn (λ h0=>.inl ⟨rfl,?_,h0,?_⟩) (λ h0=>.inr ⟨_,rfl,hX _ w (hheld.2 (by rw [if_neg ht,if_neg hf,if_pos h0])) ?_⟩)
  ·exact (hw.arr (Hs':=fqC b5 f q::pts bx (ZA (Zat b c))::Zg f (ZQ pl.r b.next c.cls c.many).1::ZR q pl.q::Zi (A++C)::cmC b3 c sg sp::Zp b4::pts p (Zh b m1 m2)::MapAt m1 MF::MapAt m2 MB::Zj xs::Hs)).cons λ _ h=>h.restTru2
  ·rw [hr2];exact hw.arr
  ·rw [Zq2 h0] at hw
   have hw:Sat R (pts bx (ZA (Zat b c))::fqC b5 f q::Zg f pl.r::ZR q pl.q::Zi (A++C)::cmC b3 c sg sp::Zp b4::pts p (Zh b m1 m2)::MapAt m1 MF::MapAt m2 MB::Zj xs::Hs) w:=hw.arr;exact close hw
 clear hw;rintro _ w ⟨h0,hw⟩;have hcore:=Zik k hr hat hf h0;have hres:Zdm b c=({ b.put c.flt (takeP b.next c.cls c.many) (b.L++[Zat b c]) with next:=b.next + 1 },ZdL (takeP b.next c.cls c.many pl) (Zat b c)):=hheld.2 (by rw [if_neg ht,if_neg hf,if_neg (λ h=>h h0)]);obtain ⟨nb,hnb⟩:∃ nb,nb={ b.put c.flt (takeP b.next c.cls c.many) (b.L++[Zat b c]) with next:=b.next + 1 }:=⟨_,rfl⟩;obtain ⟨pl2,hp2⟩:∃ pl2,pl2=takeP b.next c.cls c.many pl:=⟨_,rfl⟩;rw [<-hnb] at hres hcore;rw [<-hp2] at hres;have hn2:pl2.n=c.flt:=by rw [hp2];exact (Zc5 (r:=pl.r) (o:=b.next) (c:=c.cls) (m:=c.many)).1.trans hm.num
 have hm2:ZkS A C c.flt pl2:=⟨hn2,hm.a,hm.c⟩;have hMF2:MF=(A++(f,q,pl2)::C).map flV:=by rw [hMF];exact Zft hn2 hm.num
 have hl2:ZaX nb (A++(f,q,pl2)::C) (xs++[(bx,Zat b c)]):=by
  refine ⟨?_,?_⟩
  ·rw [hnb,hp2]
   exact hl.fset hm (takeP b.next c.cls c.many)
  ·rw [hnb,List.map_append,hl.bk]
   rfl
 have hMB2:MB++[(b.next,Value.pointer (some ⟨bx,0,none⟩))]=(xs++[(bx,Zat b c)]).map bkV:=by rw [hMB,List.map_append];rfl
 have hput:Ze4 b.next (nP bx) MB=MB++[(b.next,Value.pointer (some ⟨bx,0,none⟩))]:=by rw [hMB];exact Zo0 hl k _
 have hr22:r2=pl2.r:=by rw [hr2,hp2];rfl
 have hq2:pl.q=pl2.q:=by rw [hp2];rfl
 rw [hr22,hq2] at hw;refine Zo hw λ w hw=>Zc.mk rfl ⟨some m2,oS,b.next,oS,?_⟩;have hw:Sat R (MapAt m2 MB::pts bx (ZA (Zat b c))::fqC b5 f q::Zg f pl2.r::ZR q pl2.q::Zi (A++C)::cmC b3 c sg sp::Zp b4::pts p (Zh b m1 m2)::MapAt m1 MF::Zj xs::Hs) w:=hw.arr;refine MapAt.put Zwx hw b.next (nP bx) λ w hw=>?_;rw [hput] at hw;refine Zc.mk rfl ⟨b.next,oA hw,Zc.mk rfl ?_⟩;have hw:Sat R (pts p (Zh b m1 m2)::MapAt m2 (MB++[(b.next,Value.pointer (some ⟨bx,0,none⟩))])::pts bx (ZA (Zat b c))::fqC b5 f q::Zg f pl2.r::ZR q pl2.q::Zi (A++C)::cmC b3 c sg sp::Zp b4::MapAt m1 MF::Zj xs::Hs) w:=hw.arr;rw [Zf (x:=b.next + 1)];refine sRu hw λ w hw=>?_;have hw:Sat R (pts p (Zh nb m1 m2)::MapAt m2 (MB++[(b.next,Value.pointer (some ⟨bx,0,none⟩))])::pts bx (ZA (Zat b c))::fqC b5 f q::Zg f pl2.r::ZR q pl2.q::Zi (A++C)::cmC b3 c sg sp::Zp b4::MapAt m1 MF::Zj xs::Hs) w:=by
  rw [hnb];exact hw.re (pts p (Zh { b.put c.flt (takeP b.next c.cls c.many) (b.L++[Zat b c]) with next:=b.next + 1 } m1 m2))
 refine ⟨c.kind,oA hw,Br.e (λ h=>by omega) (λ _=>?_)⟩;have hw:Sat R (pts p (Zh nb m1 m2)::MapAt m1 ((A++(f,q,pl2)::C).map flV)::pts bx (ZA (Zat b c))::Zg f pl2.r::MapAt m2 (MB++[(b.next,Value.pointer (some ⟨bx,0,none⟩))])::fqC b5 f q::ZR q pl2.q::Zi (A++C)::cmC b3 c sg sp::Zp b4::Zj xs::Hs) w:=by
  rw [<-hMF2];exact hw.arr
 refine (ZfA (x:=Zat b c) (by show 0<=b.next/\b.next<28629151;omega) hm2 hw).use ?_;clear hw;rintro _ w ⟨sl,sb,rfl,hw⟩;refine .inl ⟨_,_,_,_,_,_,_,sl,sb,rfl,?_⟩;rw [<-hMF2] at hw;have hw:Sat R (Zp b4::Own sl 3 (Ze (Zq pl2.r))::Own sb 9 ((ZaY pl2.r (Zat b c).id).map Value.string)::pts bx (ZA (Zat b c))::Zj xs::Zg f pl2.r::ZR q pl2.q::pts p (Zh nb m1 m2)::MapAt m1 MF::MapAt m2 (MB++[(b.next,Value.pointer (some ⟨bx,0,none⟩))])::Zi (A++C)::fqC b5 f q::cmC b3 c sg sp::Hs) w:=hw.arr;refine sRu hw λ w hw=>?_;have hw:=hw.re (rpC b4 (ZdL pl2 (Zat b c)) sl sb);refine ⟨_,_,_,_,_,_,_,sl,sb,oA hw,?_⟩;have hfin:=hK sl sb w;rw [hres] at hfin;refine hfin ?_;refine hw.drop.cons λ _ hw=>hw.cons λ _ hw=>?_;have hw:=ZoY hw;have hw:Sat _ (Zg f pl2.r::ZR q pl2.q::pts p (Zh nb m1 m2)::MapAt m1 MF::MapAt m2 (MB++[(b.next,Value.pointer (some ⟨bx,0,none⟩))])::Zi (A++C)::Zj (xs++[(bx,Zat b c)])::fqC b5 f q::cmC b3 c sg sp::Hs) w:=hw.arr;exact (Zbz hl2 hMF2 hMB2 hw).cons λ _ h=>h.drop.drop
theorem ZnK {b:ZU} {fs:List FE} {xs:List BE} (hl:ZaX b fs xs) (k:Core b) (v:Value):ZO b.next (xs.map bkV++[(b.next,v)])=some v:=by
 refine Zkv λ e he=>?_;obtain ⟨e',h1,rfl⟩:=List.mem_map.1 he;have:e'.2∈b.L:=by rw [<-hl.bk];exact List.mem_map.2 ⟨e',h1,rfl⟩
 have:=(k.each _ this).id.2;show e'.2.id≠b.next;omega
theorem ZtW {p:Nat} {b:ZU} {c:Cm} {sg sp:Sl} (hk:c.kind=7) (k0:Zau b) (hr:ZaL c) (hsc:c.sc<18446744073709551616) (hw:Sat R (Zk p b::Hs) w):
  Zba prog 40 #[nP p,.agg #[nI c.kind,.string c.pnr,nI c.flt,nI c.cls,nI c.many,nI c.time,.float .f64 c.sc,.string c.lab,nI c.rows,.slice sg.a sg.len sg.cap,.slice sp.a sp.len sp.cap]] w
   (λ ch w'=>∃ e,ch=Zjr e/\ZbC b c=(b,Zby e)/\Sat R (Zk p b::Hs) w')
   (λ v w'=>∃ sl sb:Sl,v=.agg (rpV (ZbC b c).2 sl sb).toArray/\Sat R (Own sl 3 (Ze (ZbC b c).2.left)::Own sb 9 ((ZbC b c).2.labs.map Value.string)::Zk p (ZbC b c).1::Hs) w'):=by
 apply Zwv
 suffices H:∀ (X:List PanicEntry->World->Prop) (K:nK),(∀ e w',ZbC b c=(b,Zby e)->Sat R (Zk p b::Hs) w'->X (Zjr e) w')->
   (∀ sl sb w',Sat R (Own sl 3 (Ze (ZbC b c).2.left)::Own sb 9 ((ZbC b c).2.labs.map Value.string)::Zk p (ZbC b c).1::Hs) w'->K (.agg (rpV (ZbC b c).2 sl sb).toArray) w')->B40 (some ⟨p,0,none⟩) c.kind c.pnr c.flt c.cls c.many c.time c.sc c.lab c.rows sg sp X K w from
  H _ _ (λ e w' h1 h2=>⟨e,rfl,h1,h2⟩) (λ sl sb w' h2=>⟨sl,sb,rfl,h2⟩)
 intro X K hX hK;have k:=k0.core;obtain ⟨m1,m2,fs,xs,hl,hw⟩:=Sat.book.1 hw;have hxl:=ZoZ hl;refine Za hw λ b3 w hw=>Za hw λ b4 w hw=>?_;have hw:Sat R (Zp b4::cmC b3 c sg sp::pts p (Zh b m1 m2)::MapAt m1 (fs.map flV)::MapAt m2 (xs.map bkV)::Zi fs::Zj xs::Hs) w:=hw;refine ⟨c.flt,oA hw,?_⟩;have hw:Sat R (pts p (Zh b m1 m2)::MapAt m1 (fs.map flV)::Zp b4::cmC b3 c sg sp::MapAt m2 (xs.map bkV)::Zi fs::Zj xs::Hs) w:=hw.arr;refine (ZkP hw).use ?_ ?_
 rotate_left
 ·clear hw
  rintro _ w ⟨rfl,hno,hw⟩;refine .inr ⟨_,rfl,hX 2 w ?_ ?_⟩
  ·unfold ZbC
   rw [(Zh9 hl).1 hno]
  ·have hw:Sat R (Zp b4::cmC b3 c sg sp::pts p (Zh b m1 m2)::MapAt m1 (fs.map flV)::MapAt m2 (xs.map bkV)::Zi fs::Zj xs::Hs) w:=hw.arr
   exact Sat.book.2 ⟨m1,m2,fs,xs,hl,hw.drop.drop⟩
 clear hw;rintro _ w ⟨⟨v1,v2,hgm,rfl⟩,hw⟩;obtain ⟨A,f,q,C,pl,rfl,hm,hat,hv⟩:=Zky hl k hgm;simp only [Value.agg.injEq,Array.mk.injEq,List.cons.injEq,Value.pointer.injEq,and_true] at hv;obtain ⟨rfl,rfl⟩:=hv;obtain ⟨MF,hMF⟩:∃ M,M=(A++(f,q,pl)::C).map flV:=⟨_,rfl⟩;obtain ⟨MB,hMB⟩:∃ M,M=xs.map bkV:=⟨_,rfl⟩;have hMBl:MB.length=b.L.length:=by rw [hMB,List.length_map];exact hxl
 rw [<-hMF,<-hMB] at hw;have hw:Sat R (Zi (A++(f,q,pl)::C)::cmC b3 c sg sp::Zp b4::pts p (Zh b m1 m2)::MapAt m1 MF::MapAt m2 MB::Zj xs::Hs) w:=hw.arr;have hw:=ZbL.1 hw;refine .inl ⟨_,_,rfl,?_⟩;refine Za hw λ b5 w hw=>?_;refine sRu hw λ w hw=>?_;have hw:=hw.re (fqC b5 f q);refine ZaV hw λ w hw=>?_;refine Zc.mk rfl ⟨b.next,oS,c.flt,oS,c.cls,oS,c.many,oS,c.time,oS,?_⟩;refine Za hw λ bx w hw=>⟨hw.absorb,?_⟩;have hw:Sat R (pts bx (ZA (Zat b c))::fqC b5 f q::Zg f pl.r::ZR q pl.q::Zi (A++C)::cmC b3 c sg sp::Zp b4::pts p (Zh b m1 m2)::MapAt m1 MF::MapAt m2 MB::Zj xs::Hs) w:=by
  have hw:Sat R (pts bx (ZA (Zat b c))::VC.tru::fqC b5 f q::Zg f pl.r::ZR q pl.q::Zi (A++C)::cmC b3 c sg sp::Zp b4::pts p (Zh b m1 m2)::MapAt m1 MF::MapAt m2 MB::Zj xs::Hs) w:=hw;exact hw.cons λ _ h=>h.drop
 have close:∀ {w},Sat R (pts bx (ZA (Zat b c))::fqC b5 f q::Zg f pl.r::ZR q pl.q::Zi (A++C)::cmC b3 c sg sp::Zp b4::pts p (Zh b m1 m2)::MapAt m1 MF::MapAt m2 MB::Zj xs::Hs) w->Sat R (Zk p b::Hs) w:=λ {w} hw=>by
  have hw:Sat R (pts bx (ZA (Zat b c))::fqC b5 f q::cmC b3 c sg sp::Zp b4::Zg f pl.r::ZR q pl.q::pts p (Zh b m1 m2)::MapAt m1 MF::MapAt m2 MB::Zi (A++C)::Zj xs::Hs) w:=hw.arr;exact Zbz hl hMF hMB hw.drop.drop.drop.drop
 have hwait:∀ {e},ZbC b c=e↔(if (pl.r.lims.length:Int)<=c.cls then (b,Zby 1) else if b.full then (b,Zby 3)
   else if (ZcL pl.q (Zdh b c)).2≠0 then (b,Zby (ZcL pl.q (Zdh b c)).2)
   else (ZV c.flt (Zcc b c),match (ZV c.flt (Zcc b c)).bk b.next with
    |none=>Zby 0
    |some x=>ZdM (ZV c.flt (Zcc b c)) x))=e:=by
  intro e;unfold ZbC;rw [hat];exact Iff.rfl
 have hpl:=Zax hat;have closeW:∀ {w},Sat R (pts bx (ZA (ZbS b c))::fqC b5 f q::Zg f pl.r::ZR q pl.q::Zi (A++C)::cmC b3 c sg sp::Zp b4::pts p (Zh b m1 m2)::MapAt m1 MF::MapAt m2 MB::Zj xs::Hs) w->Sat R (Zk p b::Hs) w:=λ {w} hw=>by
  have hw:Sat R (pts bx (ZA (ZbS b c))::fqC b5 f q::cmC b3 c sg sp::Zp b4::Zg f pl.r::ZR q pl.q::pts p (Zh b m1 m2)::MapAt m1 MF::MapAt m2 MB::Zi (A++C)::Zj xs::Hs) w:=hw.arr;exact Zbz hl hMF hMB hw.drop.drop.drop.drop
 refine ⟨λ w=>¬ (pl.r.lims.length:Int)<=c.cls/\Sat R (pts bx (ZA (ZbS b c))::fqC b5 f q::Zg f pl.r::ZR q pl.q::Zi (A++C)::cmC b3 c sg sp::Zp b4::pts p (Zh b m1 m2)::MapAt m1 MF::MapAt m2 MB::Zj xs::Hs) w,?_,?_⟩
 ·refine ⟨c.kind,oA hw,Br.e (λ h=>by omega) (λ _=>?_)⟩
  refine ZC (Sat R [cmC b3 c sg sp,fqC b5 f q,VC.tru]) hw (λ w hw=>?_) λ w hw=>?_
  ·exact (hw.arr (Hs':=cmC b3 c sg sp::fqC b5 f q::pts bx (ZA (Zat b c))::Zg f pl.r::ZR q pl.q::Zi (A++C)::Zp b4::pts p (Zh b m1 m2)::MapAt m1 MF::MapAt m2 MB::Zj xs::Hs)).cons λ _ h=>h.restTru2
  refine ⟨c.cls,oS,some ⟨f,0,none⟩,oS,?_⟩;have hw:Sat R (Zg f pl.r::pts bx (ZA (Zat b c))::fqC b5 f q::ZR q pl.q::Zi (A++C)::cmC b3 c sg sp::Zp b4::pts p (Zh b m1 m2)::MapAt m1 MF::MapAt m2 MB::Zj xs::Hs) w:=hw.arr;refine (ZcQ hw).u1 λ sl w hw=>?_;have hsl:=Own.len hw;rw [List.length_map,ZfS] at hsl;have hw:Sat R (pts bx (ZA (Zat b c))::fqC b5 f q::Zg f pl.r::ZR q pl.q::Zi (A++C)::cmC b3 c sg sp::Zp b4::pts p (Zh b m1 m2)::MapAt m1 MF::MapAt m2 MB::Zj xs::Hs) w:=by
   have hw:=hw.drop;exact hw.arr
  have hS:Sat R [cmC b3 c sg sp,fqC b5 f q,VC.tru] w:=(hw.arr (Hs':=cmC b3 c sg sp::fqC b5 f q::pts bx (ZA (Zat b c))::Zg f pl.r::ZR q pl.q::Zi (A++C)::Zp b4::pts p (Zh b m1 m2)::MapAt m1 MF::MapAt m2 MB::Zj xs::Hs)).cons λ _ h=>h.restTru2;refine .inl ⟨sl,rfl,hS,?_⟩;refine Zce (λ h=>.inl ⟨rfl,hS,?_⟩) (λ h=>.inr ⟨_,rfl,hX 1 w ?_ (close hw)⟩)
  ·have:=of_decide_eq_true h
   clear hS;refine sRu hw λ w hw=>?_;refine ZZ hw (by kernel_rfl) rfl (by rw [ZbG];simp [Value.cells]) λ w hw=>?_;have hw:=hw.re (pts bx (ZA (ZbS b c)));exact ⟨by omega,hw⟩
  ·have:=of_decide_eq_false h
   exact hwait.2 (by rw [if_pos (by omega)])
 clear hw;rintro _ w ⟨ht,hw⟩;refine ⟨λ w=>¬ b.full/\Sat R (pts bx (ZA (ZbS b c))::fqC b5 f q::Zg f pl.r::ZR q pl.q::Zi (A++C)::cmC b3 c sg sp::Zp b4::pts p (Zh b m1 m2)::MapAt m1 MF::MapAt m2 MB::Zj xs::Hs) w,?_,?_⟩
 ·refine Zc.mk rfl ⟨some m2,oA hw,(MB.length:Int),λ w' e=>?_,?_⟩
  ·rw [show w'=w from e]
   have hm1:Sat R (MapAt m2 MB::pts bx (ZA (ZbS b c))::fqC b5 f q::Zg f pl.r::ZR q pl.q::Zi (A++C)::cmC b3 c sg sp::Zp b4::pts p (Zh b m1 m2)::MapAt m1 MF::Zj xs::Hs) w:=hw.arr;exact MapAt.len (by kernel_rfl) hm1
  rw [hMBl]
  with_reducible refine Br.d (λ h3=>?_) (λ h3=>?_)
  ·refine Zc.mk rfl ⟨b.next,oA hw,?_⟩
   refine Zce (λ h=>.inl ⟨rfl,?_,hw⟩) (λ h=>.inr ⟨_,rfl,hX 3 w ?_ (closeW hw)⟩)
   ·have:=of_decide_eq_true h
    unfold ZU.full;omega
   ·have:=of_decide_eq_false h
    exact hwait.2 (by rw [if_neg ht,if_pos (.inr (by omega))])
  ·exact Zce (λ h=>by cases h) (λ h=>.inr ⟨_,rfl,hX 3 w (hwait.2 (by rw [if_neg ht,if_pos (.inl (by omega))])) (closeW hw)⟩)
 clear hw;rintro _ w ⟨hf,hw⟩;have hnext:=k.next;have hf2:b.L.length<300/\b.next<28629151:=by unfold ZU.full at hf;omega
 have hqok:=k.qok pl hpl.1;obtain ⟨q2,hq2⟩:∃ q2,q2=(ZcL pl.q (Zdh b c)).1:=⟨_,rfl⟩;refine ⟨λ w=>(ZcL pl.q (Zdh b c)).2=0/\Sat R (pts bx (ZA (ZbS b c))::fqC b5 f q::Zg f pl.r::ZR q q2::Zi (A++C)::cmC b3 c sg sp::Zp b4::pts p (Zh b m1 m2)::MapAt m1 MF::MapAt m2 MB::Zj xs::Hs) w,?_,?_⟩
 ·refine ⟨c.kind,oA hw,Br.e (λ h=>by omega) (λ _=>?_)⟩
  refine ZC (Sat R [fqC b5 f q,pts bx (ZA (ZbS b c)),pts p (Zh b m1 m2),cmC b3 c sg sp,VC.tru]) hw (λ w hw=>?_) λ w hw=>?_
  ·exact (hw.arr (Hs':=fqC b5 f q::pts bx (ZA (ZbS b c))::pts p (Zh b m1 m2)::cmC b3 c sg sp::Zg f pl.r::ZR q pl.q::Zi (A++C)::Zp b4::MapAt m1 MF::MapAt m2 MB::Zj xs::Hs)).cons λ _ h=>h.cons λ _ h=>h.cons λ _ h=>h.restTru2
  refine ⟨some ⟨q,0,none⟩,oS,b.next,oS,c.cls,oS,c.many,oS,Zc.mk rfl ⟨b.now,oS,c.sc,oS,?_⟩⟩;have hw:Sat R (ZR q pl.q::pts bx (ZA (ZbS b c))::fqC b5 f q::Zg f pl.r::Zi (A++C)::cmC b3 c sg sp::Zp b4::pts p (Zh b m1 m2)::MapAt m1 MF::MapAt m2 MB::Zj xs::Hs) w:=hw.arr;refine (ZrS (x:=Zdh b c) hqok hw).u λ w hw=>?_;have hS:Sat R [fqC b5 f q,pts bx (ZA (ZbS b c)),pts p (Zh b m1 m2),cmC b3 c sg sp,VC.tru] w:=(hw.arr (Hs':=fqC b5 f q::pts bx (ZA (ZbS b c))::pts p (Zh b m1 m2)::cmC b3 c sg sp::Zg f pl.r::ZR q (ZcL pl.q (Zdh b c)).1::Zi (A++C)::Zp b4::MapAt m1 MF::MapAt m2 MB::Zj xs::Hs)).cons λ _ h=>h.cons λ _ h=>h.cons λ _ h=>h.restTru2;refine .inl ⟨_,rfl,hS,?_⟩;refine Zfn (λ h0=>.inl ⟨rfl,hS,h0,?_⟩) (λ h0=>.inr ⟨_,rfl,hX _ w (hwait.2 (by rw [if_neg ht,if_neg hf,if_pos h0])) ?_⟩)
  ·rw [hq2];exact hw.arr
  ·have hno:(ZcL pl.q (Zdh b c)).1=pl.q:=by
    unfold ZcL at h0 ⊢;split at h0<;>rename_i h1
    ·rw [if_pos h1]
    ·rw [if_neg h1]
     split at h0<;>rename_i h2
     ·rw [if_pos h2]
     ·rw [if_neg h2]
      split at h0<;>rename_i h3
      ·rw [if_pos h3]
      ·exact absurd rfl h0
   rw [hno] at hw;have hw:Sat R (pts bx (ZA (ZbS b c))::fqC b5 f q::Zg f pl.r::ZR q pl.q::Zi (A++C)::cmC b3 c sg sp::Zp b4::pts p (Zh b m1 m2)::MapAt m1 MF::MapAt m2 MB::Zj xs::Hs) w:=hw.arr;exact closeW hw
 clear hw;rintro _ w ⟨h0,hw⟩;have hcore:=Zij k hr hsc hat ht hf h0;obtain ⟨y,hyL,hyid,hyf,hyc,hym,hyt,hres⟩:∃ y,y∈(ZV c.flt (Zcc b c)).L/\y.id=b.next/\y.flt=c.flt/\y.cls=c.cls/\y.many=c.many/\y.till=0/\ZbC b c=(ZV c.flt (Zcc b c),ZdM (ZV c.flt (Zcc b c)) y):=by
  rcases ZiK k0 hr hsc with ⟨h1,_⟩|⟨_,y,_,_,_,_,_,h1,h2,h3,h4,h5,h6,h7⟩
  ·exfalso
   rw [hwait.2 (by rw [if_neg ht,if_neg hf,if_neg (λ h=>h h0)])] at h1;refine h1 ?_;dsimp only;split
   ·rfl
   ·exact Zhv
  ·exact ⟨y,h1,h2,h3,h4,h5,h6,h7⟩
 obtain ⟨nb,hnb⟩:∃ nb,nb=Zcc b c:=⟨_,rfl⟩;obtain ⟨pl2,hp2⟩:∃ pl2,pl2=ZwH (Zdh b c) pl:=⟨_,rfl⟩;rw [<-hnb] at hres hcore hyL;have hn2:pl2.n=c.flt:=by rw [hp2];exact hm.num
 have hm2:ZkS A C c.flt pl2:=⟨hn2,hm.a,hm.c⟩;have hMF2:MF=(A++(f,q,pl2)::C).map flV:=by rw [hMF];exact Zft hn2 hm.num
 have hl2:ZaX nb (A++(f,q,pl2)::C) (xs++[(bx,ZbS b c)]):=by
  refine ⟨?_,?_⟩
  ·rw [hnb,hp2]
   exact hl.fset hm (ZwH (Zdh b c))
  ·rw [hnb,List.map_append,hl.bk]
   rfl
 have hMB2:MB++[(b.next,Value.pointer (some ⟨bx,0,none⟩))]=(xs++[(bx,ZbS b c)]).map bkV:=by rw [hMB,List.map_append];rfl
 have hput:Ze4 b.next (nP bx) MB=MB++[(b.next,Value.pointer (some ⟨bx,0,none⟩))]:=by rw [hMB];exact Zo0 hl k _
 have hbget:ZO b.next (MB++[(b.next,Value.pointer (some ⟨bx,0,none⟩))])=some (nP bx):=by rw [hMB];exact ZnK hl k _
 have hq22:q2=pl2.q:=by rw [hq2,hp2,(Zi6 h0).2.2.2];rfl
 have hr22:pl.r=pl2.r:=by rw [hp2];rfl
 rw [hr22,hq22] at hw;have hat2:nb.at c.flt=some pl2:=(Zip hcore).2 ⟨hl2.fl.mem_iff.1 (List.mem_map.2 ⟨(f,q,pl2),by simp,rfl⟩),hn2⟩;refine Zo hw λ w hw=>Zc.mk rfl ⟨some m2,oS,b.next,oS,?_⟩;have hw:Sat R (MapAt m2 MB::pts bx (ZA (ZbS b c))::fqC b5 f q::Zg f pl2.r::ZR q pl2.q::Zi (A++C)::cmC b3 c sg sp::Zp b4::pts p (Zh b m1 m2)::MapAt m1 MF::Zj xs::Hs) w:=hw.arr;refine MapAt.put Zwx hw b.next (nP bx) λ w hw=>?_;rw [hput] at hw;refine Zc.mk rfl ⟨b.next,oA hw,Zc.mk rfl ?_⟩;have hw:Sat R (pts p (Zh b m1 m2)::MapAt m2 (MB++[(b.next,Value.pointer (some ⟨bx,0,none⟩))])::pts bx (ZA (ZbS b c))::fqC b5 f q::Zg f pl2.r::ZR q pl2.q::Zi (A++C)::cmC b3 c sg sp::Zp b4::MapAt m1 MF::Zj xs::Hs) w:=hw.arr;rw [Zf (x:=b.next + 1)];refine sRu hw λ w hw=>?_;have hw:Sat R (pts p (Zh nb m1 m2)::MapAt m2 (MB++[(b.next,Value.pointer (some ⟨bx,0,none⟩))])::pts bx (ZA (ZbS b c))::fqC b5 f q::Zg f pl2.r::ZR q pl2.q::Zi (A++C)::cmC b3 c sg sp::Zp b4::MapAt m1 MF::Zj xs::Hs) w:=by
  rw [hnb];exact hw.re (pts p (Zh (Zcc b c) m1 m2))
 refine ⟨c.kind,oA hw,Br.e (λ _=>?_) (λ h=>absurd hk h)⟩;refine ⟨c.flt,oA hw,?_⟩;have hw:Sat R (pts bx (ZA (ZbS b c))::Zj xs::Zg f pl2.r::ZR q pl2.q::Zi (A++C)::pts p (Zh nb m1 m2)::MapAt m1 MF::MapAt m2 (MB++[(b.next,Value.pointer (some ⟨bx,0,none⟩))])::fqC b5 f q::cmC b3 c sg sp::Zp b4::Hs) w:=hw.arr;have hw:=ZoY hw;have hw:Sat R (Zg f pl2.r::ZR q pl2.q::Zi (A++C)::Zj (xs++[(bx,ZbS b c)])::pts p (Zh nb m1 m2)::MapAt m1 MF::MapAt m2 (MB++[(b.next,Value.pointer (some ⟨bx,0,none⟩))])::fqC b5 f q::cmC b3 c sg sp::Zp b4::Hs) w:=hw.arr;have hw:=ZbL.2 hw;rw [hMF2,hMB2] at hw;have hw:Sat R (pts p (Zh nb m1 m2)::MapAt m1 ((A++(f,q,pl2)::C).map flV)::MapAt m2 ((xs++[(bx,ZbS b c)]).map bkV)::Zi (A++(f,q,pl2)::C)::Zj (xs++[(bx,ZbS b c)])::fqC b5 f q::cmC b3 c sg sp::Zp b4::Hs) w:=hw.arr;refine (Zea hcore hl2 hat2 hw).use ?_;clear hw;rintro _ w ⟨rfl,fs3,xs3,hl3,hf3,hb3,hw⟩;refine .inl ⟨rfl,?_⟩;have hcore3:=(Zcz (n:=c.flt) hcore).1;obtain ⟨A3,a3,C3,rfl,hbm3⟩:=Zge hl3 hcore3.ids hyL;have ha3:a3=bx:=by
  have h1:=Zmy (a:=a3) hbm3;rw [hb3,<-hMB2,hyid,hbget] at h1;simpa using h1.symm
 subst ha3;obtain ⟨p3,hp3⟩:=hcore3.at_of hyL;obtain ⟨D3,f3,q3,E3,rfl,hm3⟩:=ZdS hl3 hcore3.nums hp3;rw [<-hf3,<-hb3] at hw;have htell:ZdM (ZV c.flt nb) y=ZdL p3 y:=by unfold ZdM;rw [hp3]
 rw [htell] at hres;have hw:Sat R (Zi (D3++(f3,q3,p3)::E3)::Zj (A3++(a3,y)::C3)::pts p (Zh (ZV c.flt nb) m1 m2)::MapAt m1 ((D3++(f3,q3,p3)::E3).map flV)::MapAt m2 ((A3++(a3,y)::C3).map bkV)::fqC b5 f q::cmC b3 c sg sp::Zp b4::Hs) w:=hw.arr;have hw:=ZbL.1 hw;have hw:Sat R (Zj (A3++(a3,y)::C3)::Zg f3 p3.r::ZR q3 p3.q::Zi (D3++E3)::pts p (Zh (ZV c.flt nb) m1 m2)::MapAt m1 ((D3++(f3,q3,p3)::E3).map flV)::MapAt m2 ((A3++(a3,y)::C3).map bkV)::fqC b5 f q::cmC b3 c sg sp::Zp b4::Hs) w:=hw.arr;have hw:=ZcX.1 hw;have hw:Sat R (pts p (Zh (ZV c.flt nb) m1 m2)::MapAt m1 ((D3++(f3,q3,p3)::E3).map flV)::pts a3 (ZA y)::Zg f3 p3.r::Zj (A3++C3)::ZR q3 p3.q::Zi (D3++E3)::MapAt m2 ((A3++(a3,y)::C3).map bkV)::fqC b5 f q::cmC b3 c sg sp::Zp b4::Hs) w:=hw.arr;refine (ZfA (x:=y) (by omega) hm3 hw).use ?_;clear hw;rintro _ w ⟨sl,sb,rfl,hw⟩;refine .inl ⟨_,_,_,_,_,_,_,sl,sb,rfl,?_⟩;have hw:Sat R (Zp b4::Own sl 3 (Ze (Zq p3.r))::Own sb 9 ((ZaY p3.r y.id).map Value.string)::pts a3 (ZA y)::Zj (A3++C3)::Zg f3 p3.r::ZR q3 p3.q::pts p (Zh (ZV c.flt nb) m1 m2)::MapAt m1 ((D3++(f3,q3,p3)::E3).map flV)::MapAt m2 ((A3++(a3,y)::C3).map bkV)::Zi (D3++E3)::fqC b5 f q::cmC b3 c sg sp::Hs) w:=hw.arr;refine sRu hw λ w hw=>?_;have hw:=hw.re (rpC b4 (ZdL p3 y) sl sb);refine ⟨_,_,_,_,_,_,_,sl,sb,oA hw,?_⟩;have hfin:=hK sl sb w;rw [hres] at hfin;refine hfin ?_;refine hw.drop.cons λ _ hw=>hw.cons λ _ hw=>?_;have hw:=ZcX.2 hw;have hw:Sat _ (Zg f3 p3.r::ZR q3 p3.q::pts p (Zh (ZV c.flt nb) m1 m2)::MapAt m1 ((D3++(f3,q3,p3)::E3).map flV)::MapAt m2 ((A3++(a3,y)::C3).map bkV)::Zi (D3++E3)::Zj (A3++(a3,y)::C3)::fqC b5 f q::cmC b3 c sg sp::Hs) w:=hw.arr;exact (Zbz hl3 rfl rfl hw).cons λ _ h=>h.drop.drop
theorem ZeG {p m1 m2 f q a:Nat} {b:ZU} {A C:List FE} {A2 C2:List BE} {pl:Pl} {x:Bk} (hl:ZaX b (A++(f,q,pl)::C) (A2++(a,x)::C2)) {MF MB:List (Int × Value)} (hF:MF=(A++(f,q,pl)::C).map flV) (hB:MB=(A2++(a,x)::C2).map bkV)
  (hw:Sat R (Zg f pl.r::ZR q pl.q::pts a (ZA x)::pts p (Zh b m1 m2)::MapAt m1 MF::MapAt m2 MB::Zi (A++C)::Zj (A2++C2)::Hs) w):Sat R (Zk p b::Hs) w:=by
 have hw:Sat R (pts a (ZA x)::Zj (A2++C2)::Zg f pl.r::ZR q pl.q::pts p (Zh b m1 m2)::MapAt m1 MF::MapAt m2 MB::Zi (A++C)::Hs) w:=hw.arr;have hw:=ZcX.2 hw;have hw:Sat R (Zg f pl.r::ZR q pl.q::pts p (Zh b m1 m2)::MapAt m1 MF::MapAt m2 MB::Zi (A++C)::Zj (A2++(a,x)::C2)::Hs) w:=hw.arr;exact Zbz hl hF hB hw
theorem Zhu {p m1 m2 f q a b6:Nat} {b:ZU} {A C:List FE} {A2 C2:List BE} {pl:Pl} {x:Bk} {X:List PanicEntry->World->Prop} {K:Value->World->Prop} (hl:ZaX b (A++(f,q,pl)::C) (A2++(a,x)::C2)) {MF MB:List (Int × Value)} (hF:MF=(A++(f,q,pl)::C).map flV) (hB:MB=(A2++(a,x)::C2).map bkV)
  (hid:0<=x.id/\x.id<28629151) (hm:ZkS A C x.flt pl)
  (hK:∀ sl sb w',Sat R (Own sl 3 (Ze (Zq pl.r))::Own sb 9 ((ZaY pl.r x.id).map Value.string)::Zk p b::Hs) w'->K (.agg (rpV (ZdL pl x) sl sb).toArray) w')
  (hw:Sat R (Zg f pl.r::ZR q pl.q::pts a (ZA x)::pts p (Zh b m1 m2)::MapAt m1 MF::MapAt m2 MB::Zi (A++C)::Zj (A2++C2)::Zp b6::Hs) w):
  nC 53 #[nP p,nP a] w λ e w_9=>
   (∃ t0:Int,∃ t1:ByteArray,∃ t2:Int,∃ t3:Int,∃ t4:Int,∃ t5:Int,∃ t6:Int,∃ t7:Sl,∃ t8:Sl,(e=.returned (.agg #[nI t0,.string t1,nI t2,nI t3,nI t4,nI t5,nI t6,.slice t7.a t7.len t7.cap,.slice t8.a t8.len t8.cap]))/\
    ∃ w_10:World,((Instr.storeAt 33 (.pointer ((some ⟨b6,0,none⟩))) (.agg #[nI t0,.string t1,nI t2,nI t3,nI t4,nI t5,nI t6,.slice t7.a t7.len t7.cap,.slice t8.a t8.len t8.cap])).run prog w_9=.ok () w_10)/\
    ∃ u0:Int,∃ u1:ByteArray,∃ u2:Int,∃ u3:Int,∃ u4:Int,∃ u5:Int,∃ u6:Int,∃ u7:Sl,∃ u8:Sl,(At (λ w'=>w'=w_10) ⟨b6,0,none⟩ [nI u0,.string u1,nI u2,nI u3,nI u4,nI u5,nI u6,.slice u7.a u7.len u7.cap,.slice u8.a u8.len u8.cap])/\
    K (.agg #[nI u0,.string u1,nI u2,nI u3,nI u4,nI u5,nI u6,.slice u7.a u7.len u7.cap,.slice u8.a u8.len u8.cap]) w_10)\/
   (∃ ch:List PanicEntry,(e=.panicked ch)/\X ch w_9):=by
 subst hF hB;have hw:Sat R (pts p (Zh b m1 m2)::MapAt m1 ((A++(f,q,pl)::C).map flV)::pts a (ZA x)::Zg f pl.r::ZR q pl.q::MapAt m2 ((A2++(a,x)::C2).map bkV)::Zi (A++C)::Zj (A2++C2)::Zp b6::Hs) w:=hw.arr;refine (ZfA hid hm hw).use ?_;clear hw;rintro _ w ⟨sl,sb,rfl,hw⟩;refine .inl ⟨_,_,_,_,_,_,_,sl,sb,rfl,?_⟩;have hw:Sat R (Zp b6::Own sl 3 (Ze (Zq pl.r))::Own sb 9 ((ZaY pl.r x.id).map Value.string)::Zg f pl.r::ZR q pl.q::pts a (ZA x)::pts p (Zh b m1 m2)::MapAt m1 ((A++(f,q,pl)::C).map flV)::MapAt m2 ((A2++(a,x)::C2).map bkV)::Zi (A++C)::Zj (A2++C2)::Hs) w:=hw.arr;refine sRu hw λ w hw=>?_;have hw:=hw.re (rpC b6 (ZdL pl x) sl sb);refine ⟨_,_,_,_,_,_,_,sl,sb,oA hw,hK sl sb w ?_⟩;exact hw.drop.cons λ _ hw=>hw.cons λ _ hw=>ZeG hl rfl rfl hw
theorem Ztc {id:Int}:∀ {l:List Wt},Ze7 id l=false->Zig id l=l
 |[],_=>rfl
 |w::l,h=>by
  have h1:¬ w.id=id/\Ze7 id l=false:=by simpa [Ze7] using h
  show (if w.id=id then l else w::Zig id l)=_
  rw [if_neg h1.1,Ztc h1.2]
theorem ZuC {id:Int} {l:List Wt}:(Zv3 l id).1=Zig id l:=by
 unfold Zv3;cases h:Ze7 id l with
 |true=>rfl
 |false=>exact (Ztc h).symm
theorem ZuS {p m1 m2 a:Nat} {b:ZU} {c:Cm} {x:Bk} {fs:List FE} {A2 C2:List BE} {sg sp:Sl} (hk:c.kind=3\/c.kind=4\/c.kind=5\/c.kind=6) (k:Core b) (hlab:c.lab.size<=16) (hl:ZaX b fs (A2++(a,x)::C2)) (hbm:Zt6 A2 C2 x)
  (hw:Sat R (pts p (Zh b m1 m2)::MapAt m1 (fs.map flV)::MapAt m2 ((A2++(a,x)::C2).map bkV)::Zi fs::Zj (A2++(a,x)::C2)::Hs) w):
  Zba prog 42 #[nP p,nP a,.agg #[nI c.kind,.string c.pnr,nI c.flt,nI c.cls,nI c.many,nI c.time,.float .f64 c.sc,.string c.lab,nI c.rows,.slice sg.a sg.len sg.cap,.slice sp.a sp.len sp.cap]] w
   (λ ch w'=>∃ e,ch=Zjr e/\Zhf b x c=(b,Zby e)/\Sat R (Zk p b::Hs) w')
   (λ v w'=>∃ sl sb:Sl,v=.agg (rpV (Zhf b x c).2 sl sb).toArray/\Sat R (Own sl 3 (Ze (Zhf b x c).2.left)::Own sb 9 ((Zhf b x c).2.labs.map Value.string)::Zk p (Zhf b x c).1::Hs) w'):=by
 apply ZBq
 suffices H:∀ (X:List PanicEntry->World->Prop) (K:nK),(∀ e w',Zhf b x c=(b,Zby e)->Sat R (Zk p b::Hs) w'->X (Zjr e) w')->
   (∀ sl sb w',Sat R (Own sl 3 (Ze (Zhf b x c).2.left)::Own sb 9 ((Zhf b x c).2.labs.map Value.string)::Zk p (Zhf b x c).1::Hs) w'->K (.agg (rpV (Zhf b x c).2 sl sb).toArray) w')->B42 (some ⟨p,0,none⟩) (some ⟨a,0,none⟩) c.kind c.pnr c.flt c.cls c.many c.time c.sc c.lab c.rows sg sp X K w from
  H _ _ (λ e w' h1 h2=>⟨e,rfl,h1,h2⟩) (λ sl sb w' h2=>⟨sl,sb,rfl,h2⟩)
 intro X K hX hK;have hxL:x∈b.L:=by rw [<-hl.bk];exact List.mem_map.2 ⟨(a,x),by simp,rfl⟩
 have hbk:=k.each x hxL;have hnx:=k.next;have hid:0<=x.id/\x.id<28629151:=⟨by have:=hbk.id;omega,by have:=hbk.id;omega⟩;obtain ⟨pl,hat⟩:=k.at_of hxL;obtain ⟨A,f,q,C,rfl,hm⟩:=ZdS hl k.nums hat;have hpl:=Zax hat;have hg:=k.good pl hpl.1;have hqok:=k.qok pl hpl.1;obtain ⟨MF,hMF⟩:∃ M,M=(A++(f,q,pl)::C).map flV:=⟨_,rfl⟩;obtain ⟨MB,hMB⟩:∃ M,M=(A2++(a,x)::C2).map bkV:=⟨_,rfl⟩;have hget:ZO x.flt MF=some (.agg #[nP f,nP q]):=by rw [hMF];exact Zjo hm
 rw [<-hMF,<-hMB] at hw;have hone:∀ {e},Zhf b x c=e↔(if c.kind=3 then (if x.state≠1 then (b,Zby 7) else ({ b with L:=Ze0 Bk.id x.id Zdq b.L },ZdL pl (Zdq x)))
  else if c.kind=4 then (ZV x.flt (ZkW b x),⟨0,c.pnr,0,0,0,0,0,[],[]⟩)
  else if x.state=3 then (b,Zby 7)
  else if c.kind=5 then
   (if (Z7 pl.r x.id c.lab).2≠0 then (b,Zby (Z7 pl.r x.id c.lab).2)
    else (b.put x.flt (Zc2 (Z7 pl.r x.id c.lab).1) b.L,ZdL (Zc2 (Z7 pl.r x.id c.lab).1 pl) x))
  else (if (Zam pl.r x.id).2.2≠0 then (b,Zby (Zam pl.r x.id).2.2)
    else (b.put x.flt (Zc2 (Zam pl.r x.id).1) b.L,ZdL (Zc2 (Zam pl.r x.id).1 pl) x)))=e:=by
  intro e;unfold Zhf;rw [hat]
 refine Za hw λ b5 w hw=>Za hw λ b6 w hw=>?_;have hw:Sat R (Zi (A++(f,q,pl)::C)::Zj (A2++(a,x)::C2)::pts p (Zh b m1 m2)::MapAt m1 MF::MapAt m2 MB::cmC b5 c sg sp::Zp b6::Hs) w:=by
  have hw:Sat R (Zp b6::cmC b5 c sg sp::pts p (Zh b m1 m2)::MapAt m1 MF::MapAt m2 MB::Zi (A++(f,q,pl)::C)::Zj (A2++(a,x)::C2)::Hs) w:=hw;exact hw.arr
 have hw:=ZbL.1 hw;have hw:Sat R (Zj (A2++(a,x)::C2)::Zg f pl.r::ZR q pl.q::Zi (A++C)::pts p (Zh b m1 m2)::MapAt m1 MF::MapAt m2 MB::cmC b5 c sg sp::Zp b6::Hs) w:=hw.arr;have hw:=ZcX.1 hw;refine ZaV hw λ w hw=>?_;refine Zc.mk rfl ⟨some m1,oS,Zc.mk rfl ⟨x.flt,oS,some ⟨f,0,none⟩,some ⟨q,0,none⟩,λ w' h=>?_,?_⟩⟩
 ·have hm1:Sat R (MapAt m1 MF::VC.tru::pts a (ZA x)::Zj (A2++C2)::Zg f pl.r::ZR q pl.q::Zi (A++C)::pts p (Zh b m1 m2)::MapAt m2 MB::cmC b5 c sg sp::Zp b6::Hs) w':=Sat.arr h
  have:=MapAt.look Zv5 hm1 x.flt false;rw [hget] at this;exact this
 refine Za hw λ b7 w hw=>⟨hw.absorb,?_⟩;refine sRu hw λ w hw=>?_;have hw:=hw.re (fqC b7 f q);have hw:Sat R (Zg f pl.r::ZR q pl.q::pts a (ZA x)::pts p (Zh b m1 m2)::MapAt m1 MF::MapAt m2 MB::Zi (A++C)::Zj (A2++C2)::Zp b6::fqC b7 f q::cmC b5 c sg sp::Hs) w:=by
  have hw:Sat R (fqC b7 f q::pts a (ZA x)::Zj (A2++C2)::Zg f pl.r::ZR q pl.q::Zi (A++C)::pts p (Zh b m1 m2)::MapAt m1 MF::MapAt m2 MB::cmC b5 c sg sp::Zp b6::Hs) w:=hw.cons λ _ h=>h.drop;exact hw.arr
 have close:∀ {w},Sat R (Zg f pl.r::ZR q pl.q::pts a (ZA x)::pts p (Zh b m1 m2)::MapAt m1 MF::MapAt m2 MB::Zi (A++C)::Zj (A2++C2)::Zp b6::fqC b7 f q::cmC b5 c sg sp::Hs) w->Sat R (Zk p b::Hs) w:=λ {w} hw=>
  (ZeG hl hMF hMB hw).cons λ _ h=>h.drop.drop.drop
 refine Zc.mk rfl ⟨x.state,oA hw,c.kind,oA hw,?_⟩;refine Br.e (λ h3=>?_) (λ h3=>Br.e (λ h4=>?_) (λ h4=>Br.e (λ h5=>?_) (λ h5=>Br.e (λ h6=>?_) (λ h6=>by omega))))
 ·-- confirmed
  refine Zc.mk rfl ⟨x.state,oA hw,?_⟩;refine Zce (λ h=>.inl ⟨rfl,?_⟩) (λ h=>.inr ⟨_,rfl,hX 7 w (hone.2 ?_) (close hw)⟩)
  rotate_left
  ·have h1:¬ x.state=1:=by simpa using h
   rw [if_pos h3,if_pos h1]
  have h1:x.state=1:=by simpa using h
  have hres:=hone.2 (by rw [if_pos h3,if_neg (λ h=>h h1)]);refine Zc.mk rfl ?_;have hw:Sat R (pts a (ZA x)::Zg f pl.r::ZR q pl.q::pts p (Zh b m1 m2)::MapAt m1 MF::MapAt m2 MB::Zi (A++C)::Zj (A2++C2)::Zp b6::fqC b7 f q::cmC b5 c sg sp::Hs) w:=hw.arr;refine sRu hw λ w hw=>Zc.mk rfl ?_;refine ZZ hw (by kernel_rfl) rfl (by rw [ZbG];simp [Value.cells]) λ w hw=>?_;have hw:=hw.re (pts a (ZA (Zdq x)));have hw:Sat R (Zg f pl.r::ZR q pl.q::pts a (ZA (Zdq x))::pts p (Zh b m1 m2)::MapAt m1 MF::MapAt m2 MB::Zi (A++C)::Zj (A2++C2)::Zp b6::fqC b7 f q::cmC b5 c sg sp::Hs) w:=hw.arr;have hl2:ZaX { b with L:=Ze0 Bk.id x.id Zdq b.L } (A++(f,q,pl)::C) (A2++(a,Zdq x)::C2):=⟨hl.fl,hl.bset k.ids Zdq⟩;refine Zhu (Hs:=fqC b7 f q::cmC b5 c sg sp::Hs) (b:={ b with L:=Ze0 Bk.id x.id Zdq b.L }) (x:=Zdq x) (MB:=MB) hl2 hMF (by rw [hMB];exact (ZtG (show (Zdq x).id=x.id from rfl)).symm) hid hm (λ sl sb w' hw=>?_) hw
  have hfin:=hK sl sb w';rw [hres] at hfin;exact hfin (hw.cons λ _ h=>h.cons λ _ h=>h.cons λ _ h=>h.drop.drop)
 ·-- cancelled
  have hres:=hone.2 (by rw [if_neg h3,if_pos h4]);have hcore:=Zmt k hxL;obtain ⟨pl2,hp2⟩:∃ pl2:Pl,pl2=if x.state=3 then ZwZ x.id pl else ZgC x.id pl:=⟨_,rfl⟩
  refine ⟨λ w=>Sat R (Zg f pl2.r::ZR q pl2.q::pts a (ZA x)::pts p (Zh b m1 m2)::MapAt m1 MF::MapAt m2 MB::Zi (A++C)::Zj (A2++C2)::Zp b6::fqC b7 f q::cmC b5 c sg sp::Hs) w,?_,?_⟩
  ·refine Br.e (λ hs=>?_) (λ hs=>?_)
   ·rw [if_pos hs] at hp2
    refine Zo hw λ w hw=>⟨some ⟨q,0,none⟩,oS,Zc.mk rfl ⟨x.id,oS,?_⟩⟩;refine (ZgW (by have:=hqok.len;omega) hw.swap).u λ w hw=>?_;rw [ZuC] at hw;refine .inl ⟨_,rfl,?_⟩;rw [hp2];exact hw.swap
   ·rw [if_neg hs] at hp2
    refine Zo hw λ w hw=>⟨some ⟨f,0,none⟩,oS,Zc.mk rfl ⟨x.id,oS,?_⟩⟩;refine (Zl0 hw).u λ w hw=>?_;refine .inl ⟨_,rfl,?_⟩;rw [hp2];exact hw
  clear hw;rintro _ w hw;have hn2:pl2.n=x.flt:=by
   rw [hp2];split
   ·exact hm.num
   ·exact (ZeJ (r:=pl.r) (o:=x.id)).1.trans hm.num
  have hMF2:MF=(A++(f,q,pl2)::C).map flV:=by rw [hMF];exact Zft hn2 hm.num
  have hl2:ZaX (ZkW b x) (A++(f,q,pl2)::C) (A2++C2):=by
   refine ⟨?_,?_⟩
   ·have h1:=hl.fset hm (ZwZ x.id)
    have h2:=hl.fset hm (ZgC x.id);unfold ZkW;rw [hp2];split
    ·exact h1
    ·exact h2
   ·have h1:=hl.bdel k.ids
    unfold ZkW;split
    ·exact h1
    ·exact h1
  have hat2:(ZkW b x).at x.flt=some pl2:=(Zip hcore).2 ⟨hl2.fl.mem_iff.1 (List.mem_map.2 ⟨(f,q,pl2),by simp,rfl⟩),hn2⟩;have hgc:Zh (ZkW b x) m1 m2=Zh b m1 m2:=by
   unfold ZkW;split<;>rfl
  refine Zo hw λ w hw=>Zc.mk rfl ⟨some m2,oS,Zc.mk rfl ⟨x.id,oS,?_⟩⟩;have hw:Sat R (MapAt m2 MB::Zg f pl2.r::ZR q pl2.q::pts a (ZA x)::pts p (Zh b m1 m2)::MapAt m1 MF::Zi (A++C)::Zj (A2++C2)::Zp b6::fqC b7 f q::cmC b5 c sg sp::Hs) w:=hw.arr;refine MapAt.del Zwx hw x.id λ w hw=>?_;rw [hMB,ZtF hbm] at hw;refine Zc.mk rfl ⟨x.flt,oA hw,?_⟩;have hw:Sat R (Zg f pl2.r::ZR q pl2.q::Zi (A++C)::MapAt m2 ((A2++C2).map bkV)::pts a (ZA x)::pts p (Zh (ZkW b x) m1 m2)::MapAt m1 ((A++(f,q,pl2)::C).map flV)::Zj (A2++C2)::Zp b6::fqC b7 f q::cmC b5 c sg sp::Hs) w:=by
   rw [hgc,<-hMF2];exact hw.arr
  have hw:=ZbL.2 hw;have hw:Sat R (pts p (Zh (ZkW b x) m1 m2)::MapAt m1 ((A++(f,q,pl2)::C).map flV)::MapAt m2 ((A2++C2).map bkV)::Zi (A++(f,q,pl2)::C)::Zj (A2++C2)::pts a (ZA x)::Zp b6::fqC b7 f q::cmC b5 c sg sp::Hs) w:=hw.arr;refine (Zea hcore hl2 hat2 hw).use ?_;clear hw;rintro _ w ⟨rfl,fs3,xs3,hl3,hf3,hb3,hw⟩;refine .inl ⟨rfl,c.pnr,oA hw,?_⟩;have hw:Sat R (Zp b6::pts p (Zh (ZV x.flt (ZkW b x)) m1 m2)::MapAt m1 ((A++(f,q,pl2)::C).map flV)::MapAt m2 ((A2++C2).map bkV)::Zi fs3::Zj xs3::pts a (ZA x)::fqC b7 f q::cmC b5 c sg sp::Hs) w:=hw.arr;refine sRu hw λ w hw=>?_;have hw:=hw.re (rpC b6 ⟨0,c.pnr,0,0,0,0,0,[],[]⟩ ZE ZE);refine ⟨_,_,_,_,_,_,_,ZE,ZE,oA hw,?_⟩;have hfin:=hK ZE ZE w;rw [hres] at hfin;refine hfin (Own.nil (Own.nil ?_));rw [<-hf3,<-hb3] at hw;have hw:Sat R (pts p (Zh (ZV x.flt (ZkW b x)) m1 m2)::MapAt m1 (fs3.map flV)::MapAt m2 (xs3.map bkV)::Zi fs3::Zj xs3::pts a (ZA x)::fqC b7 f q::cmC b5 c sg sp::Hs) w:=hw.drop;exact (Sat.book.2 ⟨m1,m2,fs3,xs3,hl3,hw⟩).cons λ _ h=>h.drop.drop.drop
 ·-- a seat
  refine Zce (λ h=>.inl ⟨rfl,?_⟩) (λ h=>.inr ⟨_,rfl,hX 7 w (hone.2 ?_) (close hw)⟩)
  rotate_left
  ·have h1:x.state=3:=by simpa using h
   rw [if_neg h3,if_neg h4,if_pos h1]
  have h1:¬ x.state=3:=by simpa using h
  refine ZC (Sat R [pts a (ZA x),fqC b7 f q,cmC b5 c sg sp,VC.tru]) hw (λ w hw=>?_) λ w hw=>?_
  ·exact (hw.arr (Hs':=pts a (ZA x)::fqC b7 f q::cmC b5 c sg sp::Zg f pl.r::ZR q pl.q::pts p (Zh b m1 m2)::MapAt m1 MF::MapAt m2 MB::Zi (A++C)::Zj (A2++C2)::Zp b6::Hs)).cons λ _ h=>h.cons λ _ h=>h.restTru2
  refine ⟨some ⟨f,0,none⟩,oS,Zc.mk rfl ⟨x.id,oS,c.lab,oS,?_⟩⟩;refine (Zsp (by omega) hw).u λ w hw=>?_;refine .inl ⟨_,rfl,?_⟩;refine Zfn (λ h0=>.inl ⟨rfl,?_,?_⟩) (λ h0=>.inr ⟨_,rfl,hX _ w (hone.2 (by rw [if_neg h3,if_neg h4,if_neg h1,if_pos h5,if_pos h0])) ?_⟩)
  rotate_left 2
  ·rw [Zuw h0] at hw
   exact close hw
  ·exact (hw.arr (Hs':=pts a (ZA x)::fqC b7 f q::cmC b5 c sg sp::Zg f (Z7 pl.r x.id c.lab).1::ZR q pl.q::pts p (Zh b m1 m2)::MapAt m1 MF::MapAt m2 MB::Zi (A++C)::Zj (A2++C2)::Zp b6::Hs)).cons λ _ h=>h.cons λ _ h=>h.restTru2
  have hres:=hone.2 (by rw [if_neg h3,if_neg h4,if_neg h1,if_pos h5,if_neg (λ h=>h h0)]);have hn2:(Zc2 (Z7 pl.r x.id c.lab).1 pl).n=x.flt:=(Zrm hg h0).num.trans hm.num;have hl2:ZaX (b.put x.flt (Zc2 (Z7 pl.r x.id c.lab).1) b.L) (A++(f,q,Zc2 (Z7 pl.r x.id c.lab).1 pl)::C) (A2++(a,x)::C2):=⟨hl.fset hm (Zc2 (Z7 pl.r x.id c.lab).1),hl.bk⟩;refine Zhu (Hs:=fqC b7 f q::cmC b5 c sg sp::Hs) hl2 (by rw [hMF];exact (Zft hm.num hn2).symm) hMB hid ⟨hn2,hm.a,hm.c⟩ (λ sl sb w' hw=>?_) hw;have hfin:=hK sl sb w';rw [hres] at hfin;exact hfin (hw.cons λ _ h=>h.cons λ _ h=>h.cons λ _ h=>h.drop.drop)
 ·-- seats of themselves
  refine Zce (λ h=>.inl ⟨rfl,?_⟩) (λ h=>.inr ⟨_,rfl,hX 7 w (hone.2 ?_) (close hw)⟩)
  rotate_left
  ·have h1:x.state=3:=by simpa using h
   rw [if_neg h3,if_neg h4,if_pos h1]
  have h1:¬ x.state=3:=by simpa using h
  refine Zo hw λ w hw=>⟨some ⟨f,0,none⟩,oS,Zc.mk rfl ⟨x.id,oS,?_⟩⟩;refine (Zsq hw).u1 λ t w hw=>?_;have hw:=hw.drop;refine .inl ⟨_,_,rfl,?_⟩;refine Zfn (λ h0=>.inl ⟨rfl,?_⟩) (λ h0=>.inr ⟨_,rfl,hX _ w (hone.2 (by rw [if_neg h3,if_neg h4,if_neg h1,if_neg h5,if_pos h0])) ?_⟩)
  rotate_left
  ·rw [Zz0 h0] at hw
   exact close hw
  have hres:=hone.2 (by rw [if_neg h3,if_neg h4,if_neg h1,if_neg h5,if_neg (λ h=>h h0)]);have hn2:(Zc2 (Zam pl.r x.id).1 pl).n=x.flt:=(ZtT h0).num.trans hm.num;have hl2:ZaX (b.put x.flt (Zc2 (Zam pl.r x.id).1) b.L) (A++(f,q,Zc2 (Zam pl.r x.id).1 pl)::C) (A2++(a,x)::C2):=⟨hl.fset hm (Zc2 (Zam pl.r x.id).1),hl.bk⟩;refine Zhu (Hs:=fqC b7 f q::cmC b5 c sg sp::Hs) hl2 (by rw [hMF];exact (Zft hm.num hn2).symm) hMB hid ⟨hn2,hm.a,hm.c⟩ (λ sl sb w' hw=>?_) hw;have hfin:=hK sl sb w';rw [hres] at hfin;exact hfin (hw.cons λ _ h=>h.cons λ _ h=>h.cons λ _ h=>h.drop.drop)
theorem ZjM {l m:List Int} (hp:l.Perm m) (h:m.Pairwise λ a b=>a<b):Zg3 l=m:=by
 have tr:∀ a b c:Int,decide (a<=b)=true->decide (b<=c)=true->decide (a<=c)=true:=λ a b c h1 h2=>by simp only [decide_eq_true_eq] at *;omega
 have to:∀ a b:Int,(decide (a<=b)||decide (b<=a))=true:=λ a b=>by simp only [Bool.or_eq_true,decide_eq_true_eq];omega
 exact List.Perm.eq_of_pairwise (λ a b _ _ h1 h2=>by simp only [decide_eq_true_eq] at h1 h2;omega) (List.pairwise_mergeSort tr to l) (h.imp λ hab=>by simp only [decide_eq_true_eq];omega) ((List.mergeSort_perm l _).trans hp)
theorem ZzV {b:ZU} {fs:List FE} {xs:List BE} (hl:ZaX b fs xs):(xs.map bkV).map (·.1)=b.L.map Bk.id:=by
 rw [<-hl.bk,List.map_map,List.map_map];rfl
theorem ZxG {b:ZU} {fs:List FE} {xs:List BE} (hl:ZaX b fs xs):((fs.map flV).map (·.1)).Perm (b.fl.map Pl.n):=by
 have:=hl.fl.map Pl.n;rw [List.map_map] at this ⊢;exact this
theorem Zoc {b:ZU} (k:Core b):(b.L.map Bk.id).Pairwise λ a b=>a<b:=List.pairwise_map.2 k.ids
theorem Zlt {b:ZU} (k:Core b):(b.fl.map Pl.n).Pairwise λ a b=>a<b:=List.pairwise_map.2 k.nums
theorem ZAz {l:List Int} (h:l.Pairwise λ a b=>a<b):l.Nodup:=h.imp λ hab=>by omega
theorem ZiP {m:Nat} {b:ZU} {fs:List FE} {xs:List BE} {K:Sl->World->Prop} (k:Core b) (hl:ZaX b fs xs) (hw:Sat R (MapAt m (xs.map bkV)::Hs) w)
  (kk:∀ s w',Sat R (Own s 3 (Ze (b.L.map Bk.id))::MapAt m (xs.map bkV)::Hs) w'->K s w'):
  nC 66 #[.map (some m)] w λ e w1=>∃ t:Value,e=.returned t/\nC 61 #[t] w1 λ e w2=>∃ t:Sl,e=.returned (.slice t.a t.len t.cap)/\K t w2:=by
 have hk:=ZzV hl;obtain ⟨l,c,hs,hst,hp⟩:=MapAt.iff.1 hw;obtain ⟨D0,hown,hsz,hperm⟩:=ZfY hs hst (by rw [hk];exact ZAz (Zoc k)) (λ i hi=>by
  rw [hk] at hi;obtain ⟨x,hx,rfl⟩:=List.mem_map.1 hi;have:=(k.each x hx).id;have:=k.next;omega) (by rw [List.length_map,ZoZ hl];have:=k.many;omega) hp.at
 refine (callsIn_wide.1 (Tryz.maps_Keys_66 (some m) w)).mono ?_;rintro _ _ ⟨rfl,rfl⟩;refine ⟨_,rfl,?_⟩;refine (callsIn_wide.1 (Tryz.slices_Sorted_keys_61_66 m _ D0 _ w hown (by unfold maxLen;omega) (by omega))).mono ?_;rintro _ w' ⟨v,ss,rfl,hS,hrow,hnil,hb⟩;have hw1:Sat R (MapAt m (xs.map bkV)::Hs) (w.alloc (.cells #[.map (some m)] 78)):=(Sat.alloc _ hw).drop;obtain ⟨s,rfl,h3⟩:=Sat.ownsRow hw1 hb hrow;refine ⟨s,rfl,kk s _ ?_⟩;have e:=ZjM (List.Perm.of_eq hk) (Zoc k);rw [<-Zds (hperm ss hS)] at e;rw [<-e];exact h3
theorem ZiO {m:Nat} {b:ZU} {fs:List FE} {xs:List BE} {K:Sl->World->Prop} (k:Core b) (hl:ZaX b fs xs) (hw:Sat R (MapAt m (fs.map flV)::Hs) w)
  (kk:∀ s w',Sat R (Own s 3 (Ze (b.fl.map Pl.n))::MapAt m (fs.map flV)::Hs) w'->K s w'):
  nC 62 #[.map (some m)] w λ e w1=>∃ t:Value,e=.returned t/\nC 61 #[t] w1 λ e w2=>∃ t:Sl,e=.returned (.slice t.a t.len t.cap)/\K t w2:=by
 have hk:=ZxG hl;obtain ⟨l,c,hs,hst,hp⟩:=MapAt.iff.1 hw;obtain ⟨D0,hown,hsz,hperm⟩:=ZfY hs hst (hk.nodup_iff.2 (ZAz (Zlt k))) (λ i hi=>by
  obtain ⟨x,hx,rfl⟩:=List.mem_map.1 (hk.mem_iff.1 hi);have:=(k.good x hx).num;show -1000000000<=x.r.num/\x.r.num<=1000000000;omega) (by rw [List.length_map,ZsZ hl];have:=k.few;omega) hp.at
 refine (callsIn_wide.1 (Tryz.maps_Keys_62 (some m) w)).mono ?_;rintro _ _ ⟨rfl,rfl⟩;refine ⟨_,rfl,?_⟩;refine (callsIn_wide.1 (Tryz.slices_Sorted_keys_61_62 m _ D0 _ w hown (by unfold maxLen;omega) (by omega))).mono ?_;rintro _ w' ⟨v,ss,rfl,hS,hrow,hnil,hb⟩;have hw1:Sat R (MapAt m (fs.map flV)::Hs) (w.alloc (.cells #[.map (some m)] 77)):=(Sat.alloc _ hw).drop;obtain ⟨s,rfl,h3⟩:=Sat.ownsRow hw1 hb hrow;refine ⟨s,rfl,kk s _ ?_⟩;have e:=ZjM hk (Zlt k);rw [<-Zds (hperm ss hS)] at e;rw [<-e];exact h3
theorem Zwb {g1 g2:FuncId} {m:Nat} {K:Sl->World->Prop} {E1 E2:Ending->World->Prop}
  (h:Calls prog g1 #[.map (some m)] w λ e w1=>∃ t:Value,e=.returned t/\Calls prog g2 #[t] w1 λ e w2=>∃ t:Sl,e=.returned (.slice t.a t.len t.cap)/\K t w2):
  Calls prog g1 #[.map (some m)] w λ e w1=>(∃ t:Value,(e=.returned t)/\Calls prog g2 #[t] w1 λ e w2=>(∃ t:Sl,(e=.returned (.slice t.a t.len t.cap))/\K t w2)\/E2 e w2)\/E1 e w1:=by
 refine h.mono ?_;rintro _ w ⟨t,rfl,h⟩;refine .inl ⟨t,rfl,h.mono ?_⟩;rintro _ w ⟨t,rfl,h⟩;exact .inl ⟨t,rfl,h⟩
theorem ZrZ {p:Nat} {b:ZU} {n:Int} (k:Core b) (hn:n∈b.fl.map Pl.n) (hw:Sat R (Zk p b::Hs) w):
  Zm prog 103 #[nP p,nI n] w λ v w'=>v=.tuple #[]/\Sat R (Zk p (ZV n b)::Hs) w':=by
 obtain ⟨pl,hpl,hpn⟩:=List.mem_map.1 hn;obtain ⟨m1,m2,fs,xs,hl,hw⟩:=Sat.book.1 hw;refine (Zea k hl ((Zip k).2 ⟨hpl,hpn⟩) hw).use ?_;clear hw;rintro _ w ⟨rfl,fs',xs',hl',h1,h2,hw⟩;refine ⟨_,rfl,rfl,Sat.book.2 ⟨m1,m2,fs',xs',hl',?_⟩⟩;rw [h1,h2];exact hw
structure ExpI (b:ZU) (t:Int) (j:Nat) (b':ZU):Prop where
 res:ZdV b t=Zej (b.L.drop j) b'
 core:Core b'
 now:b'.now=t
 left:∀ x∈b.L.drop j,x∈b'.L
structure ZDj (ns:List Int) (t:Int) (B:ZU) (j:Nat) (b':ZU):Prop where
 res:ZcM ns B=ZcM (ns.drop j) b'
 core:Core b'
 now:b'.now=t
 nums:b'.fl.map Pl.n=ns
theorem Zqh {p:Nat} {b:ZU} {c:Cm} {sg sp:Sl} (k:Core b) (hr:ZaL c) (hw:Sat R (Zk p b::Hs) w):
  Zba prog 41 #[nP p,.agg #[nI c.kind,.string c.pnr,nI c.flt,nI c.cls,nI c.many,nI c.time,.float .f64 c.sc,.string c.lab,nI c.rows,.slice sg.a sg.len sg.cap,.slice sp.a sp.len sp.cap]] w
   (λ ch w'=>∃ e,ch=Zjr e/\ZbN b c=(b,Zby e)/\Sat R (Zk p b::Hs) w')
   (λ v w'=>∃ sl sb:Sl,v=.agg (rpV (ZbN b c).2 sl sb).toArray/\Sat R (Own sl 3 (Ze (ZbN b c).2.left)::Own sb 9 ((ZbN b c).2.labs.map Value.string)::Zk p (ZbN b c).1::Hs) w'):=by
 apply ZBr
 suffices H:∀ (X:List PanicEntry->World->Prop) (K:nK),(∀ e w',ZbN b c=(b,Zby e)->Sat R (Zk p b::Hs) w'->X (Zjr e) w')->
   (∀ w',¬ c.time<b.now->Sat R (Zk p (ZbN b c).1::Hs) w'->K (.agg (rpV ⟨0,emS,0,0,0,0,c.time,[],[]⟩ ZE ZE).toArray) w')->B41 (some ⟨p,0,none⟩) c.kind c.pnr c.flt c.cls c.many c.time c.sc c.lab c.rows sg sp X K w from
  H _ _ (λ e w' h1 h2=>⟨e,rfl,h1,h2⟩) (λ w' h1 h2=>by
   have e:(ZbN b c).2=⟨0,emS,0,0,0,0,c.time,[],[]⟩:=by unfold ZbN;rw [if_neg h1]
   rw [e];exact ⟨ZE,ZE,rfl,Own.nil (Own.nil h2)⟩)
 intro X K hX hK;have htm:=hr.time;obtain ⟨m1,m2,fs,xs,hl,hw⟩:=Sat.book.1 hw;refine Za hw λ b3 w hw=>Za hw λ b4 w hw=>?_;have hw:Sat R (pts p (Zh b m1 m2)::MapAt m1 (fs.map flV)::MapAt m2 (xs.map bkV)::Zi fs::Zj xs::Zp b4::cmC b3 c sg sp::Hs) w:=by
  have hw:Sat R (Zp b4::cmC b3 c sg sp::pts p (Zh b m1 m2)::MapAt m1 (fs.map flV)::MapAt m2 (xs.map bkV)::Zi fs::Zj xs::Hs) w:=hw;exact hw.arr
 refine Zo hw λ w hw=>⟨c.time,oS,Zc.mk rfl ⟨b.now,oS,?_⟩⟩;refine Zce (λ h=>.inl ⟨rfl,hw,?_⟩) (λ h=>.inr ⟨_,rfl,hX 7 w ?_ ((Sat.book.2 ⟨m1,m2,fs,xs,hl,hw⟩).cons λ _ h=>h.drop.drop)⟩)
 rotate_left
 ·have:=of_decide_eq_false h
  unfold ZbN;rw [if_pos (by omega)]
 have ht:¬ c.time<b.now:=by have:=of_decide_eq_true h;omega
 have hclock:(ZbN b c).1=ZcM (b.fl.map Pl.n) (ZdV b c.time):=by unfold ZbN;rw [if_neg ht]
 refine ⟨c.time,oA hw,Zc.mk rfl ?_⟩;rw [Zy];refine sRu hw λ w hw=>?_;have k1:=ZoU k htm;obtain ⟨b1,hb1⟩:∃ b1,b1={ b with now:=c.time }:=⟨_,rfl⟩;have hw:Sat R (pts p (Zh b1 m1 m2)::MapAt m1 (fs.map flV)::MapAt m2 (xs.map bkV)::Zi fs::Zj xs::Zp b4::cmC b3 c sg sp::Hs) w:=by
  rw [hb1];exact hw.re (pts p (Zh { b with now:=c.time } m1 m2))
 have hl1:ZaX b1 fs xs:=by rw [hb1];exact ⟨hl.fl,hl.bk⟩
 rw [<-hb1] at k1;have hL1:b1.L=b.L:=by rw [hb1]
 refine Zc.mk rfl ⟨some m2,oA hw,?_⟩;have hw:Sat R (MapAt m2 (xs.map bkV)::pts p (Zh b1 m1 m2)::MapAt m1 (fs.map flV)::Zi fs::Zj xs::Zp b4::cmC b3 c sg sp::Hs) w:=hw.arr;refine Zwb (ZiP k1 hl1 hw ?_);clear hw;intro s w hw;have hw:Sat R (Own s 3 (Ze (b.L.map Bk.id))::Zk p b1::Zp b4::cmC b3 c sg sp::Hs) w:=by
  rw [hL1] at hw;refine hw.cons λ _ hw=>Sat.book.2 ⟨m1,m2,fs,xs,hl1,?_⟩;exact hw.arr
 obtain ⟨ids,hids⟩:∃ ids,ids=b.L.map Bk.id:=⟨_,rfl⟩;have hil:ids.length=b.L.length:=by rw [hids,List.length_map]
 rw [<-hids] at hw;have hLm:=k.many;refine ⟨λ t w=>∃ (j:Nat) (b':ZU),t=j/\j<=b.L.length/\ExpI b c.time j b'/\Sat R (Own s 3 (Ze ids)::Zk p b'::Zp b4::cmC b3 c sg sp::Hs) w,λ t _=>b.L.length - t.toNat,⟨0,b1,rfl,Nat.zero_le _,⟨by rw [hb1];rfl,k1,by rw [hb1],λ x hx=>by rw [hL1];exact hx⟩,hw⟩,?_⟩;clear hw;rintro _ _ w ⟨j,b',rfl,hj,hi,hw⟩;have hsl:=Own.len hw;rw [List.length_map,hil] at hsl;refine Br.d (λ hlt=>?_) (λ hge=>?_)
 ·have hjl:j<b.L.length:=by omega
  obtain ⟨x,hx⟩:∃ x,x=b.L[j]:=⟨_,rfl⟩;have hdrop:b.L.drop j=x::b.L.drop (j + 1):=by rw [hx];exact List.drop_eq_getElem_cons hjl
  have hget:∀ h:j<ids.length,ids[j]=x.id:=λ h=>by subst hids;rw [List.getElem_map,hx]
  refine Own.ix hw (eqS hw) j rfl (by omega) ?_;rw [hget];obtain ⟨m1,m2,fs,xs,hl,hw⟩:=Sat.book.1 hw.swap;have hxL:x∈b'.L:=hi.left x (by rw [hdrop];simp);obtain ⟨pl,hat⟩:=hi.core.at_of hxL;obtain ⟨A,f,q,C,rfl,hm⟩:=ZdS hl hi.core.nums hat;obtain ⟨A2,a,C2,rfl,hbm⟩:=Zge hl hi.core.ids hxL;obtain ⟨MF,hMF⟩:∃ M,M=(A++(f,q,pl)::C).map flV:=⟨_,rfl⟩;obtain ⟨MB,hMB⟩:∃ M,M=(A2++(a,x)::C2).map bkV:=⟨_,rfl⟩;have hgetf:ZO x.flt MF=some (.agg #[nP f,nP q]):=by rw [hMF];exact Zjo hm
  have hgetb:ZO x.id MB=some (nP a):=by rw [hMB];exact Zmy hbm
  rw [<-hMF,<-hMB] at hw;have hw:Sat R (Zi (A++(f,q,pl)::C)::Zj (A2++(a,x)::C2)::pts p (Zh b' m1 m2)::MapAt m1 MF::MapAt m2 MB::Own s 3 (Ze ids)::Zp b4::cmC b3 c sg sp::Hs) w:=hw.arr;have hw:=ZbL.1 hw;have hw:Sat R (Zj (A2++(a,x)::C2)::Zg f pl.r::ZR q pl.q::Zi (A++C)::pts p (Zh b' m1 m2)::MapAt m1 MF::MapAt m2 MB::Own s 3 (Ze ids)::Zp b4::cmC b3 c sg sp::Hs) w:=hw.arr;have hw:=ZcX.1 hw;have hw:Sat R (Zg f pl.r::ZR q pl.q::pts a (ZA x)::pts p (Zh b' m1 m2)::MapAt m1 MF::MapAt m2 MB::Zi (A++C)::Zj (A2++C2)::Own s 3 (Ze ids)::Zp b4::cmC b3 c sg sp::Hs) w:=hw.arr;refine Zc.mk rfl ⟨some m2,oA hw,some ⟨a,0,none⟩,λ w' e=>?_,?_⟩
  ·rw [show w'=w from e]
   have hm1:Sat R (MapAt m2 MB::Zg f pl.r::ZR q pl.q::pts a (ZA x)::pts p (Zh b' m1 m2)::MapAt m1 MF::Zi (A++C)::Zj (A2++C2)::Own s 3 (Ze ids)::Zp b4::cmC b3 c sg sp::Hs) w:=hw.arr;have:=MapAt.look Zwx hm1 x.id false;rw [hgetb] at this;exact this
  refine ⟨λ t w=>t=old b'.now x/\Sat R (Zg f pl.r::ZR q pl.q::pts a (ZA x)::pts p (Zh b' m1 m2)::MapAt m1 MF::MapAt m2 MB::Zi (A++C)::Zj (A2++C2)::Own s 3 (Ze ids)::Zp b4::cmC b3 c sg sp::Hs) w,?_,?_⟩
  ·refine Zo hw λ w hw=>Zc.mk rfl ⟨x.state,oS,Br.e (λ h1=>?_) (λ h1=>?_)⟩
   ·refine Zc.mk rfl ⟨x.till,oS,Zc.mk rfl ⟨b'.now,oS,?_,hw⟩⟩
    unfold old;rw [decide_eq_true h1,Bool.true_and]
   ·refine ⟨?_,hw⟩
    unfold old;rw [decide_eq_false h1,Bool.false_and]
  clear hw;rintro _ _ w ⟨rfl,hw⟩;have hexp:∀ b2,(if old b'.now x then Zf9 b' x else b')=b2->ZdV b c.time=Zej (b.L.drop (j + 1)) b2:=λ b2 e=>by
   rw [hi.res,hdrop,<-e];rfl
  have hwr:wI ((j:Int) + 1)=((j + 1:Nat):Int):=by rw [Zf];omega
  rw [hwr];cases hold:old b'.now x with
  |false=>
   rw [hold] at hexp;refine Br.f rfl ⟨⟨j + 1,b',rfl,hjl,⟨hexp _ rfl,hi.core,hi.now,λ y hy=>hi.left y (by rw [hdrop];exact List.mem_cons_of_mem _ hy)⟩,?_⟩,by dsimp only;omega⟩;have hw:=ZeG hl hMF hMB hw;exact hw.swap
  |true=>
   rw [hold] at hexp;have hst:x.state=1:=by
    unfold old at hold;simp only [Bool.and_eq_true,decide_eq_true_eq] at hold;exact hold.1
   refine Br.t rfl ?_;refine ZC (Sat R [pts p (Zh b' m1 m2),pts a (ZA x),MapAt m1 MF,VC.tru]) hw (λ w hw=>?_) λ w hw=>?_
   ·exact (hw.arr (Hs':=pts p (Zh b' m1 m2)::pts a (ZA x)::MapAt m1 MF::Zg f pl.r::ZR q pl.q::MapAt m2 MB::Zi (A++C)::Zj (A2++C2)::Own s 3 (Ze ids)::Zp b4::cmC b3 c sg sp::Hs)).cons λ _ h=>h.cons λ _ h=>h.restTru2
   refine Zc.mk rfl ⟨some m1,oS,Zc.mk rfl ⟨x.flt,oS,some ⟨f,0,none⟩,some ⟨q,0,none⟩,λ w' h=>?_,?_⟩⟩
   ·have hm1:Sat R (MapAt m1 MF::pts p (Zh b' m1 m2)::pts a (ZA x)::[VC.tru]) w':=Sat.arr h
    have:=MapAt.look Zv5 hm1 x.flt false;rw [hgetf] at this;exact this
   refine (Zl0 hw).u λ w hw=>?_;refine .inl ⟨_,rfl,?_,Zc.mk rfl ⟨some m2,oA hw,?_⟩⟩
   ·exact (hw.arr (Hs':=pts p (Zh b' m1 m2)::pts a (ZA x)::MapAt m1 MF::Zg f (Zca pl.r x.id).1::ZR q pl.q::MapAt m2 MB::Zi (A++C)::Zj (A2++C2)::Own s 3 (Ze ids)::Zp b4::cmC b3 c sg sp::Hs)).cons λ _ h=>h.cons λ _ h=>h.restTru2
   have hw:Sat R (Zg f (ZgC x.id pl).r::ZR q (ZgC x.id pl).q::pts a (ZA x)::pts p (Zh (Zf9 b' x) m1 m2)::MapAt m1 MF::MapAt m2 MB::Zi (A++C)::Zj (A2++C2)::Own s 3 (Ze ids)::Zp b4::cmC b3 c sg sp::Hs) w:=hw;have hw:Sat R (MapAt m2 MB::Zg f (ZgC x.id pl).r::ZR q (ZgC x.id pl).q::pts a (ZA x)::pts p (Zh (Zf9 b' x) m1 m2)::MapAt m1 MF::Zi (A++C)::Zj (A2++C2)::Own s 3 (Ze ids)::Zp b4::cmC b3 c sg sp::Hs) w:=hw.arr;refine MapAt.del Zwx hw x.id λ w hw=>?_;rw [hMB,ZtF hbm] at hw;have hn2:(ZgC x.id pl).n=x.flt:=(ZeJ (r:=pl.r) (o:=x.id)).1.trans hm.num;have hl2:ZaX (Zf9 b' x) (A++(f,q,ZgC x.id pl)::C) (A2++C2):=⟨hl.fset hm (ZgC x.id),hl.bdel hi.core.ids⟩;have hMF2:MF=(A++(f,q,ZgC x.id pl)::C).map flV:=by rw [hMF];exact Zft hn2 hm.num
   have hlater:∀ y∈b.L.drop (j + 1),y.id≠x.id:=λ y hy=>by
    have h1:=k.ids.sublist (List.drop_sublist j b.L);rw [hdrop] at h1;have:=(List.pairwise_cons.1 h1).1 y hy;omega
   refine ⟨⟨j + 1,Zf9 b' x,rfl,hjl,⟨hexp _ rfl,Zil hi.core hxL (by omega),hi.now,λ y hy=>?_⟩,?_⟩,by dsimp only;omega⟩
   ·exact Zcv.2 ⟨hi.left y (by rw [hdrop];exact List.mem_cons_of_mem _ hy),hlater y hy⟩
   ·have hw:Sat R (Zg f (ZgC x.id pl).r::ZR q (ZgC x.id pl).q::pts p (Zh (Zf9 b' x) m1 m2)::MapAt m1 MF::MapAt m2 ((A2++C2).map bkV)::Zi (A++C)::Zj (A2++C2)::Own s 3 (Ze ids)::pts a (ZA x)::Zp b4::cmC b3 c sg sp::Hs) w:=hw.arr
    have hw:=Zbz hl2 hMF2 rfl hw;exact hw.swap.cons λ _ h=>h.cons λ _ h=>h.drop
 ·have hje:j=b.L.length:=by omega
  subst hje;have htk:ZdV b c.time=b':=by rw [hi.res,List.drop_length];rfl
  obtain ⟨m1,m2,fs,xs,hl,hw⟩:=Sat.book.1 hw.swap;refine Zc.mk rfl ⟨some m1,oA hw,?_⟩;have hw:Sat R (MapAt m1 (fs.map flV)::pts p (Zh b' m1 m2)::MapAt m2 (xs.map bkV)::Zi fs::Zj xs::Own s 3 (Ze ids)::Zp b4::cmC b3 c sg sp::Hs) w:=hw.arr;refine Zwb (ZiO hi.core hl hw ?_);clear hw;intro s2 w hw;obtain ⟨ns,hns⟩:∃ ns,ns=b'.fl.map Pl.n:=⟨_,rfl⟩;rw [<-hns] at hw;have hnl:ns.length<=8:=by rw [hns,List.length_map];exact hi.core.few
  have hkeys:=(Zk6 k htm).2.2.2.2;rw [htk,<-hns] at hkeys;rw [<-hkeys,htk] at hclock;have hw:Sat R (Own s2 3 (Ze ns)::Zk p b'::Own s 3 (Ze ids)::Zp b4::cmC b3 c sg sp::Hs) w:=by
   refine hw.cons λ _ hw=>Sat.book.2 ⟨m1,m2,fs,xs,hl,?_⟩;exact hw.arr
  refine ⟨λ t w=>∃ (j:Nat) (b2:ZU),t=j/\j<=ns.length/\ZDj ns c.time b' j b2/\Sat R (Own s2 3 (Ze ns)::Zk p b2::Own s 3 (Ze ids)::Zp b4::cmC b3 c sg sp::Hs) w,λ t _=>ns.length - t.toNat,⟨0,b',rfl,Nat.zero_le _,⟨rfl,hi.core,hi.now,hns.symm⟩,hw⟩,?_⟩;clear hw;rintro _ _ w ⟨j,b2,rfl,hj,hi2,hw⟩;have hsl2:=Own.len hw;rw [List.length_map] at hsl2;refine Br.d (λ hlt=>?_) (λ hge=>?_)
  ·have hjl:j<ns.length:=by omega
   obtain ⟨n,hn⟩:∃ n,n=ns[j]:=⟨_,rfl⟩;have hdrop:ns.drop j=n::ns.drop (j + 1):=by rw [hn];exact List.drop_eq_getElem_cons hjl
   refine Own.ix hw (eqS hw) j rfl hjl ?_;rw [<-hn];have hwr:wI ((j:Int) + 1)=((j + 1:Nat):Int):=by rw [Zf];omega
   rw [hwr];refine (ZrZ hi2.core (by rw [hi2.nums,hn];exact List.getElem_mem hjl) hw.swap).u λ w hw=>?_;have hok:=Zcz (n:=n) hi2.core;refine .inl ⟨rfl,⟨j + 1,ZV n b2,rfl,hjl,⟨?_,hok.1,hok.2.1.now.trans hi2.now,hok.2.1.keys.trans hi2.nums⟩,hw.swap⟩,by dsimp only;omega⟩;rw [hi2.res,hdrop];rfl
  ·have hje:j=ns.length:=by omega
   subst hje;have hfin:ZcM ns b'=b2:=by rw [hi2.res,List.drop_length];rfl
   rw [hfin] at hclock;obtain ⟨m1,m2,fs,xs,hl,hw⟩:=Sat.book.1 hw.swap;refine Zc.mk rfl ⟨b2.now,oA hw,?_⟩;rw [hi2.now];have hw:Sat R (Zp b4::pts p (Zh b2 m1 m2)::MapAt m1 (fs.map flV)::MapAt m2 (xs.map bkV)::Zi fs::Zj xs::Own s2 3 (Ze ns)::Own s 3 (Ze ids)::cmC b3 c sg sp::Hs) w:=hw.arr;refine sRu hw λ w hw=>?_;have hw:=hw.re (rpC b4 ⟨0,emS,0,0,0,0,c.time,[],[]⟩ ZE ZE);refine ⟨_,_,_,_,_,_,_,ZE,ZE,oA hw,hK w ht ?_⟩;rw [hclock];exact (Sat.book.2 ⟨m1,m2,fs,xs,hl,hw.drop⟩).cons λ _ h=>h.drop.drop.drop
abbrev cmA (c:Cm) (sg sp:Sl):Value:=.agg #[nI c.kind,.string c.pnr,nI c.flt,nI c.cls,nI c.many,nI c.time,.float .f64 c.sc,.string c.lab,nI c.rows,.slice sg.a sg.len sg.cap,.slice sp.a sp.len sp.cap]
abbrev ZBN (b4:Nat) (K:nK) (w : nW):Prop:=
 ∃ u:Int,∃ u1:ByteArray,∃ u2:Int,∃ u3:Int,∃ u4:Int,∃ u5:Int,∃ u6:Int,∃ u7:Sl,∃ u8:Sl,(At (λ w'=>w'=w) ⟨b4,0,none⟩ [nI u,.string u1,nI u2,nI u3,nI u4,nI u5,nI u6,.slice u7.a u7.len u7.cap,.slice u8.a u8.len u8.cap])/\
  K (.agg #[nI u,.string u1,nI u2,nI u3,nI u4,nI u5,nI u6,.slice u7.a u7.len u7.cap,.slice u8.a u8.len u8.cap]) w
theorem ZCW {b4:Nat} {r:Rp} {sl sb:Sl} {K:Value->World->Prop} (hw:Sat R (rpC b4 r sl sb::Hs) w) (k:K (.agg (rpV r sl sb).toArray) w):ZBN b4 K w:=
 ⟨_,_,_,_,_,_,_,sl,sb,oA hw,k⟩
theorem ZjR {b4:Nat} {r r0:Rp} {sl sb l0 b0:Sl} {K:Value->World->Prop} (hw:Sat R (rpC b4 r0 l0 b0::Hs) w) (k:∀ w',Sat R Hs w'->K (.agg (rpV r sl sb).toArray) w'):
  ∃ t0:Int,∃ t1:ByteArray,∃ t2:Int,∃ t3:Int,∃ t4:Int,∃ t5:Int,∃ t6:Int,∃ t7:Sl,∃ t8:Sl,(Ending.returned (.agg (rpV r sl sb).toArray)=.returned (.agg #[nI t0,.string t1,nI t2,nI t3,nI t4,nI t5,nI t6,.slice t7.a t7.len t7.cap,.slice t8.a t8.len t8.cap]))/\
   ∃ w_6:World,((Instr.storeAt 33 (.pointer ((some ⟨b4,0,none⟩))) (.agg #[nI t0,.string t1,nI t2,nI t3,nI t4,nI t5,nI t6,.slice t7.a t7.len t7.cap,.slice t8.a t8.len t8.cap])).run prog w=.ok () w_6)/\
    Z1 prog 36 [.pointer ((some ⟨b4,0,none⟩))] .returning (ZBN b4 K) w_6:=by
 refine ⟨_,_,_,_,_,_,_,sl,sb,rfl,?_⟩;refine sRu hw λ w hw=>?_;have hw:=hw.re (rpC b4 r sl sb);exact Ztt (ZCW hw (k w hw.drop))
theorem Zcb {b4:Nat} {r0:Rp} {l0 b0:Sl} {e:Int} {K:Value->World->Prop} (hw:Sat R (rpC b4 r0 l0 b0::Hs) w) (k:∀ w',Sat R Hs w'->K (.agg (rpV (Zby e) ZE ZE).toArray) w'):
  Z1 prog 36 [.pointer ((some ⟨b4,0,none⟩))] (.panicking (Zjr e)) (ZBN b4 K) w:=
 Zx5 hw λ w hw=>ZCW hw (k w hw.drop)
theorem ZcE {b4:Nat} (hw:Sat R (Zp b4::Hs) w):Sat R (rpC b4 ⟨0,emS,0,0,0,0,0,[],[]⟩ ZE ZE::Hs) w:=hw
def Zo7 (p a:Nat) (b:ZU) (x:Bk) (R:Cx) (Hs:List HP) (w : nW):Prop:=∃ (m1 m2:Nat) (fs:List FE) (A2 C2:List BE),ZaX b fs (A2++(a,x)::C2)/\Zt6 A2 C2 x/\
 Sat R (pts p (Zh b m1 m2)::MapAt m1 (fs.map flV)::MapAt m2 ((A2++(a,x)::C2).map bkV)::Zi fs::Zj (A2++(a,x)::C2)::Hs) w
theorem Zjc {p:Nat} {b:ZU} {s:ByteArray} (k:Core b) (hw:Sat R (Zk p b::Hs) w):
  Zba prog 43 #[nP p,.string s] w
   (λ ch w'=>∃ e,ch=Zjr e/\Zc9 b s=(none,e)/\Sat R (Zk p b::Hs) w')
   (λ v w'=>∃ a x,v=nP a/\Zc9 b s=(some x,0)/\x∈b.L/\Zo7 p a b x R Hs w'):=by
 obtain ⟨m1,m2,fs,xs,hl,hw⟩:=Sat.book.1 hw;have hw:Sat R (pts p (Zh b m1 m2)::MapAt m2 (xs.map bkV)::MapAt m1 (fs.map flV)::Zi fs::Zj xs::Hs) w:=hw.arr;refine (ZnJ hw).use ?_ ?_
 ·clear hw
  rintro _ w ⟨⟨v1,h0,hg,rfl⟩,hw⟩;refine .inl ⟨_,rfl,?_⟩;cases hbk:b.bk (Zcf (ZX s)).1 with
  |none=>rw [(ZnL hl).2 hbk] at hg;cases hg
  |some x=>
   have hx:=(Zww k).1 hbk;obtain ⟨A2,a,C2,rfl,hbm⟩:=Zge hl k.ids hx.1;have:=Zmy (a:=a) hbm;rw [hx.2,hg] at this;simp only [Option.some.injEq,Value.pointer.injEq] at this;subst this;refine ⟨a,x,rfl,?_,hx.1,m1,m2,fs,A2,C2,hl,hbm,?_⟩
   ·unfold Zc9
    rw [if_neg (λ h=>h h0),hbk]
   ·exact hw.arr
 ·clear hw
  rintro _ w ⟨⟨e,rfl,he⟩,hw⟩;refine .inr ⟨_,rfl,e,rfl,?_,Sat.book.2 ⟨m1,m2,fs,xs,hl,?_⟩⟩
  ·rcases he with ⟨h0,rfl⟩|⟨h0,rfl,hg⟩
   ·unfold Zc9
    rw [if_pos h0]
   ·unfold Zc9
    rw [if_neg (λ h=>h h0),(ZnL hl).1 hg]
  ·exact hw.arr
theorem Zo7.close {p a:Nat} {b:ZU} {x:Bk} (h:Zo7 p a b x R Hs w):Sat R (Zk p b::Hs) w:=by
 obtain ⟨m1,m2,fs,A2,C2,hl,_,hw⟩:=h;exact Sat.book.2 ⟨m1,m2,fs,_,hl,hw⟩
theorem ZqR {p a:Nat} {b:ZU} {x:Bk} (k:Core b) (h:Zo7 p a b x R Hs w):
  Zm prog 53 #[nP p,nP a] w λ v w'=>∃ sl sb:Sl,v=.agg (rpV (ZdM b x) sl sb).toArray/\
   Sat R (Own sl 3 (Ze (ZdM b x).left)::Own sb 9 ((ZdM b x).labs.map Value.string)::Zk p b::Hs) w':=by
 obtain ⟨m1,m2,fs,A2,C2,hl,hbm,hw⟩:=h;have hxL:x∈b.L:=by rw [<-hl.bk];exact List.mem_map.2 ⟨(a,x),by simp,rfl⟩
 have hnx:=k.next;have hbk:=(k.each x hxL).id;obtain ⟨pl,hat⟩:=k.at_of hxL;obtain ⟨A,f,q,C,rfl,hm⟩:=ZdS hl k.nums hat;have htell:ZdM b x=ZdL pl x:=by unfold ZdM;rw [hat]
 rw [htell];obtain ⟨MF,hMF⟩:∃ M,M=(A++(f,q,pl)::C).map flV:=⟨_,rfl⟩;obtain ⟨MB,hMB⟩:∃ M,M=(A2++(a,x)::C2).map bkV:=⟨_,rfl⟩;rw [<-hMF,<-hMB] at hw;have hw:Sat R (Zi (A++(f,q,pl)::C)::Zj (A2++(a,x)::C2)::pts p (Zh b m1 m2)::MapAt m1 MF::MapAt m2 MB::Hs) w:=hw.arr;have hw:=ZbL.1 hw;have hw:Sat R (Zj (A2++(a,x)::C2)::Zg f pl.r::ZR q pl.q::Zi (A++C)::pts p (Zh b m1 m2)::MapAt m1 MF::MapAt m2 MB::Hs) w:=hw.arr;have hw:=ZcX.1 hw;have hw:Sat R (pts p (Zh b m1 m2)::MapAt m1 MF::pts a (ZA x)::Zg f pl.r::ZR q pl.q::MapAt m2 MB::Zi (A++C)::Zj (A2++C2)::Hs) w:=hw.arr;rw [hMF] at hw;refine (ZfA (by omega) hm hw).use ?_;clear hw;rintro _ w ⟨sl,sb,rfl,hw⟩;refine ⟨_,rfl,sl,sb,rfl,?_⟩;refine hw.cons λ _ hw=>hw.cons λ _ hw=>?_;rw [<-hMF] at hw;have hw:Sat _ (Zg f pl.r::ZR q pl.q::pts a (ZA x)::pts p (Zh b m1 m2)::MapAt m1 MF::MapAt m2 MB::Zi (A++C)::Zj (A2++C2)::Hs) w:=hw.arr;exact ZeG hl hMF hMB hw
theorem Zrh {p:Nat} {b:ZU} {c:Cm} {sg sp:Sl} (k:Core b) (hg:RoI R sg c.grps) (hgl:c.grps.length<=17592186043904) (hp:sp.len=c.parts.length) (hw:Sat R (Zk p b::Hs) w):
  Zm prog 16 #[nP p,cmA c sg sp] w
   λ v w'=>∃ sl sb:Sl,v=.agg (rpV (ZdZ b c) sl sb).toArray/\Sat R (Own sl 3 (Ze (ZdZ b c).left)::Own sb 9 ((ZdZ b c).labs.map Value.string)::Zk p b::Hs) w':=by
 apply ZBF
 suffices H:∀ K:nK,(∀ sl sb w',Sat R (Own sl 3 (Ze (ZdZ b c).left)::Own sb 9 ((ZdZ b c).labs.map Value.string)::Zk p b::Hs) w'->K (.agg (rpV (ZdZ b c) sl sb).toArray) w')->B16 (some ⟨p,0,none⟩) c.kind c.pnr c.flt c.cls c.many c.time c.sc c.lab c.rows sg sp K w from
  H _ (λ sl sb w' h=>⟨sl,sb,rfl,h⟩)
 intro K hK;have hKe:∀ e w',ZdZ b c=Zby e->Sat R (Zk p b::Hs) w'->K (.agg (rpV (Zby e) ZE ZE).toArray) w':=λ e w' he hw=>by
  have:=hK ZE ZE w';rw [he] at this;exact this (Own.nil (Own.nil hw))
 refine Za hw λ b3 w hw=>Za hw λ b4 w hw=>?_;have hw:Sat R (Zp b4::cmC b3 c sg sp::Zk p b::Hs) w:=hw;refine ⟨λ w=>(ZaL c/\c.kind=9)/\Sat R (Zp b4::cmC b3 c sg sp::Zk p b::Hs) w,?_,?_⟩
 ·refine ⟨c.kind,c.pnr,c.flt,c.cls,c.many,c.time,c.sc,c.lab,c.rows,sg,sp,oA hw,?_⟩
  refine (Zfx hg hgl hp hw).u λ w hw=>?_;refine .inl ⟨_,rfl,Br.d (λ hr=>?_) (λ hr=>?_)⟩
  ·refine ⟨c.kind,oA hw,?_⟩
   refine Zce (λ h=>.inl ⟨rfl,⟨hr,by simpa using h⟩,hw⟩) (λ h=>.inr ⟨_,rfl,Zcb (ZcE hw) λ w hw=>hKe 1 w ?_ hw.drop⟩);unfold ZdZ;rw [if_pos (.inr (by simpa using h))]
  ·refine Zce (λ h=>by cases h) (λ h=>.inr ⟨_,rfl,Zcb (ZcE hw) λ w hw=>hKe 1 w ?_ hw.drop⟩)
   unfold ZdZ;rw [if_pos (.inl hr)]
 clear hw;rintro _ w ⟨hr,hw⟩;have hno:¬ (¬ ZaL c\/c.kind≠9):=λ h=>h.elim (λ h=>h hr.1) (λ h=>h hr.2);refine ⟨c.pnr,oA hw,Br.sne (λ hs=>?_) (λ hs=>?_)⟩
 ·refine ⟨c.pnr,oA hw,?_⟩
  have hs':c.pnr≠emS:=hs;have hshow:∀ y,Zc9 b c.pnr=y->ZdZ b c=(match y with|(none,e)=>Zby e|(some x,_)=>ZdM b x):=λ y hy=>by
   unfold ZdZ;rw [if_neg hno,if_pos hs',hy];obtain ⟨o,e⟩:=y;cases o<;>rfl
  have hw:Sat R (Zk p b::Zp b4::cmC b3 c sg sp::Hs) w:=hw.arr;refine (Zjc k hw).use ?_ ?_
  ·clear hw
   rintro _ w ⟨a,x,rfl,hn,hxL,hw⟩;have hsh:=hshow _ hn;refine .inl ⟨_,rfl,?_⟩;refine (ZqR k hw).use ?_;clear hw;rintro _ w ⟨sl,sb,rfl,hw⟩;refine .inl ?_;have hw:Sat R (Zp b4::Own sl 3 (Ze (ZdM b x).left)::Own sb 9 ((ZdM b x).labs.map Value.string)::Zk p b::cmC b3 c sg sp::Hs) w:=hw.arr;refine ZjR (ZcE hw) λ w hw=>?_;have:=hK sl sb w;rw [hsh] at this;exact this (hw.cons λ _ h=>h.cons λ _ h=>h.cons λ _ h=>h.drop)
  ·clear hw
   rintro _ w ⟨e,rfl,hn,hw⟩;have hw:Sat R (Zp b4::Zk p b::cmC b3 c sg sp::Hs) w:=hw.swap;exact .inr ⟨_,rfl,Zcb (ZcE hw) λ w hw=>hKe e w (hshow _ hn) (hw.cons λ _ h=>h.drop)⟩
 ·have hs':¬ c.pnr≠emS:=λ h=>h hs
  have hshow:∀ y,b.at c.flt=y->ZdZ b c=(match y with|none=>Zby 2|some p=>⟨0,emS,0,c.flt,0,(p.q.length:Int),0,Zq p.r,[]⟩):=λ y hy=>by
   unfold ZdZ;rw [if_neg hno,if_neg hs',hy];cases y<;>rfl
  refine ⟨c.flt,oA hw,?_⟩;have hw:Sat R (Zk p b::Zp b4::cmC b3 c sg sp::Hs) w:=hw.arr;obtain ⟨m1,m2,fs,xs,hl,hw⟩:=Sat.book.1 hw;refine (ZkP hw).use ?_ ?_
  ·clear hw
   rintro _ w ⟨⟨v1,v2,hgm,rfl⟩,hw⟩;obtain ⟨A,f,q,C,pl,rfl,hm,hat,hv⟩:=Zky hl k hgm;simp only [Value.agg.injEq,Array.mk.injEq,List.cons.injEq,Value.pointer.injEq,and_true] at hv;obtain ⟨rfl,rfl⟩:=hv;have hsh:=hshow _ hat;have hpl:=Zax hat;have hqok:=k.qok pl hpl.1;obtain ⟨MF,hMF⟩:∃ M,M=(A++(f,q,pl)::C).map flV:=⟨_,rfl⟩;obtain ⟨MB,hMB⟩:∃ M,M=xs.map bkV:=⟨_,rfl⟩;rw [<-hMF,<-hMB] at hw;have hw:Sat R (Zi (A++(f,q,pl)::C)::cmC b3 c sg sp::Zp b4::pts p (Zh b m1 m2)::MapAt m1 MF::MapAt m2 MB::Zj xs::Hs) w:=hw.arr;have hw:=ZbL.1 hw;refine .inl ⟨_,_,rfl,?_⟩;refine Za hw λ b5 w hw=>?_;refine sRu hw λ w hw=>?_;have hw:=hw.re (fqC b5 f q);have toS:∀ {A:List HP} {R:Cx} {w:World},Sat R (cmC b3 c sg sp::fqC b5 f q::A) w->Sat R [cmC b3 c sg sp,fqC b5 f q,VC.tru] w:=λ h=>h.cons λ _ h=>h.restTru2;refine ZC (Sat R [cmC b3 c sg sp,fqC b5 f q,VC.tru]) hw (λ w hw=>?_) λ w hw=>?_
   ·exact toS (hw.arr (Hs':=cmC b3 c sg sp::fqC b5 f q::Zg f pl.r::ZR q pl.q::Zi (A++C)::Zp b4::pts p (Zh b m1 m2)::MapAt m1 MF::MapAt m2 MB::Zj xs::Hs))
   refine ⟨c.flt,oS,some ⟨f,0,none⟩,oS,some ⟨q,0,none⟩,oS,?_⟩;refine (ZcQ hw.swap).u1 λ sl w hw=>?_;refine .inl ⟨sl,rfl,?_,?_⟩
   ·exact toS (hw.arr (Hs':=cmC b3 c sg sp::fqC b5 f q::Own sl 3 (Ze (Zq pl.r))::Zg f pl.r::ZR q pl.q::Zi (A++C)::Zp b4::pts p (Zh b m1 m2)::MapAt m1 MF::MapAt m2 MB::Zj xs::Hs))
   have hw:Sat R (ZR q pl.q::Own sl 3 (Ze (Zq pl.r))::Zg f pl.r::Zi (A++C)::cmC b3 c sg sp::fqC b5 f q::Zp b4::pts p (Zh b m1 m2)::MapAt m1 MF::MapAt m2 MB::Zj xs::Hs) w:=hw.arr;refine (ZrR (by have:=hqok.len;omega) hw).u1 λ t w hw=>?_;have htl:=Zs.len hw;rw [List.length_map] at htl;have hw:=hw.drop;refine .inl ⟨t,rfl,?_,?_⟩
   ·exact toS (hw.arr (Hs':=cmC b3 c sg sp::fqC b5 f q::ZR q pl.q::Own sl 3 (Ze (Zq pl.r))::Zg f pl.r::Zi (A++C)::Zp b4::pts p (Zh b m1 m2)::MapAt m1 MF::MapAt m2 MB::Zj xs::Hs))
   rw [htl];have hw:Sat R (Zp b4::Own sl 3 (Ze (Zq pl.r))::Zg f pl.r::ZR q pl.q::pts p (Zh b m1 m2)::MapAt m1 MF::MapAt m2 MB::Zi (A++C)::Zj xs::cmC b3 c sg sp::fqC b5 f q::Hs) w:=hw.arr;refine sRu hw λ w hw=>?_;have hw:=hw.re (rpC b4 ⟨0,emS,0,c.flt,0,(pl.q.length:Int),0,Zq pl.r,[]⟩ sl ZE);refine Ztt (ZCW hw ?_);have:=hK sl ZE w;rw [hsh] at this;refine this ?_;refine hw.drop.cons λ _ hw=>Own.nil ?_;exact (Zbz hl hMF hMB hw).cons λ _ h=>h.drop.drop
  ·clear hw
   rintro _ w ⟨rfl,hno2,hw⟩;have hw:Sat R (Zp b4::cmC b3 c sg sp::pts p (Zh b m1 m2)::MapAt m1 (fs.map flV)::MapAt m2 (xs.map bkV)::Zi fs::Zj xs::Hs) w:=hw.arr;refine .inr ⟨_,rfl,Zcb (ZcE hw) λ w hw=>hKe 2 w (hshow _ ((Zh9 hl).1 hno2)) (Sat.book.2 ⟨m1,m2,fs,xs,hl,hw.drop⟩)⟩
theorem ZdI {g:FuncId} {ars:Array Value} {p b3 b4:Nat} {b nb:ZU} {c:Cm} {res:Rp} {sg sp:Sl} {K:Value->World->Prop}
  (h:Zba prog g ars w (λ ch w'=>∃ e,ch=Zjr e/\(nb,res)=(b,Zby e)/\Sat R (Zk p b::Zp b4::cmC b3 c sg sp::Hs) w')
   (λ v w'=>∃ sl sb:Sl,v=.agg (rpV res sl sb).toArray/\Sat R (Own sl 3 (Ze res.left)::Own sb 9 (res.labs.map Value.string)::Zk p nb::Zp b4::cmC b3 c sg sp::Hs) w'))
  (hK:∀ sl sb w',Sat R (Own sl 3 (Ze res.left)::Own sb 9 (res.labs.map Value.string)::Zk p nb::Hs) w'->K (.agg (rpV res sl sb).toArray) w'):
  Calls prog g ars w λ e w_5=>
   (∃ t0:Int,∃ t1:ByteArray,∃ t2:Int,∃ t3:Int,∃ t4:Int,∃ t5:Int,∃ t6:Int,∃ t7:Sl,∃ t8:Sl,(e=.returned (.agg #[nI t0,.string t1,nI t2,nI t3,nI t4,nI t5,nI t6,.slice t7.a t7.len t7.cap,.slice t8.a t8.len t8.cap]))/\
    ∃ w_6:World,((Instr.storeAt 33 (.pointer ((some ⟨b4,0,none⟩))) (.agg #[nI t0,.string t1,nI t2,nI t3,nI t4,nI t5,nI t6,.slice t7.a t7.len t7.cap,.slice t8.a t8.len t8.cap])).run prog w_5=.ok () w_6)/\
    Z1 prog 36 [.pointer ((some ⟨b4,0,none⟩))] .returning (λ w_7=>ZBN b4 K w_7) w_6)\/
   (∃ ch:List PanicEntry,(e=.panicked ch)/\Z1 prog 36 [.pointer ((some ⟨b4,0,none⟩))] (.panicking ch) (λ w_8=>ZBN b4 K w_8) w_5):=by
 refine h.use ?_ ?_
 ·rintro _ w ⟨sl,sb,rfl,hw⟩
  have hw:Sat R (Zp b4::Own sl 3 (Ze res.left)::Own sb 9 (res.labs.map Value.string)::Zk p nb::cmC b3 c sg sp::Hs) w:=hw.arr;exact .inl (ZjR (ZcE hw) λ w hw=>hK sl sb w (hw.cons λ _ h=>h.cons λ _ h=>h.cons λ _ h=>h.drop))
 ·rintro _ w ⟨e,rfl,he,hw⟩
  have h1:=congrArg Prod.fst he;have h2:=congrArg Prod.snd he;dsimp only at h1 h2;subst h1 h2;exact .inr ⟨_,rfl,Zcb (ZcE hw.swap) λ w hw=>hK ZE ZE w (Own.nil (Own.nil (hw.cons λ _ h=>h.drop)))⟩
theorem Zqs {p:Nat} {b:ZU} {c:Cm} {sg sp:Sl} (k:Zau b) (hsc:c.sc<18446744073709551616) (hg:RoI R sg c.grps) (hgl:c.grps.length<=17592186043904) (hp:SlR R.m sp (Zjn c.parts)) (hw:Sat R (Zk p b::Hs) w):
  Zm prog 12 #[nP p,cmA c sg sp] w
   λ v w'=>∃ sl sb:Sl,v=.agg (rpV (Zai b c).2 sl sb).toArray/\Sat R (Own sl 3 (Ze (Zai b c).2.left)::Own sb 9 ((Zai b c).2.labs.map Value.string)::Zk p (Zai b c).1::Hs) w':=by
 have hplen:sp.len=c.parts.length:=by have:=hp.len;simpa using this
 apply ZBG
 suffices H:∀ K:nK,(∀ sl sb w',Sat R (Own sl 3 (Ze (Zai b c).2.left)::Own sb 9 ((Zai b c).2.labs.map Value.string)::Zk p (Zai b c).1::Hs) w'->K (.agg (rpV (Zai b c).2 sl sb).toArray) w')->B12 (some ⟨p,0,none⟩) c.kind c.pnr c.flt c.cls c.many c.time c.sc c.lab c.rows sg sp K w from
  H _ (λ sl sb w' h=>⟨sl,sb,rfl,h⟩)
 intro K hK;refine Za hw λ b3 w hw=>Za hw λ b4 w hw=>?_;have hw:Sat R (Zp b4::cmC b3 c sg sp::Zk p b::Hs) w:=hw;refine ⟨c.kind,c.pnr,c.flt,c.cls,c.many,c.time,c.sc,c.lab,c.rows,sg,sp,oA hw,?_⟩;refine (Zfx hg hgl hplen hw).u λ w hw=>?_;refine .inl ⟨_,rfl,Zce (λ h=>.inl ⟨rfl,?_⟩) (λ h=>.inr ⟨_,rfl,?_⟩)⟩
 rotate_left
 ·have hr:¬ ZaL c:=of_decide_eq_false h
  have e:Zai b c=(b,Zby 1):=by unfold Zai;rw [if_pos hr]
  rw [e] at hK;exact Zcb (ZcE hw) λ w hw=>hK ZE ZE w (Own.nil (Own.nil hw.drop))
 have hr:ZaL c:=of_decide_eq_true h;have hrr:¬ ¬ ZaL c:=λ h=>h hr;have hw:Sat R (Zk p b::Zp b4::cmC b3 c sg sp::Hs) w:=hw.arr;refine ⟨c.kind,oA hw,Br.e (λ h1=>?_) (λ h1=>?_)⟩
 ·refine ⟨c.kind,c.pnr,c.flt,c.cls,c.many,c.time,c.sc,c.lab,c.rows,sg,sp,oA hw,?_⟩
  have e:Zai b c=Zd0 b c:=by unfold Zai;rw [if_neg hrr,if_pos h1]
  rw [e] at hK;refine ZdI (b:=b) (nb:=(Zd0 b c).1) (res:=(Zd0 b c).2) (c:=c) (p:=p) (b3:=b3) (sg:=sg) (sp:=sp) ?_ hK;refine (Zqo (by have:=k.core.few;omega) hg hp hw).use ?_ ?_
  ·rintro _ w ⟨he,sl,rfl,hw⟩
   refine .inl ⟨_,rfl,sl,ZE,?_⟩;rw [he];exact ⟨rfl,hw.cons λ _ h=>Own.nil h⟩
  ·rintro _ w ⟨e,rfl,he,hw⟩
   exact .inr ⟨_,rfl,e,rfl,he,hw⟩
 refine ⟨λ t w=>t=decide (c.kind=2\/c.kind=7)/\Sat R (Zk p b::Zp b4::cmC b3 c sg sp::Hs) w,?_,?_⟩
 ·refine Br.e (λ h2=>⟨?_,hw⟩) (λ h2=>⟨?_,hw⟩)
  ·rw [decide_eq_true (.inl h2),h2];rfl
  ·by_cases h7:c.kind=7
   ·rw [decide_eq_true (.inr h7),h7];rfl
   ·rw [decide_eq_false (by omega)]
    exact beq_eq_false_iff_ne.2 h7
 clear hw;rintro _ _ w ⟨rfl,hw⟩;refine Br.d (λ h27=>?_) (λ h27=>?_)
 ·refine ⟨c.kind,c.pnr,c.flt,c.cls,c.many,c.time,c.sc,c.lab,c.rows,sg,sp,oA hw,?_⟩
  rcases h27 with h2|h7
  ·have e:Zai b c=Zdm b c:=by unfold Zai;rw [if_neg hrr,if_neg h1,if_pos h2]
   rw [e] at hK;exact ZdI (b:=b) (nb:=(Zdm b c).1) (res:=(Zdm b c).2) (c:=c) (p:=p) (ZtX h2 k.core hr hw) hK
  ·have e:Zai b c=ZbC b c:=by unfold Zai;rw [if_neg hrr,if_neg h1,if_neg (by omega),if_pos h7]
   rw [e] at hK;exact ZdI (b:=b) (nb:=(ZbC b c).1) (res:=(ZbC b c).2) (c:=c) (p:=p) (ZtW h7 k hr hsc hw) hK
 refine Br.e (λ h8=>?_) (λ h8=>Br.e (λ h9=>?_) (λ h9=>?_))
 ·refine ⟨c.kind,c.pnr,c.flt,c.cls,c.many,c.time,c.sc,c.lab,c.rows,sg,sp,oA hw,?_⟩
  have e:Zai b c=ZbN b c:=by unfold Zai;rw [if_neg hrr,if_neg h1,if_neg (by omega),if_neg (by omega),if_pos h8]
  rw [e] at hK;exact ZdI (b:=b) (nb:=(ZbN b c).1) (res:=(ZbN b c).2) (c:=c) (p:=p) (Zqh k.core hr hw) hK
 ·refine ⟨c.kind,c.pnr,c.flt,c.cls,c.many,c.time,c.sc,c.lab,c.rows,sg,sp,oA hw,?_⟩
  have e:Zai b c=(b,ZdZ b c):=by unfold Zai;rw [if_neg hrr,if_neg h1,if_neg (by omega),if_neg (by omega),if_neg h8,if_pos h9]
  rw [e] at hK;refine ZdI (b:=b) (nb:=b) (res:=ZdZ b c) (c:=c) (p:=p) (b3:=b3) (sg:=sg) (sp:=sp) ?_ hK;refine (Zrh k.core hg hgl hplen hw).use ?_;rintro _ w ⟨sl,sb,rfl,hw⟩;exact .inl ⟨_,rfl,sl,sb,rfl,hw⟩
 ·have hap:∀ y,Zc9 b c.pnr=y->Zai b c=(match y with|(none,e)=>(b,Zby e)|(some x,_)=>Zhf b x c):=λ y hy=>by
   unfold Zai;rw [if_neg hrr,if_neg h1,if_neg (by omega),if_neg (by omega),if_neg h8,if_neg h9,hy];obtain ⟨o,e⟩:=y;cases o<;>rfl
  have hk36:c.kind=3\/c.kind=4\/c.kind=5\/c.kind=6:=by have:=hr.kind;omega
  have toS:∀ {A:List HP} {R:Cx} {w:World},Sat R (cmC b3 c sg sp::A) w->Sat R [cmC b3 c sg sp,VC.tru] w:=λ h=>h.restTru2;refine ZC (Sat R [cmC b3 c sg sp,VC.tru]) hw (λ w hw=>?_) λ w hw=>?_
  ·exact toS (hw.arr (Hs':=cmC b3 c sg sp::Zk p b::Zp b4::Hs))
  refine ⟨c.pnr,oS,c.kind,c.pnr,c.flt,c.cls,c.many,c.time,c.sc,c.lab,c.rows,sg,sp,oS,?_⟩;refine (Zjc k.core hw).use ?_ ?_
  ·clear hw
   rintro _ w ⟨a,x,rfl,hn,hxL,hop⟩;have e:=hap _ hn;rw [e] at hK;refine .inl ⟨_,rfl,?_,?_⟩
   ·exact toS (hop.close.arr (Hs':=cmC b3 c sg sp::Zk p b::Zp b4::Hs))
   obtain ⟨m1,m2,fs,A2,C2,hl,hbm,hw⟩:=hop;refine (ZuS hk36 k.core (by have:=hr.lab;omega) hl hbm hw).use ?_ ?_
   ·clear hw
    rintro _ w ⟨sl,sb,rfl,hw⟩;have hS:=toS (hw.arr (Hs':=cmC b3 c sg sp::Own sl 3 (Ze (Zhf b x c).2.left)::Own sb 9 ((Zhf b x c).2.labs.map Value.string)::Zk p (Zhf b x c).1::Zp b4::Hs));have hw:Sat R (Zp b4::Own sl 3 (Ze (Zhf b x c).2.left)::Own sb 9 ((Zhf b x c).2.labs.map Value.string)::Zk p (Zhf b x c).1::cmC b3 c sg sp::Hs) w:=hw.arr;refine .inl ?_;obtain ⟨t0,t1,t2,t3,t4,t5,t6,t7,t8,he,h⟩:=ZjR (r:=(Zhf b x c).2) (sl:=sl) (sb:=sb) (K:=K) (ZcE hw) λ w hw=>hK sl sb w (hw.cons λ _ h=>h.cons λ _ h=>h.cons λ _ h=>h.drop);exact ⟨t0,t1,t2,t3,t4,t5,t6,t7,t8,he,hS,h⟩
   ·clear hw
    rintro _ w ⟨e,rfl,he,hw⟩;dsimp only at hK;rw [he] at hK;exact .inr ⟨_,rfl,Zcb (ZcE hw.swap) λ w hw=>hK ZE ZE w (Own.nil (Own.nil (hw.cons λ _ h=>h.drop)))⟩
  ·clear hw
   rintro _ w ⟨e,rfl,hn,hw⟩;have e2:=hap _ hn;rw [e2] at hK;exact .inr ⟨_,rfl,Zcb (ZcE hw.swap) λ w hw=>hK ZE ZE w (Own.nil (Own.nil (hw.cons λ _ h=>h.drop)))⟩
end
end Go.Proofs.YtlplemdmegpoeaaGreatDoor




namespace Go.Proofs.YtlplemdmegpoeaaGreatDoor
section
open Go Go.VC Tryz
open Classical
variable {R:Cx} {Hs Rest:List HP} {w:World}
theorem Zw {a b:List Int} (h1:Zr a) (h2:Zr b):Zr (a++b):=λ x hx=>(List.mem_append.1 hx).elim (h1 x) (h2 x)
theorem ZdG {α:Type} {f:α->List Int} {l:List α} (h:∀ x∈l,Zr (f x)):Zr (l.map f).flatten:=λ y hy=>by
 obtain ⟨r,h1,h2⟩:=List.mem_flatten.1 hy;obtain ⟨x,hx,rfl⟩:=List.mem_map.1 h1;exact h x hx y h2
theorem ZH {x:Int} (h:0<=x/\x<18446744073709551616):Zr (Zl [x]):=Zb3 λ y hy=>by rw [List.mem_singleton.1 hy];exact h
theorem ZdF {d:List Int} (h:Zr d) (hl:d.length<1000000):Zr (ZaZ d):=Zw (Zj4 (by omega)) h
theorem Zmv {s:ByteArray} (h:s.size<1000000):Zr (Zq7 s):=ZdF (Zmw s) (by rw [Zak];exact h)
theorem ZtB {x:Nat} (h:x<18446744073709551616):Zr (Zwf x):=Zj4 (Zoz h)
theorem ZoX {r:Rp} (h:Zt1 r):Zr (rpB r):=by
 have r1:=h.code;have r2:=h.pnr;have r3:=h.state;have r4:=h.flt;have r5:=h.cls;have r6:=h.many;have r7:=h.time;have r8:=h.ll;have r9:=h.bl;unfold rpB;rw [Zcu r1.1,Zcu r3.1,Zcu r4.1,Zcu r5.1,Zcu r6.1,Zcu r7.1,ZAx λ n hn=>(h.left n hn).1];refine Zw (ZH (by omega)) (Zw (Zmv (by omega)) (Zw (ZH (by omega)) (Zw (ZH (by omega)) (Zw (ZH (by omega)) (Zw (ZH (by omega)) (Zw (ZH (by omega)) (Zw (ZH (by omega)) (Zw (Zb3 λ x hx=>?_) (Zw (ZH (by omega)) (ZdG λ x hx=>Zmv ?_))))))))))
 ·have:=h.left x hx
  omega
 ·have:=h.labs x hx
  omega
theorem ZvX {r:Rp} (h:Zt1 r):RpW r:=by
 refine ⟨λ x hx=>?_,by have:=h.pnr;omega,by have:=h.ll;omega,by have:=h.bl;omega,λ s hs=>by have:=h.labs s hs;omega⟩;have r1:=h.code;have r3:=h.state;have r4:=h.flt;have r5:=h.cls;have r6:=h.many;have r7:=h.time;rcases List.mem_append.1 hx with hx|hx
 ·simp only [List.mem_cons,List.not_mem_nil,or_false] at hx
  omega
 ·have:=h.left x hx
  omega
end
section
open Go Go.VC Tryz
open Classical
abbrev mI:Int:=1099511627776
structure Rq where
 kind:Int
 client:Int
 seq:Int
 token:Int
 cmd:List Int
def inI (n:Int):Prop:=0<=n/\n<=1099511627776
structure ZaK (q:Rq):Prop where
 client:inI q.client
 seq:inI q.seq
 token:inI q.token
 cmd:q.cmd.length<=4000
 kind:(q.kind=1/\q.client=0/\q.seq=0/\q.cmd.length=0)\/(q.kind=2/\q.token=0)\/(q.kind=3/\q.token=0/\q.seq=0/\q.cmd.length=0)\/(q.kind=4/\q.client=0/\q.seq=0/\q.token=0)
def rqB (q:Rq):List Int:=Zl [q.kind,q.client,q.seq,q.token]++ZaZ q.cmd
def Zrr (m:Int) (r:Rd):Rq × Rd:=
 let k:=Zb m r
 let c:=Zb mI k.2
 let s:=Zb mI c.2
 let t:=Zb mI s.2
 let d:=ZD 4000 t.2
 (⟨k.1,c.1,s.1,t.1,d.1⟩,d.2)
def ZkY:Rq:=⟨0,0,0,0,[]⟩
noncomputable def Zad (m:Int) (bs:List Int):Rq × Int:=if ZF (Zrr m ⟨bs,false⟩).2=true/\ZaK (Zrr m ⟨bs,false⟩).1 then ((Zrr m ⟨bs,false⟩).1,0) else (ZkY,6)
noncomputable def ZqE (q:Rq):List Int × Int:=if ZaK q then (rqB q,0) else ([],1)
theorem ZaK.k4 {q:Rq} (h:ZaK q):1<=q.kind/\q.kind<=4:=by
 have:=h.kind;omega
theorem ZnO {most:Int} {r:Rd} (h:r.bad=true):(Zb most r).2.bad=true:=by
 unfold Zb;rw [if_pos h];exact h
theorem ZvN {most:Int} {r:Rd} (h:r.bad=true):(ZD most r).2.bad=true:=by
 unfold ZD;rw [if_pos h];exact h
theorem ZtP {r:Rd} (h:r.bad=true):ZF r=false:=by
 unfold ZF;rw [h];rfl
theorem ZvW {m:Int} {r:Rd} (h:(Zb m r).2.bad=true):ZF (Zrr m r).2=false:=ZtP (ZvN (ZnO (ZnO (ZnO h))))
theorem ZwV {bs:List Int}:Zad 4 bs=Zad mI bs:=by
 unfold Zad;by_cases hb:(Zb 4 ⟨bs,false⟩).2.bad=true
 ·rw [if_neg (λ h=>by rw [ZvW hb] at h;exact absurd h.1 (by simp))]
  rw [if_neg];rintro ⟨h1,h2⟩;have hk:=h2.k4;have hk:1<=(Zb mI ⟨bs,false⟩).1/\(Zb mI ⟨bs,false⟩).1<=4:=hk;have hg:(Zb mI ⟨bs,false⟩).2.bad=false:=by
   cases hh:(Zb mI ⟨bs,false⟩).2.bad with
   |false=>rfl
   |true=>rw [ZvW hh] at h1;cases h1
  unfold Zb at hb hg hk;simp only [Bool.false_eq_true,if_false] at hb hg hk;cases hp:ZaU bs with
  |none=>rw [hp] at hg;simp at hg
  |some x=>
   obtain ⟨n,neg,k⟩:=x;rw [hp] at hb hg hk;dsimp only at hb hg hk;split at hg
   ·rename_i hc
    rw [if_pos hc] at hk;rw [if_pos ⟨hc.1,hk.2⟩] at hb;cases hb
   ·cases hg
 ·have hg:(Zb 4 ⟨bs,false⟩).2.bad=false:=by simpa using hb
  have e:Zb 4 ⟨bs,false⟩=Zb mI ⟨bs,false⟩:=by
   unfold Zb at hg ⊢;simp only [Bool.false_eq_true,if_false] at hg ⊢;cases hp:ZaU bs with
   |none=>rfl
   |some x=>
    obtain ⟨n,neg,k⟩:=x;rw [hp] at hg;dsimp only at hg ⊢;split at hg
    ·rename_i hc
     rw [if_pos hc,if_pos ⟨hc.1,by have:=hc.2;show n<=1099511627776;omega⟩]
    ·cases hg
  unfold Zrr;rw [e]
theorem ZjP {q:Rq} (h:ZaK q):(rqB q).length<=5000:=by
 have h1:=h.k4;obtain ⟨a1,a2⟩:=h.client;obtain ⟨a3,a4⟩:=h.seq;obtain ⟨a5,a6⟩:=h.token;have h2:=h.cmd;unfold rqB;have l1:=ZW (l:=[q.kind,q.client,q.seq,q.token]) λ x hx=>by
  simp only [List.mem_cons,List.not_mem_nil,or_false] at hx;rcases hx with rfl|rfl|rfl|rfl<;>omega
 have l2:=ZaT (d:=q.cmd) (by omega);rw [List.length_append];simp only [List.length_cons,List.length_nil] at l1;omega
theorem ZAw (a b c d:Int) (rest:List Int):Zl [a,b,c,d]++rest=Zl [a]++(Zl [b]++(Zl [c]++(Zl [d]++rest))):=by
 rw [show Zl [a,b,c,d]=Zl [a]++(Zl [b]++(Zl [c]++Zl [d])) by rw [Zcd a,Zcd b,Zcd c]];simp only [List.append_assoc]
theorem ZwU {q:Rq} (h:ZaK q):Zrr mI ⟨rqB q,false⟩=(q,⟨[],false⟩):=by
 have h1:=h.k4;obtain ⟨a1,a2⟩:=h.client;obtain ⟨a3,a4⟩:=h.seq;obtain ⟨a5,a6⟩:=h.token;have h2:=h.cmd;unfold Zrr rqB;rw [ZAw];rw [Zv (by omega) (by show q.kind<=1099511627776;omega) (by omega)];dsimp only;rw [Zv (by omega) (by show q.client<=1099511627776;omega) (by omega)];dsimp only;rw [Zv (by omega) (by show q.seq<=1099511627776;omega) (by omega)];dsimp only;rw [Zv (by omega) (by show q.token<=1099511627776;omega) (by omega)];dsimp only;have:=ZcI (d:=q.cmd) (rest:=[]) (most:=4000) (by omega) (by omega);rw [List.append_nil] at this;rw [this]
theorem Zgp {q:Rq} (h:ZaK q):Zad mI (rqB q)=(q,0):=by
 unfold Zad;rw [ZwU h,if_pos ⟨rfl,h⟩]
structure Zo3 where
 code:Int
 client:Int
 seq:Int
 reply:List Int
def ZB4:Zo3:=⟨0,0,0,[]⟩
end
section
open Go Go.VC Tryz
set_option maxRecDepth 10000
def B140 (C:Int) (D:Int) (E:Int) (F:Int) (m:Sl) (K:nK) (w : nW):Prop:=
 New (.cells #[nI C,nI D,nI E,nI F,m.v] 58 (0,0)) (λ d j=>
 ∃ (o:World->Prop),(∃ y,(Aw j ⟨d,0 + 1,none⟩ [nI y])/\
 ∃ A,(Aw j ⟨d,0 + 2,none⟩ [nI A])/\
 ∃ p,(Aw j ⟨d,0 + 3,none⟩ [nI p])/\
 New (.cells #[nI y,nI A,nI p] 3 (0,0)) (λ G I=>
 nC 212 #[.slice ((some ⟨G,0,none⟩)) 3 3,.func (.func 211) #[] #[]] I λ H k=>
 ∃ q,(H=.returned (.bool q))/\
 Br q
 (K (.bool false) k)
 (∃ g:Sl,(Aw k ⟨d,0 + 4,none⟩ [g.v])/\
 Br (decide ((↑g.len:Int)>4000))
 (K (.bool false) k)
 (o  k))) j)/\
 ∀ (J:Env)  (f:World),o  f->
 ∃ (l:Bool->World->Prop),(∃ r,(Aw f ⟨d,0 + 2,none⟩ [nI r])/\
 Br (r==0)
 (∃ i:Sl,(Aw f ⟨d,0 + 4,none⟩ [i.v])/\
 l ((↑i.len:Int)==0) f)
 (l false f))/\
 ∀ (L:Env) (n:Bool) (c:World),l n c->
 ∃ e,(Aw c ⟨d,0,none⟩ [nI e])/\
 Br (e==1)
 (∃ s,(Aw c ⟨d,0 + 1,none⟩ [nI s])/\
 Br (s==0)
 (K (.bool n) c)
 (K (.bool false) c))
 (Br (e==2)
 (∃ t,(Aw c ⟨d,0 + 3,none⟩ [nI t])/\
 K (.bool (t==0)) c)
 (Br (e==3)
 (∃ u,(Aw c ⟨d,0 + 3,none⟩ [nI u])/\
 Br (u==0)
 (K (.bool n) c)
 (K (.bool false) c))
 (Br (e==4)
 (∃ v,(Aw c ⟨d,0 + 1,none⟩ [nI v])/\
 Br (v==0)
 (∃ x,(Aw c ⟨d,0 + 2,none⟩ [nI x])/\
 Br (x==0)
 (∃ z,(Aw c ⟨d,0 + 3,none⟩ [nI z])/\
 K (.bool (z==0)) c)
 (K (.bool false) c))
 (K (.bool false) c))
 (K (.bool false) c))))) w
def ZCF:Sk:=(.seq .leaf (.seq .leaf (.cut [] [] [2,5,6,7,8,9,10,11,12,13,14,15,16,17,18,19] .leaf (.cut [4] [.bool] [4,20,21,22,23,24,25,26,27,28] .leaf .leaf))))
theorem Zzz (c:Int) (d:Int) (e:Int) (f:Int) (b:Sl) (K:nK) (w : nW) (h:B140 c d e f b K w):Zm prog 140 #[.agg #[nI c,nI d,nI e,nI f,b.v]] w K:=cq (sk:=ZCF) h func140
def B211 (a:Int) (K:nK) (w : nW):Prop:=
 Br (decide (a<0))
 (K (.bool true) w)
 (K (.bool (decide (a>1099511627776))) w)
theorem ZyQ (a:Int) (K:nK) (w : nW) (h:B211 a K w):Zm prog 211 #[nI a] w K:=cq (sk:=.leaf) h func211
def B81 (i:Sl) (K:nK) (w : nW):Prop:=
 ∃ (g:Sl->Int->World->Prop) (l:Sl->Int->World->Nat),(g ⟨none,0,0⟩ 0 w)/\∀ (q:Env) (b:Sl) (c:Int) (f:World),g b c f->
 Br (decide (c<(↑i.len:Int)))
 (Rng c i.len (Zc i.a λ m=>
 ∃ j,(Aw f (Addr.add m c.toNat) [nI j])/\
 nC 128 #[.int .u64 (IntKind.u64.wrap (if 0>j then 0 else j))] f λ n p=>
 ∃ d:Sl,(n=.returned (d.v))/\
 ∃ k:World,∃ e:Sl,((Builtin.append_ #[47,47] 47 #[b.v,d.v]).run prog p=.ok (e.v) k)/\
 (g e (wI (c + 1)) k)/\l e (wI (c + 1)) k<l b c f))
 (K (b.v) f)
def sk81:Sk:=(.seq .leaf (.seq .leaf (.seq (.seq .leaf (.block (.loop [3,8] [.sl,(.int .i64)] [3,5,8,9,10,11,12,13,14,15,16,17,18] .leaf))) .leaf)))
theorem ZA4 (b:Sl) (K:nK) (w : nW) (h:B81 b K w):Zm prog 81 #[b.v] w K:=cq (sk:=sk81) h func81
def B76 (A:Int) (C:Int) (D:Int) (E:Int) (j:Sl) (K:nK) (w : nW):Prop:=
 New (.cells #[nI A,nI C,nI D,nI E,j.v] 58 (0,0)) (λ c u=>
 ∃ o p q r,∃ i:Sl,(Aw u ⟨c,0,none⟩ [nI o,nI p,nI q,nI r,i.v])/\
 nC 140 #[.agg #[nI o,nI p,nI q,nI r,i.v]] u λ G v=>
 ∃ s,(G=.returned (.bool s))/\
 Br (!s)
 (K (.tuple #[.slice none 0 0,nI 1]) v)
 (Drw v λ b L=>
 ∃ t,(At b ⟨c,0,none⟩ [nI t])/\
 ∃ l,(At b ⟨c,0 + 1,none⟩ [nI l])/\
 ∃ m,(At b ⟨c,0 + 2,none⟩ [nI m])/\
 ∃ n,(At b ⟨c,0 + 3,none⟩ [nI n])/\
 ∃ e:Sl,(At b ⟨c,0 + 4,none⟩ [e.v])/\
 New (.cells #[nI t,nI l,nI m,nI n] 3 (0,0)) (λ F x=>
 (b x)/\
 nC 81 #[.slice ((some ⟨F,0,none⟩)) 4 4] x λ H y=>
 ∃ d:Sl,(H=.returned (d.v))/\
 (b y)/\
 nC 83 #[e.v] y λ I z=>
 ∃ f:Sl,(I=.returned (f.v))/\
 (b z)/\
 ∃ k:World,∃ g:Sl,((Builtin.append_ #[47,47] 47 #[d.v,f.v]).run prog z=.ok (g.v) k)/\
 (b k)/\
 K (.tuple #[g.v,nI 0]) k) L)) w
theorem ZA9 (c:Int) (d:Int) (e:Int) (f:Int) (b:Sl) (K:nK) (w : nW) (h:B76 c d e f b K w):Zm prog 76 #[.agg #[nI c,nI d,nI e,nI f,b.v]] w K:=cq (sk:=.leaf) h func76
def B92 (c:Option Addr) (K:nK) (w : nW):Prop:=
 nC 93 #[.pointer c,.int .u64 1099511627776] w λ b d=>
 ∃ a,(b=.returned (.int .u64 a))/\
 K (nI (wI a)) d
theorem ZA0 (a:Option Addr) (K:nK) (w : nW) (h:B92 a K w):Zm prog 92 #[.pointer a] w K:=cq (sk:=.leaf) h func92
def B71 (m:Sl) (K:nK) (w : nW):Prop:=
 New (.cells #[nI 0,nI 0,nI 0,nI 0,.slice none 0 0] 58 (0,0)) (λ d aj=>
 nC 91 #[m.v] aj λ ab ak=>
 ∃ c,(ab=.returned (.pointer c))/\
 nC 92 #[.pointer c] ak λ ac al=>
 ∃ Y,(ac=.returned (nI Y))/\
 nC 92 #[.pointer c] al λ ad am=>
 ∃ s,(ad=.returned (nI s))/\
 nC 92 #[.pointer c] am λ ae an=>
 ∃ t,(ae=.returned (nI t))/\
 nC 92 #[.pointer c] an λ af ao=>
 ∃ u,(af=.returned (nI u))/\
 New (.cells #[nI 0,nI 0,nI 0,nI 0,.slice none 0 0] 58 (0,0)) (λ l ap=>
 ∃ aa,(St 58 ⟨l,0,none⟩ (.agg #[nI Y,nI s,nI t,nI u,.slice none 0 0]) ap aa)/\
 nC 94 #[.pointer c,nI 4000] aa λ ag aq=>
 ∃ e:Sl,(ag=.returned (e.v))/\
 ∃ Z,(St 47 ⟨l,0 + 4,none⟩ (e.v) aq Z)/\
 nC 96 #[.pointer c] Z λ ah n=>
 ∃ v,(ah=.returned (.bool v))/\
 Br (!v)
 (∃ o,(St 58 ⟨d,0,none⟩ (.agg #[nI 0,nI 0,nI 0,nI 0,.slice none 0 0]) n o)/\
 ∃ H I O Q,∃ j:Sl,(Aw o ⟨d,0,none⟩ [nI H,nI I,nI O,nI Q,j.v])/\
 K (.tuple #[.agg #[nI H,nI I,nI O,nI Q,j.v],nI 6]) o)
 (∃ x y z A,∃ f:Sl,(Aw n ⟨l,0,none⟩ [nI x,nI y,nI z,nI A,f.v])/\
 nC 140 #[.agg #[nI x,nI y,nI z,nI A,f.v]] n λ ai p=>
 ∃ C,(ai=.returned (.bool C))/\
 Br (!C)
 (∃ q,(St 58 ⟨d,0,none⟩ (.agg #[nI 0,nI 0,nI 0,nI 0,.slice none 0 0]) p q)/\
 ∃ T U V X,∃ k:Sl,(Aw q ⟨d,0,none⟩ [nI T,nI U,nI V,nI X,k.v])/\
 K (.tuple #[.agg #[nI T,nI U,nI V,nI X,k.v],nI 6]) q)
 (∃ D E F G,∃ g:Sl,(Aw p ⟨l,0,none⟩ [nI D,nI E,nI F,nI G,g.v])/\
 ∃ r,(St 58 ⟨d,0,none⟩ (.agg #[nI D,nI E,nI F,nI G,g.v]) p r)/\
 ∃ J L M N,∃ i:Sl,(Aw r ⟨d,0,none⟩ [nI J,nI L,nI M,nI N,i.v])/\
 K (.tuple #[.agg #[nI J,nI L,nI M,nI N,i.v],nI 0]) r))) ao) w
theorem ZBe (b:Sl) (K:nK) (w : nW) (h:B71 b K w):Zm prog 71 #[b.v] w K:=cq (sk:=.leaf) h func71
def B22  (K:nK) (w : nW):Prop:=
 nC 10 #[] w λ d e=>
 ∃ a,(d=.returned (.pointer a))/\
 New (.map #[] 0) (λ b f=>
 New (.cells #[.pointer a,nI 1,.map ((some b))] 128 (0,0)) (λ c g=>
 K (.pointer ((some ⟨c,0,none⟩))) g) f) e
theorem ZBB  (K:nK) (w : nW) (h:B22  K w):Zm prog 22 #[] w K:=cq (sk:=.leaf) h func22
def B72 (i:Int) (K:nK) (w : nW):Prop:=
 New (.cells #[nI 0,nI 0,nI 0,.slice none 0 0] 54 (0,0)) (λ d k=>
 ∃ c,(St 54 ⟨d,0,none⟩ (.agg #[nI i,nI 0,nI 0,.slice none 0 0]) k c)/\
 ∃ e f g,∃ b:Sl,(Aw c ⟨d,0,none⟩ [nI e,nI f,nI g,b.v])/\
 K (.agg #[nI e,nI f,nI g,b.v]) c) w
theorem ZBd (a:Int) (K:nK) (w : nW) (h:B72 a K w):Zm prog 72 #[nI a] w K:=cq (sk:=.leaf) h func72
def B23 (J:Option Addr) (V:Sl) (K:nK) (w : nW):Prop:=
 New (.cells #[nI 0,nI 0,nI 0,.slice none 0 0] 54 (0,0)) (λ d dx=>
 nC 71 #[V.v] dx λ dl d2=>
 ∃ a7 ba bb bc,∃ j:Sl,∃ X,(dl=.returned (.tuple #[.agg #[nI a7,nI ba,nI bb,nI bc,j.v],nI X]))/\
 New (.cells #[nI 0,nI 0,nI 0,nI 0,.slice none 0 0] 58 (0,0)) (λ c d6=>
 ∃ f,(St 58 ⟨c,0,none⟩ (.agg #[nI a7,nI ba,nI bb,nI bc,j.v]) d6 f)/\
 Br (X !=0)
 (nC 72 #[nI X] f λ dm d9=>
 ∃ bh bi bj,∃ p:Sl,(dm=.returned (.agg #[nI bh,nI bi,nI bj,p.v]))/\
 ∃ al,(St 54 ⟨d,0,none⟩ (.agg #[nI bh,nI bi,nI bj,p.v]) d9 al)/\
 ∃ cj ck cs,∃ C:Sl,(Aw al ⟨d,0,none⟩ [nI cj,nI ck,nI cs,C.v])/\
 K (.agg #[nI cj,nI ck,nI cs,C.v]) al)
 (∃ bk,(Aw f ⟨c,0,none⟩ [nI bk])/\
 Br (bk==4)
 (nC 72 #[nI 1] f λ dp ea=>
 ∃ bl bm bn,∃ q:Sl,(dp=.returned (.agg #[nI bl,nI bm,nI bn,q.v]))/\
 ∃ am,(St 54 ⟨d,0,none⟩ (.agg #[nI bl,nI bm,nI bn,q.v]) ea am)/\
 ∃ c8 c9 da,∃ G:Sl,(Aw am ⟨d,0,none⟩ [nI c8,nI c9,nI da,G.v])/\
 K (.agg #[nI c8,nI c9,nI da,G.v]) am)
 (∃ bo,(Aw f ⟨c,0,none⟩ [nI bo])/\
 Br (bo==1)
 (∃ bp,(Aw f ⟨c,0 + 3,none⟩ [nI bp])/\
 nC 73 #[.pointer J,nI bp] f λ dq eb=>
 ∃ bq br bs,∃ r:Sl,(dq=.returned (.agg #[nI bq,nI br,nI bs,r.v]))/\
 ∃ Z,(St 54 ⟨d,0,none⟩ (.agg #[nI bq,nI br,nI bs,r.v]) eb Z)/\
 ∃ db dc cl,∃ v:Sl,(Aw Z ⟨d,0,none⟩ [nI db,nI dc,nI cl,v.v])/\
 K (.agg #[nI db,nI dc,nI cl,v.v]) Z)
 (Drw f λ Q dy=>
 Zc J λ ax=>
 ∃ bt:Option Nat,(At Q (nO ax 2) [.map bt])/\
 ∃ bu,(At Q ⟨c,0 + 1,none⟩ [nI bu])/\
 ∃ e:Option Addr,∃ Y:Bool,(∀ b,Q b->((Instr.lookup 126 (.map bt) (nI bu) true)).run prog b=.ok (.tuple #[.pointer e,.bool Y]) b)/\
 ∃ (L:Bool->World->Prop),(Drw dy λ T aa=>
 Br (!Y)
 (∃ bw,(At T ⟨c,0 + 1,none⟩ [nI bw])/\
 Br (decide (bw >= 1))
 (∃ bx,(At T ⟨c,0 + 1,none⟩ [nI bx])/\
 Zc J λ ay=>
 ∃ bz,(At T (nO ay 1) [nI bz])/\
 L (decide (bx<bz)) aa)
 (L false aa))
 (L false aa))/\
 ∀ (ec:Env) (bv:Bool) (H:World),L bv H->
 Br bv
 (nC 72 #[nI 10] H λ dr dz=>
 ∃ b0 b1 b2,∃ s:Sl,(dr=.returned (.agg #[nI b0,nI b1,nI b2,s.v]))/\
 ∃ ab,(St 54 ⟨d,0,none⟩ (.agg #[nI b0,nI b1,nI b2,s.v]) dz ab)/\
 ∃ cm cn co,∃ x:Sl,(Aw ab ⟨d,0,none⟩ [nI cm,nI cn,nI co,x.v])/\
 K (.agg #[nI cm,nI cn,nI co,x.v]) ab)
 (Br (!Y)
 (nC 72 #[nI 2] H λ ds d0=>
 ∃ b3 b4 b5,∃ t:Sl,(ds=.returned (.agg #[nI b3,nI b4,nI b5,t.v]))/\
 ∃ ac,(St 54 ⟨d,0,none⟩ (.agg #[nI b3,nI b4,nI b5,t.v]) d0 ac)/\
 ∃ cp cq cr,∃ y:Sl,(Aw ac ⟨d,0,none⟩ [nI cp,nI cq,nI cr,y.v])/\
 K (.agg #[nI cp,nI cq,nI cr,y.v]) ac)
 (∃ b6,(Aw H ⟨c,0,none⟩ [nI b6])/\
 Br (b6==3)
 (Drw H λ an d1=>
 Zc J λ az=>
 ∃ b7:Option Nat,(At an (nO az 2) [.map b7])/\
 ∃ b8,(At an ⟨c,0 + 1,none⟩ [nI b8])/\
 ∃ ad:World,((Builtin.delete_ #[126,3] 0 #[.map b7,nI b8]).run prog d1=.ok (.tuple #[]) ad)/\
 ∃ b9,(Aw ad ⟨c,0 + 1,none⟩ [nI b9])/\
 ∃ ae,(St 54 ⟨d,0,none⟩ (.agg #[nI 0,nI b9,nI 0,.slice none 0 0]) ad ae)/\
 ∃ ct cu cv,∃ z:Sl,(Aw ae ⟨d,0,none⟩ [nI ct,nI cu,nI cv,z.v])/\
 K (.agg #[nI ct,nI cu,nI cv,z.v]) ae)
 (Drw H λ ao dd=>
 ∃ ca,(At ao ⟨c,0 + 2,none⟩ [nI ca])/\
 Zc e λ a0=>
 ∃ cb,(At ao (nO a0 1) [nI cb])/\
 Br (decide (ca>wI (cb + 1)))
 (nC 72 #[nI 7] dd λ dt d3=>
 ∃ cc cd ce,∃ u:Sl,(dt=.returned (.agg #[nI cc,nI cd,nI ce,u.v]))/\
 ∃ af,(St 54 ⟨d,0,none⟩ (.agg #[nI cc,nI cd,nI ce,u.v]) d3 af)/\
 ∃ cw cx cy,∃ A:Sl,(Aw af ⟨d,0,none⟩ [nI cw,nI cx,nI cy,A.v])/\
 K (.agg #[nI cw,nI cx,nI cy,A.v]) af)
 (∃ (O:Bool->World->Prop),(Drw dd λ U de=>
 ∃ cg,(At U ⟨c,0 + 2,none⟩ [nI cg])/\
 Zc e λ a1=>
 ∃ ch,(At U (nO a1 1) [nI ch])/\
 Br (decide (cg<ch))
 (O true de)
 (∃ ci,(At U ⟨c,0 + 2,none⟩ [nI ci])/\
 O (ci==0) de))/\
 ∀ (ed:Env) (cf:Bool) (ag:World),O cf ag->
 Br cf
 (nC 72 #[nI 11] ag λ du d4=>
 ∃ a2 a3 a4,∃ g:Sl,(du=.returned (.agg #[nI a2,nI a3,nI a4,g.v]))/\
 ∃ ah,(St 54 ⟨d,0,none⟩ (.agg #[nI a2,nI a3,nI a4,g.v]) d4 ah)/\
 ∃ cz c0 c1,∃ D:Sl,(Aw ah ⟨d,0,none⟩ [nI cz,nI c0,nI c1,D.v])/\
 K (.agg #[nI cz,nI c0,nI c1,D.v]) ah)
 (Drw ag λ ap df=>
 ∃ a5,(At ap ⟨c,0 + 2,none⟩ [nI a5])/\
 Zc e λ aq=>
 ∃ a6,(At ap (nO aq 1) [nI a6])/\
 Br (decide (a5>a6))
 (Drw df λ I d5=>
 ∃ a8,(At I ⟨c,0 + 2,none⟩ [nI a8])/\
 ∃ i:Sl,(At I ⟨c,0 + 4,none⟩ [i.v])/\
 Zc J λ dk=>
 ∃ a9,(At I (Addr.add dk 0) [.pointer a9])/\
 nC 74 #[i.v,.func (.func 12) #[.pointer a9] #[]] d5 λ dv dg=>
 ∃ k:Sl,(dv=.returned (k.v))/\
 (I dg)/\
 Zc e λ ar=>
 ∃ ai,(St 3 (nO ar 1) (nI a8) dg ai)/\
 (I ai)/\
 Zc e λ au=>
 ∃ dh,(St 47 (nO au 2) (k.v) ai dh)/\
 Drw dh λ M d7=>
 ∃ bd,(At M ⟨c,0 + 1,none⟩ [nI bd])/\
 ∃ bf,(At M ⟨c,0 + 2,none⟩ [nI bf])/\
 Zc e λ av=>
 ∃ l:Sl,(At M (nO av 2) [l.v])/\
 nC 75 #[l.v] d7 λ dw di=>
 ∃ n:Sl,(dw=.returned (n.v))/\
 (M di)/\
 ∃ aj,(St 54 ⟨d,0,none⟩ (.agg #[nI 0,nI bd,nI bf,n.v]) di aj)/\
 ∃ c2 c3 c4,∃ E:Sl,(Aw aj ⟨d,0,none⟩ [nI c2,nI c3,nI c4,E.v])/\
 K (.agg #[nI c2,nI c3,nI c4,E.v]) aj)
 (Drw df λ N d8=>
 ∃ be,(At N ⟨c,0 + 1,none⟩ [nI be])/\
 ∃ bg,(At N ⟨c,0 + 2,none⟩ [nI bg])/\
 Zc e λ aw=>
 ∃ m:Sl,(At N (nO aw 2) [m.v])/\
 nC 75 #[m.v] d8 λ dn dj=>
 ∃ o:Sl,(dn=.returned (o.v))/\
 (N dj)/\
 ∃ ak,(St 54 ⟨d,0,none⟩ (.agg #[nI 0,nI be,nI bg,o.v]) dj ak)/\
 ∃ c5 c6 c7,∃ F:Sl,(Aw ak ⟨d,0,none⟩ [nI c5,nI c6,nI c7,F.v])/\
 K (.agg #[nI c5,nI c6,nI c7,F.v]) ak)))))))))) d2) w
def sk23:Sk:=(.seq .leaf (.seq .leaf (.seq .leaf (.seq .leaf (.seq (.block (.cut [42] [.bool] [42,43,44,45,46,47,48,49,50,51,52,53,54,55,56,57,58] .leaf (.cond .leaf (.seq .leaf (.cond .leaf (.seq .leaf (.cond .leaf (.seq .leaf (.cond .leaf (.cut [87] [.bool] [87,88,89,90,91,92,93,94,95,96,97,98,99] .leaf .leaf)))))))))) .leaf)))))
theorem ZBA (c:Option Addr) (b:Sl) (K:nK) (w : nW) (h:B23 c b K w):Zm prog 23 #[.pointer c,b.v] w K:=cq (sk:=sk23) h func23
def B73 (d:Option Addr) (T:Int) (K:nK) (w : nW):Prop:=
 New (.cells #[nI 0,nI 0,nI 0,.slice none 0 0] 54 (0,0)) (λ e ae=>
 Zc d λ A=>
 ∃ C:Option Nat,(Aw ae (nO A 2) [.map C])/\
 ∃ af:World,∃ k:Option Addr,((Instr.range 126 (.map C)).run prog ae=.ok (.pointer k) af)/\
 ∃ (m:World->Prop) (ah:World->Nat),(m  af)/\∀ (ap:Env)  (l:World),m  l->
 ∃ c:World,(((Instr.next (.pointer k) false 0).run prog l=.ok (.tuple #[.bool false]) c)/\
 Zc d λ t=>
 ∃ G:Option Nat,(Aw c (nO t 2) [.map G])/\
 ∃ H:Int,(∀ b,(λ b=>b=c) b->((Builtin.len_ #[126] 3 #[.map G])).run prog b=.ok (nI H) b)/\
 Br (decide (H >= 64))
 (nC 72 #[nI 3] c λ ak an=>
 ∃ I J L,∃ f:Sl,(ak=.returned (.agg #[nI I,nI J,nI L,f.v]))/\
 ∃ r,(St 54 ⟨e,0,none⟩ (.agg #[nI I,nI J,nI L,f.v]) an r)/\
 ∃ U V aa,∃ i:Sl,(Aw r ⟨e,0,none⟩ [nI U,nI V,nI aa,i.v])/\
 K (.agg #[nI U,nI V,nI aa,i.v]) r)
 (Drw c λ n ao=>
 Zc d λ u=>
 ∃ M:Option Nat,(At n (nO u 2) [.map M])/\
 Zc d λ v=>
 ∃ N,(At n (nO v 1) [nI N])/\
 New (.cells #[nI T,nI 0,.slice none 0 0] 134 (0,0)) (λ aj ag=>
 (n ag)/\
 ∃ s:World,((Instr.mapUpdate 126 (.map M) (nI N) (.pointer ((some ⟨aj,0,none⟩)))).run prog ag=.ok () s)/\
 Zc d λ x=>
 ∃ O,(Aw s (nO x 1) [nI O])/\
 Zc d λ y=>
 ∃ o,(St 3 (nO y 1) (nI (wI (O + 1))) s o)/\
 Zc d λ z=>
 ∃ Q,(Aw o (nO z 1) [nI Q])/\
 ∃ p,(St 54 ⟨e,0,none⟩ (.agg #[nI 0,nI (wI (Q - 1)),nI 0,.slice none 0 0]) o p)/\
 ∃ ab ac ad,∃ j:Sl,(Aw p ⟨e,0,none⟩ [nI ab,nI ac,nI ad,j.v])/\
 K (.agg #[nI ab,nI ac,nI ad,j.v]) p) ao))\/
 (∃ al:Value,∃ am:Value,((Instr.next (.pointer k) false 0).run prog l=.ok (.tuple #[.bool true,al,am]) c)/\
 ∃ D:Int,∃ E:Option Addr,(∀ b,(λ b=>b=c) b->((Instr.entry (.pointer k))).run prog b=.ok (.tuple #[nI D,.pointer E]) b)/\
 Zc E λ ai=>
 ∃ F,(Aw c (Addr.add ai 0) [nI F])/\
 Br (F==T)
 (∃ q,(St 54 ⟨e,0,none⟩ (.agg #[nI 0,nI D,nI 0,.slice none 0 0]) c q)/\
 ∃ X Y Z,∃ g:Sl,(Aw q ⟨e,0,none⟩ [nI X,nI Y,nI Z,g.v])/\
 K (.agg #[nI X,nI Y,nI Z,g.v]) q)
 ((m  c)/\ah  c<ah  l))) w
def sk73:Sk:=(.seq .leaf (.seq (.seq .leaf (.block (.loop [] [] [5,6,12,13,14,15,16,17,18,19,20,21,22,23,24] .leaf))) .leaf))
theorem ZBc (a:Option Addr) (b:Int) (K:nK) (w : nW) (h:B73 a b K w):Zm prog 73 #[.pointer a,nI b] w K:=cq (sk:=sk73) h func73
def B74 (l:Sl) (T:Value) (K:nK) (w : nW):Prop:=
 nC 141 #[l.v] w λ U aa=>
 ∃ G H I J L M N O Q,∃ j i:Sl,∃ m,(U=.returned (.tuple #[.agg #[nI G,.string H,nI I,nI J,nI L,nI M,.float .f64 N,.string O,nI Q,j.v,i.v],nI m]))/\
 New (.cells #[nI 0,.string (ByteArray.mk #[]),nI 0,nI 0,nI 0,nI 0,.float .f64 0,.string (ByteArray.mk #[]),nI 0,.slice none 0 0,.slice none 0 0] 40 (0,0)) (λ n ab=>
 ∃ k,(St 40 ⟨n,0,none⟩ (.agg #[nI G,.string H,nI I,nI J,nI L,nI M,.float .f64 N,.string O,nI Q,j.v,i.v]) ab k)/\
 Br (m !=0)
 (nC 142 #[.agg #[nI m,.string (ByteArray.mk #[]),nI 0,nI 0,nI 0,nI 0,nI 0,.slice none 0 0,.slice none 0 0]] k λ V ac=>
 ∃ b:Sl,(V=.returned (b.v))/\
 K (b.v) ac)
 (∃ o p q r s t u v x,∃ d c:Sl,(Aw k ⟨n,0,none⟩ [nI o,.string p,nI q,nI r,nI s,nI t,.float .f64 u,.string v,nI x,d.v,c.v])/\
 Zbq prog cl T [.agg #[nI o,.string p,nI q,nI r,nI s,nI t,.float .f64 u,.string v,nI x,d.v,c.v]] k λ X ad=>
 ∃ y z A C D E F,∃ e f:Sl,(X=.returned (.agg #[nI y,.string z,nI A,nI C,nI D,nI E,nI F,e.v,f.v]))/\
 nC 142 #[.agg #[nI y,.string z,nI A,nI C,nI D,nI E,nI F,e.v,f.v]] ad λ Y ae=>
 ∃ g:Sl,(Y=.returned (g.v))/\
 K (g.v) ae)) aa
theorem ZBb (b:Sl) (c:Value) (K:nK) (w : nW) (h:B74 b c K w):Zm prog 74 #[b.v,c] w K:=cq (sk:=.leaf) h func74
def B28 (s:Int) (t:Int) (u:Int) (i:Sl) (v:Int) (x:Int) (y:Int) (j:Sl) (K:nK) (w : nW):Prop:=
 New (.cells #[nI s,nI t,nI u,i.v] 54 (0,0)) (λ f z=>
 New (.cells #[nI v,nI x,nI y,j.v] 54 (0,0)) (λ g c=>
 ∃ q,(Aw c ⟨f,0,none⟩ [nI q])/\
 ∃ r,(Aw c ⟨g,0,none⟩ [nI r])/\
 Br (q==r)
 (∃ k,(Aw c ⟨f,0 + 1,none⟩ [nI k])/\
 ∃ l,(Aw c ⟨g,0 + 1,none⟩ [nI l])/\
 Br (k==l)
 (∃ m,(Aw c ⟨f,0 + 2,none⟩ [nI m])/\
 ∃ n,(Aw c ⟨g,0 + 2,none⟩ [nI n])/\
 Br (m==n)
 (∃ d:Sl,(Aw c ⟨f,0 + 3,none⟩ [d.v])/\
 ∃ o:ByteArray,(∀ b,(λ b=>b=c) b->((convert 47 9 (d.v))).run prog b=.ok (.string o) b)/\
 ∃ e:Sl,(Aw c ⟨g,0 + 3,none⟩ [e.v])/\
 ∃ p:ByteArray,(∀ b,(λ b=>b=c) b->((convert 47 9 (e.v))).run prog b=.ok (.string p) b)/\
 K (.bool (o.toList==p.toList)) c)
 (K (.bool false) c))
 (K (.bool false) c))
 (K (.bool false) c)) z) w
theorem ZBv (d:Int) (e:Int) (f:Int) (b:Sl) (g:Int) (i:Int) (j:Int) (c:Sl) (K:nK) (w : nW) (h:B28 d e f b g i j c K w):Zm prog 28 #[.agg #[nI d,nI e,nI f,b.v],.agg #[nI g,nI i,nI j,c.v]] w K:=cq (sk:=.leaf) h func28
def B24 (k:Int) (l:Int) (m:Int) (n:Int) (d:Sl) (K:nK) (w : nW):Prop:=
 New (.cells #[nI k,nI l,nI m,nI n,d.v] 58 (0,0)) (λ o j=>
 ∃ e f g i,∃ b:Sl,(Aw j ⟨o,0,none⟩ [nI e,nI f,nI g,nI i,b.v])/\
 nC 76 #[.agg #[nI e,nI f,nI g,nI i,b.v]] j λ p s=>
 ∃ c:Sl,∃ q,(p=.returned (.tuple #[c.v,nI q]))/\
 K (c.v) s) w
theorem ZBz (c:Int) (d:Int) (e:Int) (f:Int) (b:Sl) (K:nK) (w : nW) (h:B24 c d e f b K w):Zm prog 24 #[.agg #[nI c,nI d,nI e,nI f,b.v]] w K:=cq (sk:=.leaf) h func24
def B20  (K:nK) (w : nW):Prop:=
 nC 22 #[] w λ o n=>
 ∃ f,(o=.returned (.pointer f))/\
 Br f.isNone
 (K (.bool false) n)
 (nC 24 #[.agg #[nI 1,nI 0,nI 0,nI 9,.slice none 0 0]] n λ p r=>
 ∃ b:Sl,(p=.returned (b.v))/\
 nC 23 #[.pointer f,b.v] r λ q s=>
 ∃ k l m,∃ c:Sl,(q=.returned (.agg #[nI k,nI l,nI m,c.v]))/\
 New (.cells #[nI 0,nI 0,nI 0,.slice none 0 0] 54 (0,0)) (λ e t=>
 ∃ d,(St 54 ⟨e,0,none⟩ (.agg #[nI k,nI l,nI m,c.v]) t d)/\
 ∃ i,(Aw d ⟨e,0,none⟩ [nI i])/\
 Br (i==0)
 (∃ j,(Aw d ⟨e,0 + 1,none⟩ [nI j])/\
 K (.bool (j==1)) d)
 (K (.bool false) d)) s)
theorem ZBD  (K:nK) (w : nW) (h:B20  K w):Zm prog 20 #[] w K:=cq (sk:=.leaf) h func20
def B21 (f:Sl) (K:nK) (w : nW):Prop:=
 ∃ (e:Int->World->Prop) (g:Int->World->Nat),(e 0 w)/\∀ (k:Env) (b:Int) (c:World),e b c->
 Br (decide (b<(↑f.len:Int)))
 (Br (decide (b<200))
 (Rng b f.len (Zc f.a λ i=>
 ∃ d:Sl,(Aw c (Addr.add i b.toNat) [d.v])/\
 Br (decide ((↑d.len:Int)>10000))
 (K (.bool true) c)
 ((e (wI (b + 1)) c)/\g (wI (b + 1)) c<g b c)))
 (K (.bool false) c))
 (K (.bool false) c)
def sk21:Sk:=(.seq .leaf (.seq (.seq .leaf (.block (.loop [3] [(.int .i64)] [2,3,4,5,6,7,8,9,10,11,12,13,14,15,16,17,18,19] .leaf))) .leaf))
theorem ZBC (b:Sl) (K:nK) (w : nW) (h:B21 b K w):Zm prog 21 #[b.v] w K:=cq (sk:=sk21) h func21
end
section
open Go Go.VC Tryz
open Classical
variable {R:Cx} {Hs Rest:List HP} {w:World}
abbrev rqV (q:Rq) (s:Sl):List Value:=[nI q.kind,nI q.client,nI q.seq,nI q.token,.slice s.a s.len s.cap]
abbrev rqC (b:Nat) (q:Rq) (s:Sl):HP:=pts b (.cells (rqV q s).toArray 58 (0,0))
abbrev tdV (t:Zo3) (s:Sl):List Value:=[nI t.code,nI t.client,nI t.seq,.slice s.a s.len s.cap]
abbrev tdC (b:Nat) (t:Zo3) (s:Sl):HP:=pts b (.cells (tdV t s).toArray 54 (0,0))
abbrev ZbQ:Sl:=⟨none,0,0⟩
theorem Zpj {s:Sl} {xs:List Int} (hxs:∀ x∈xs,x<9223372036854775808) (hl:9 * xs.length<=1099511627776) (hs:RoI R s xs) (hw:Sat R Hs w):
  Zm prog 81 #[.slice s.a s.len s.cap] w λ v w'=>∃ t:Sl,v=.slice t.a t.len t.cap/\Sat R (Own t 5 (b8 (Zl (xs.map nn)))::Hs) w':=by
 have hlen:=hs.len;apply ZA4;refine ⟨λ out i w=>∃ k:Nat,i=k/\k<=xs.length/\Sat R (Own out 5 (b8 (Zl ((xs.take k).map nn)))::Hs) w,λ _ i _=>xs.length - i.toNat,⟨0,rfl,by omega,Own.nil hw⟩,?_⟩;clear hw;rintro _ out _ w ⟨k,rfl,hk,hw⟩;refine Br.d (λ h=>?_) (λ h=>?_)
 ·have hkx:k<xs.length:=by omega
  have hx:=ZpO (hxs xs[k] (List.getElem_mem _));have hxt:∀ x∈(xs.take k).map nn,0<=x/\x<18446744073709551616:=λ x hx=>by
   obtain ⟨y,hy,rfl⟩:=List.mem_map.1 hx;have:=ZpO (hxs y (List.mem_of_mem_take hy));omega
  have hnl:=ZW hxt;rw [List.length_map,List.length_take] at hnl;refine Ro.ix hs (eqS hw) k rfl hkx ?_;rw [ZAy];obtain ⟨n,hn⟩:=Int.eq_ofNat_of_zero_le hx.1;rw [hn,ZP];refine (ZbY (by omega) hw).u1 λ t w hw=>?_;refine ⟨t,rfl,?_⟩;have hnb:=Zbn (n:=n) (by omega);refine ZBL (by omega) hw λ s2 w hw=>?_;rw [Zf];refine ⟨⟨k + 1,by omega,by omega,?_⟩,by dsimp only;omega⟩;have e:(xs.take (k + 1)).map nn=(xs.take k).map nn++[nn xs[k]]:=by rw [List.take_add_one,List.getElem?_eq_getElem hkx,List.map_append];rfl
  rw [e,ZhO,show Zl [nn xs[k]]=Zec (nn xs[k]).toNat by simp [Zl],hn,Int.toNat_natCast];exact hw
 ·rw [List.take_of_length_le (l:=xs) (by omega)] at hw
  exact ⟨out,rfl,hw⟩
theorem Zhz {b n:Nat} {xs:List Int} (hn:n=xs.length) (hxs:∀ x∈xs,x<9223372036854775808) (hl:9 * xs.length<=1099511627776) (hw:Sat R (pts b (.cells (Ze xs).toArray 3 (0,0))::Hs) w):
  Zm prog 81 #[.slice (some ⟨b,0,none⟩) n n] w λ v w'=>∃ t:Sl,v=.slice t.a t.len t.cap/\Sat R (Own t 5 (b8 (Zl (xs.map nn)))::Hs) w':=by
 have hw:Sat R (Own ⟨some ⟨b,0,none⟩,n,n⟩ 3 (Ze xs)::Hs) w:=ZbH hw (by rw [List.length_map];exact hn);obtain ⟨R',hr,_,hw,back⟩:=Own.lendI hw (by omega);refine (Zpj hxs hl hr hw).u1 λ t w hw=>?_;exact ⟨_,rfl,t,rfl,(back hw).swap.cons λ _ h=>h.drop⟩
theorem Zrd {n:Int} (hw:Sat R Hs w):Zm prog 211 #[nI n] w λ v w'=>v=.bool (!decide (inI n))/\Sat R Hs w':=by
 apply ZyQ;refine Br.d (λ h=>⟨?_,hw⟩) (λ h=>⟨?_,hw⟩)
 ·rw [decide_eq_false (p:=inI n) (λ h2=>by unfold inI at h2;omega)];rfl
 ·by_cases h2:n>1099511627776
  ·rw [decide_eq_true h2,decide_eq_false (p:=inI n) (λ h3=>by unfold inI at h3;omega)];rfl
  ·rw [decide_eq_false h2,decide_eq_true (p:=inI n) ⟨by omega,by omega⟩];rfl
theorem ZgO {q:Rq} {s:Sl} (hs:s.len=q.cmd.length) (hw:Sat R Hs w):
  Zm prog 140 #[.agg #[nI q.kind,nI q.client,nI q.seq,nI q.token,.slice s.a s.len s.cap]] w λ v w'=>v=.bool (decide (ZaK q))/\Sat R Hs w':=by
 apply Zzz;refine Za hw λ b w hw=>?_;have hw:Sat R (rqC b q s::Hs) w:=hw;have no:¬ ZaK q->∀ {w},Sat R (rqC b q s::Hs) w->(Value.bool false=.bool (decide (ZaK q))/\Sat R Hs w):=λ h w hw=>⟨by rw [decide_eq_false h],hw.drop⟩;refine ⟨λ w=>((inI q.client/\inI q.seq/\inI q.token)/\q.cmd.length<=4000)/\Sat R (rqC b q s::Hs) w,?_,?_⟩
 ·refine ⟨q.client,oA hw,q.seq,oA hw,q.token,oA hw,?_⟩
  refine Za hw λ b2 w hw=>?_;have hw:Sat R (Own ⟨some ⟨b2,0,none⟩,3,3⟩ 3 (Ze [q.client,q.seq,q.token])::rqC b q s::Hs) w:=ZbH hw;obtain ⟨R',hr,_,hw,back⟩:=Own.lendI hw (by simp);refine (Zjy (p:=λ n=>!decide (inI n)) (s:=⟨some ⟨b2,0,none⟩,3,3⟩) hr (λ x w hw=>Zbq.mk (by kernel_rfl) ((Zrd hw).use λ v w h=>⟨by rw [h.1],h.2⟩)) hw).u λ w hw=>?_;have hw:=(back hw).drop;refine ⟨_,rfl,Br.mk (λ h=>no (λ hq=>?_) hw) (λ h=>?_)⟩
  ·have h1:=hq.client
   have h2:=hq.seq;have h3:=hq.token;simp [h1,h2,h3] at h
  ·have hI:inI q.client/\inI q.seq/\inI q.token:=by simpa using h
   refine ⟨s,oA hw,Br.d (λ h2=>no (λ hq=>by have:=hq.cmd;omega) hw) (λ h2=>⟨⟨hI,by omega⟩,hw⟩)⟩
 clear hw;rintro _ w ⟨⟨⟨h1,h2,h3⟩,h4⟩,hw⟩;refine ⟨λ t w=>t=decide (q.seq=0/\q.cmd.length=0)/\Sat R (rqC b q s::Hs) w,?_,?_⟩
 ·refine ⟨q.seq,oA hw,Br.e (λ h5=>?_) (λ h5=>⟨by rw [decide_eq_false (by omega)],hw⟩)⟩
  refine ⟨s,oA hw,?_,hw⟩;show decide ((s.len:Int)=0)=_;exact decide_eq_decide.2 (by omega)
 clear hw;rintro _ _ w ⟨rfl,hw⟩;have fin:∀ {p:Prop} {i:Decidable p},(p↔ZaK q)->(Value.bool (@decide p i)=.bool (decide (ZaK q))/\Sat R Hs w):=λ h=>⟨by congr 1;exact decide_eq_decide.2 h,hw.drop⟩;have mk:∀ (hk:(q.kind=1/\q.client=0/\q.seq=0/\q.cmd.length=0)\/(q.kind=2/\q.token=0)\/(q.kind=3/\q.token=0/\q.seq=0/\q.cmd.length=0)\/(q.kind=4/\q.client=0/\q.seq=0/\q.token=0)),ZaK q:=λ hk=>⟨h1,h2,h3,h4,hk⟩;refine ⟨q.kind,oA hw,Br.e (λ k=>?_) (λ k1=>?_)⟩
 ·refine ⟨q.client,oA hw,Br.e (λ h5=>fin ?_) (λ h5=>no (λ hq=>by have:=hq.kind;omega) hw)⟩
  exact ⟨λ h6=>mk (by omega),λ hq=>by have:=hq.kind;omega⟩
 refine Br.e (λ k=>?_) (λ k2=>?_)
 ·refine ⟨q.token,oA hw,fin (p:=q.token=0) ?_⟩
  exact ⟨λ h6=>mk (by omega),λ hq=>by have:=hq.kind;omega⟩
 refine Br.e (λ k=>?_) (λ k3=>?_)
 ·refine ⟨q.token,oA hw,Br.e (λ h5=>fin ?_) (λ h5=>no (λ hq=>by have:=hq.kind;omega) hw)⟩
  exact ⟨λ h6=>mk (by omega),λ hq=>by have:=hq.kind;omega⟩
 refine Br.e (λ k=>?_) (λ k4=>no (λ hq=>by have:=hq.kind;omega) hw);refine ⟨q.client,oA hw,Br.e (λ h5=>?_) (λ h5=>no (λ hq=>by have:=hq.kind;omega) hw)⟩;refine ⟨q.seq,oA hw,Br.e (λ h6=>?_) (λ h6=>no (λ hq=>by have:=hq.kind;omega) hw)⟩;refine ⟨q.token,oA hw,fin (p:=q.token=0) ?_⟩;exact ⟨λ h7=>mk (by omega),λ hq=>by have:=hq.kind;omega⟩
theorem nnq {q:Rq} (h:ZaK q):[q.kind,q.client,q.seq,q.token].map nn=[q.kind,q.client,q.seq,q.token]:=by
 have h1:=h.k4;obtain ⟨a1,a2⟩:=h.client;obtain ⟨a3,a4⟩:=h.seq;obtain ⟨a5,a6⟩:=h.token;show [nn q.kind,nn q.client,nn q.seq,nn q.token]=_;rw [Zcu (by omega),Zcu a1,Zcu a3,Zcu a5]
theorem Zrj {q:Rq} {s:Sl} (hs:Ro R s (b8 q.cmd)) (hw:Sat R Hs w):
  Zm prog 76 #[.agg #[nI q.kind,nI q.client,nI q.seq,nI q.token,.slice s.a s.len s.cap]] w λ v w'=>
   ∃ t:Sl,v=.tuple #[.slice t.a t.len t.cap,nI (ZqE q).2]/\Sat R (Own t 5 (b8 (ZqE q).1)::Hs) w':=by
 have hslen:s.len=q.cmd.length:=by have:=hs.len;simpa using this
 apply ZA9;refine Za hw λ b w hw=>?_;have hw:Sat R (rqC b q s::Hs) w:=hw;refine ⟨q.kind,q.client,q.seq,q.token,s,oA hw,?_⟩;refine (ZgO hslen hw).u λ w hw=>?_;refine ⟨_,rfl,Br.nd (λ h=>?_) (λ h=>?_)⟩
 ·unfold ZqE
  rw [if_neg h];exact ⟨ZbQ,rfl,Own.nil hw.drop⟩
 have h1:=h.k4;obtain ⟨a1,a2⟩:=h.client;obtain ⟨a3,a4⟩:=h.seq;obtain ⟨a5,a6⟩:=h.token;have h2:=h.cmd;refine ZC (Sat R [rqC b q s,VC.tru]) hw (λ w hw=>hw.restTru2) λ w hw=>?_;refine ⟨q.kind,oS,q.client,oS,q.seq,oS,q.token,oS,s,oS,?_⟩;refine Za hw λ b2 w hw=>⟨hw.swap.restTru2,?_⟩;refine (Zhz (xs:=[q.kind,q.client,q.seq,q.token]) rfl (λ x hx=>by
  simp only [List.mem_cons,List.not_mem_nil,or_false] at hx;omega) (by simp) hw).u1 λ t1 w hw=>?_
 rw [nnq h] at hw;refine ⟨t1,rfl,hw.swap.restTru2,?_⟩;refine (ZeK hs (by omega) hw).u1 λ t2 w hw=>?_;refine ⟨t2,rfl,(hw.arr (Hs':=rqC b q s::Own t2 5 (b8 (ZaZ q.cmd))::Own t1 5 (b8 (Zl [q.kind,q.client,q.seq,q.token]))::Hs)).restTru2,?_⟩;have l1:=ZW (l:=[q.kind,q.client,q.seq,q.token]) λ x hx=>by
  simp only [List.mem_cons,List.not_mem_nil,or_false] at hx;rcases hx with rfl|rfl|rfl|rfl<;>omega
 have l2:=ZaT (d:=q.cmd) (by omega);simp only [List.length_cons,List.length_nil] at l1;refine ZBL (by omega) hw λ t w hw=>⟨hw.swap.restTru2,t,?_,?_⟩
 ·unfold ZqE;rw [if_pos h]
 ·unfold ZqE;rw [if_pos h]
  exact hw.cons λ _ h=>h.drop
theorem ZfD {r:Nat} {rd:Rd} (hb:Zr rd.bs) (hw:Sat R (Zaz r rd::Hs) w):
  Zm prog 92 #[nP r] w λ v w'=>v=nI (Zb mI rd).1/\Sat R (Zaz r (Zb mI rd).2::Hs) w':=by
 have hv:=Zn (most:=mI) hb (by decide);apply ZA0;refine (ZhG (most:=mI) hb hw).u λ w hw=>?_;refine ⟨_,rfl,?_,hw⟩;have:(Zb mI rd).1<=1099511627776:=hv.2;rw [Zf]
abbrev Zct (b:Nat):HP:=rqC b ZkY ZbQ
theorem Zro {s:Sl} {bs:List Int} (hb:Zr bs) (hl:bs.length<=1099511627776) (hs:Ro R s (b8 bs)) (hw:Sat R Hs w):
  Zm prog 71 #[.slice s.a s.len s.cap] w λ v w'=>∃ t:Sl,v=.tuple #[.agg (rqV (Zad mI bs).1 t).toArray,nI (Zad mI bs).2]/\Sat R (Own t 5 (b8 (Zad mI bs).1.cmd)::Hs) w':=by
 apply ZBe;have b0:Zr (⟨bs,false⟩:Rd).bs:=hb;have l0:(⟨bs,false⟩:Rd).bs.length<=1099511627776:=hl;obtain ⟨rd0,e0⟩:∃ rd:Rd,rd=⟨bs,false⟩:=⟨_,rfl⟩;rw [<-e0] at b0 l0;refine Za hw λ b2 w hw=>?_;have hw:Sat R (Zct b2::Hs) w:=hw;refine (Zmi hs hl hw).u1 λ r w hw=>?_;refine ⟨_,rfl,?_⟩;rw [<-e0] at hw;have b1:=Zd (most:=mI) b0;have l1:(Zb mI rd0).2.bs.length<=1099511627776:=Nat.le_trans Zal l0;obtain ⟨k,rd1,e1⟩:∃ y rd,Zb mI rd0=(y,rd):=⟨_,_,rfl⟩;refine (ZfD b0 hw).u λ w hw=>?_;rw [e1] at b1 l1 hw ⊢;dsimp only at b1 l1 hw ⊢;refine ⟨_,rfl,?_⟩;have b2':=Zd (most:=mI) b1;have l2:(Zb mI rd1).2.bs.length<=1099511627776:=Nat.le_trans Zal l1;obtain ⟨c,rd2,e2⟩:∃ y rd,Zb mI rd1=(y,rd):=⟨_,_,rfl⟩;refine (ZfD b1 hw).u λ w hw=>?_;rw [e2] at b2' l2 hw ⊢;dsimp only at b2' l2 hw ⊢;refine ⟨_,rfl,?_⟩;have b3:=Zd (most:=mI) b2';have l3:(Zb mI rd2).2.bs.length<=1099511627776:=Nat.le_trans Zal l2;obtain ⟨q,rd3,e3⟩:∃ y rd,Zb mI rd2=(y,rd):=⟨_,_,rfl⟩;refine (ZfD b2' hw).u λ w hw=>?_;rw [e3] at b3 l3 hw ⊢;dsimp only at b3 l3 hw ⊢;refine ⟨_,rfl,?_⟩;have b4:=Zd (most:=mI) b3;have l4:(Zb mI rd3).2.bs.length<=1099511627776:=Nat.le_trans Zal l3;obtain ⟨t,rd4,e4⟩:∃ y rd,Zb mI rd3=(y,rd):=⟨_,_,rfl⟩;refine (ZfD b3 hw).u λ w hw=>?_;rw [e4] at b4 l4 hw ⊢;dsimp only at b4 l4 hw ⊢;refine ⟨_,rfl,?_⟩;refine Za hw λ b w hw=>?_;refine sRu hw λ w hw=>?_;have hw:Sat R (Zaz r rd4::rqC b ⟨k,c,q,t,[]⟩ ZbQ::Zct b2::Hs) w:=(hw.re (rqC b ⟨k,c,q,t,[]⟩ ZbQ)).swap;have htl:=Zdv (most:=4000) (rd:=rd4);obtain ⟨d,rd5,e5⟩:∃ y rd,ZD 4000 rd4=(y,rd):=⟨_,_,rfl⟩;refine (ZiU (most:=4000) (by omega) l4 b4 hw).u1 λ sd w hw=>?_;rw [e5] at hw htl;dsimp only at hw htl;refine ⟨sd,rfl,?_⟩;refine sRu hw λ w hw=>?_;have hC:Zrr mI ⟨bs,false⟩=(⟨k,c,q,t,d⟩,rd5):=by
  rw [<-e0];unfold Zrr;simp only [e1,e2,e3,e4,e5]
 obtain ⟨C,eC⟩:∃ C:Rq,C=⟨k,c,q,t,d⟩:=⟨_,rfl⟩;have hw:Sat R (rqC b C sd::Own sd 5 (b8 C.cmd)::Zaz r rd5::Zct b2::Hs) w:=by rw [eC];exact hw.re (rqC b ⟨k,c,q,t,d⟩ sd)
 rw [<-eC] at hC;have hdec:Zad mI bs=if ZF rd5=true/\ZaK C then (C,0) else (ZkY,6):=by unfold Zad;rw [hC]
 clear hC eC e0 e1 e2 e3 e4 e5 b0 b1 b2' b3 b4 l0 l1 l2 l3;have hw:Sat R (Zaz r rd5::rqC b C sd::Own sd 5 (b8 C.cmd)::Zct b2::Hs) w:=hw.arr;refine (ZiJ hw).u λ w hw=>?_;have no:Zad mI bs=(ZkY,6)->∀ {w},Sat R (Zct b2::Hs) w->∃ t:Sl,Value.tuple #[.agg (rqV ZkY ZbQ).toArray,nI 6]=.tuple #[.agg (rqV (Zad mI bs).1 t).toArray,nI (Zad mI bs).2]/\Sat R (Own t 5 (b8 (Zad mI bs).1.cmd)::Hs) w:=λ e {w} hw=>by
  rw [e];exact ⟨ZbQ,rfl,Own.nil hw.drop⟩
 refine ⟨_,rfl,Br.nb (λ h=>?_) (λ h=>?_)⟩
 ·have hw:Sat R (Zct b2::Hs) w:=hw.drop.drop.drop
  refine sRu hw λ w hw=>?_;have hw:=hw.re (Zct b2);refine ⟨_,_,_,_,ZbQ,oA hw,no ?_ hw⟩;rw [hdec,if_neg (by rintro ⟨h1,_⟩;rw [h1] at h;cases h)]
 refine ⟨C.kind,C.client,C.seq,C.token,sd,oA hw,?_⟩;have hsl:sd.len=C.cmd.length:=by
  have:=Own.len (hw.arr (Hs':=Own sd 5 (b8 C.cmd)::Zaz r rd5::rqC b C sd::Zct b2::Hs));simpa using this
 refine (ZgO hsl hw).u λ w hw=>?_;refine ⟨_,rfl,Br.nb (λ h2=>?_) (λ h2=>?_)⟩
 ·have hw:Sat R (Zct b2::Hs) w:=hw.drop.drop.drop
  refine sRu hw λ w hw=>?_;have hw:=hw.re (Zct b2);refine ⟨_,_,_,_,ZbQ,oA hw,no ?_ hw⟩;rw [hdec,if_neg (by rintro ⟨_,h1⟩;rw [decide_eq_true h1] at h2;cases h2)]
 refine ⟨C.kind,C.client,C.seq,C.token,sd,oA hw,?_⟩;have hw:Sat R (Zct b2::Own sd 5 (b8 C.cmd)::Zaz r rd5::rqC b C sd::Hs) w:=hw.arr;refine sRu hw λ w hw=>?_;have hw:=hw.re (rqC b2 C sd);refine ⟨C.kind,C.client,C.seq,C.token,sd,oA hw,?_⟩;rw [hdec,if_pos ⟨h,of_decide_eq_true h2⟩];exact ⟨sd,rfl,hw.drop.cons λ _ h=>h.drop.drop⟩
abbrev Za0 (b:Nat):HP:=tdC b ZB4 ZbQ
end
section
open Go Go.VC Tryz
open Classical
structure Cl where
 id:Int
 tok:Int
 last:Int
 rep:List Int
structure Tb where
 next:Int
 cl:List Cl
 bk:ZU
def ZhI (e:Int):Zo3:=⟨e,0,0,[]⟩
noncomputable def Zco (b:ZU) (cmd:List Int):List Int × ZU:=
 if (Zcl cmd).2≠0 then (rpB (Zby (Zcl cmd).2),b) else (rpB (Zai b (Zcl cmd).1).2,(Zai b (Zcl cmd).1).1)
def Tb.beginT (t:Tb) (tok:Int):Zo3 × Tb:=
 match t.cl.find? (λ c=>c.tok==tok) with
 |some c=>(⟨0,c.id,0,[]⟩,t)
 |none=>if t.cl.length >= 64 then (ZhI 3,t) else (⟨0,t.next,0,[]⟩,{ t with next:=t.next + 1,cl:=t.cl++[⟨t.next,tok,0,[]⟩] })
def Zfv (c:Cl) (l:List Cl):List Cl:=l.map λ d=>if d.id==c.id then c else d
noncomputable def Tb.doT (t:Tb) (c:Cl) (q:Rq):Zo3 × Tb:=
 if q.seq>c.last + 1 then (ZhI 7,t)
 else if q.seq<c.last\/q.seq=0 then (ZhI 11,t)
 else if q.seq>c.last then (⟨0,q.client,q.seq,(Zco t.bk q.cmd).1⟩,{ t with bk:=(Zco t.bk q.cmd).2,cl:=Zfv { c with last:=q.seq,rep:=(Zco t.bk q.cmd).1 } t.cl })
 else (⟨0,q.client,q.seq,c.rep⟩,t)
noncomputable def Tb.askT (t:Tb) (q:Rq):Zo3 × Tb:=
 if q.kind=4 then (ZhI 1,t)
 else if q.kind=1 then t.beginT q.token
 else match t.cl.find? (λ c=>c.id==q.client) with
  |none=>(if 1<=q.client/\q.client<t.next then ZhI 10 else ZhI 2,t)
  |some c=>if q.kind=3 then (⟨0,q.client,0,[]⟩,{ t with cl:=t.cl.filter λ d=>d.id !=q.client }) else t.doT c q
noncomputable def Tb.applyT (t:Tb) (bs:List Int):Zo3 × Tb:=if (Zad mI bs).2≠0 then (ZhI (Zad mI bs).2,t) else t.askT (Zad mI bs).1
structure ZB1 (t:Zo3):Prop where
 code:0<=t.code/\t.code<=1099511627776
 client:0<=t.client/\t.client<=1099511627776
 seq:0<=t.seq/\t.seq<=1099511627776
 rep:t.reply.length<=65536
 by':Zr t.reply
structure ZAf (next:Int) (c:Cl):Prop where
 id:1<=c.id/\c.id<next
 tok:0<=c.tok/\c.tok<=1099511627776
 last:0<=c.last/\c.last<=1099511627776
 rep:c.rep.length<=65536
 by':Zr c.rep
structure Zjz (t:Tb):Prop where
 nx:1<=t.next
 each:∀ c∈t.cl,ZAf t.next c
 ids:(t.cl.map Cl.id).Nodup
 toks:(t.cl.map Cl.tok).Nodup
 few:t.cl.length<=64
 bk:Zau t.bk
theorem ZvY {r:Rp} (h:Zt1 r):(rpB r).length<=65536:=by
 have h1:=h.code;have h2:=h.pnr;have h3:=h.state;have h4:=h.flt;have h5:=h.cls;have h6:=h.many;have h7:=h.time;have h8:=h.ll;have h9:=h.left;have h10:=h.bl;have hn:∀ {x:Int},0<=x/\x<=1099511627776->0<=nn x/\nn x<18446744073709551616:=λ {x} hx=>by
  rw [Zcu hx.1];omega
 have l1:=Zu (hn h1);have l2:=ZaT (d:=ZX r.pnr) (by rw [Zak];omega);have l3:=Zu (hn h3);have l4:=Zu (hn h4);have l5:=Zu (hn h5);have l6:=Zu (hn h6);have l7:=Zu (hn h7);have l8:=Zu (x:=(r.left.length:Int)) (by omega);have l9:=ZW (l:=r.left.map nn) λ y hy=>by
  obtain ⟨x,hx,rfl⟩:=List.mem_map.1 hy;exact hn (h9 x hx)
 have l10:=Zu (x:=(r.labs.length:Int)) (by omega);have l11:∀ l:List ByteArray,(∀ s∈l,s.size<=16)->((l.map Zq7).flatten).length<=25 * l.length:=λ l=>by
  induction l with
  |nil=>intro _;exact Nat.le_refl _
  |cons s l ih=>
   intro hs;have i1:=ih λ x hx=>hs x (List.mem_cons_of_mem _ hx);have i2:=hs s List.mem_cons_self;have i3:=ZaT (d:=ZX s) (by rw [Zak];omega);rw [Zak] at i3;rw [List.map_cons,List.flatten_cons,List.length_append,List.length_cons];unfold Zq7 at *;omega
 have l12:=l11 r.labs h.labs;rw [Zak] at l2;rw [List.length_map] at l9;unfold rpB;simp only [List.length_append];unfold Zq7 at *;omega
theorem ZwX {e:Int} (h0:0<=e) (h1:e<=1099511627776):ZB1 (ZhI e):=⟨⟨h0,h1⟩,⟨Int.le_refl 0,by show (0:Int)<=1099511627776;decide⟩,⟨Int.le_refl 0,by show (0:Int)<=1099511627776;decide⟩,Nat.zero_le _,λ y hy=>by cases hy⟩
theorem Zs9 {b:ZU} {cmd:List Int} (k:Zau b) (hb:Zr cmd):(Zco b cmd).1.length<=65536/\Zr (Zco b cmd).1/\Zau (Zco b cmd).2:=by
 obtain ⟨hf,_⟩:=ZoW hb;unfold Zco;split
 ·rename_i h
  have he:(Zcl cmd).2=6:=by
   unfold Zcl at h ⊢;split
   ·rename_i h2
    rw [if_pos h2] at h;exact absurd rfl h
   ·rfl
  have hr:Zt1 (Zby (Zcl cmd).2):=Zae (by rw [he];decide);exact ⟨ZvY hr,ZoX hr,k⟩
 ·have hr:=ZiX (c:=(Zcl cmd).1) k hf.sc
  exact ⟨ZvY hr,ZoX hr,Zom k hf.sc⟩
theorem Zf8 {l:List Cl} {P:Cl->Bool} {c:Cl} (h:l.find? P=some c):c∈l/\P c=true:=⟨List.mem_of_find?_eq_some h,List.find?_some h⟩
theorem Zn9 {bs:List Int} (hb:Zr bs) (h:(Zad mI bs).2=0):ZaK (Zad mI bs).1:=by
 unfold Zad at *;split
 ·rename_i h1;exact h1.2
 ·rename_i h1
  rw [if_neg h1] at h;exact absurd h (by show ¬ (6:Int)=0;decide)
theorem Zmu (c:Cl) (l:List Cl):(Zfv c l).map Cl.id=l.map Cl.id:=by
 unfold Zfv;rw [List.map_map];refine List.map_congr_left λ d _=>?_;show Cl.id (if d.id==c.id then c else d)=d.id
 split
 ·rename_i h;exact (beq_iff_eq.1 h).symm
 ·rfl
theorem Zqi {c d:Cl} {l:List Cl} (hd:d∈l) (hid:d.id=c.id) (htok:d.tok=c.tok) (hn:(l.map Cl.id).Nodup):(Zfv c l).map Cl.tok=l.map Cl.tok:=by
 unfold Zfv;rw [List.map_map];refine List.map_congr_left λ x hx=>?_;show Cl.tok (if x.id==c.id then c else x)=x.tok
 split
 ·rename_i h
  have h:=beq_iff_eq.1 h;have:x=d:=by
   obtain ⟨i,hi,rfl⟩:=List.getElem_of_mem hx;obtain ⟨j,hj,rfl⟩:=List.getElem_of_mem hd;have h2:(l.map Cl.id)[i]'(by simpa using hi)=(l.map Cl.id)[j]'(by simpa using hj):=by simp only [List.getElem_map];omega
   have:=(List.getElem_inj hn).1 h2;subst this;rfl
  rw [this,htok]
 ·rfl
theorem Zjz.apply {t:Tb} (k:Zjz t) (hn:t.next<1000000) {bs:List Int} (hb:Zr bs) (hc:∀ q,(Zad mI bs).1=q->Zr q.cmd):Zjz (t.applyT bs).2/\ZB1 (t.applyT bs).1/\(t.applyT bs).2.next<=t.next + 1/\t.next<=(t.applyT bs).2.next:=by
 have hnx:=k.nx;have same:∀ {e:Int},0<=e->e<=1099511627776->Zjz t/\ZB1 (ZhI e)/\t.next<=t.next + 1/\t.next<=t.next:=λ h0 h1=>⟨k,ZwX h0 h1,by omega,Int.le_refl _⟩;unfold Tb.applyT;split
 ·rename_i h
  have he:(Zad mI bs).2=6:=by
   unfold Zad at h ⊢;split
   ·rename_i h2
    rw [if_pos h2] at h;exact absurd rfl h
   ·rfl
  rw [he];exact same (by decide) (by decide)
 ·rename_i h
  have hq:=Zn9 hb (by simpa using h);have hcb:=hc _ rfl;generalize (Zad mI bs).1=q at hq hcb;obtain ⟨q1,q2⟩:=hq.client;obtain ⟨q3,q4⟩:=hq.seq;obtain ⟨q5,q6⟩:=hq.token;unfold Tb.askT;split
  ·exact same (by decide) (by decide)
  ·split
   ·unfold Tb.beginT
    split
    ·rename_i c hc
     obtain ⟨hm,_⟩:=Zf8 hc;have:=(k.each c hm).id;exact ⟨k,⟨⟨Int.le_refl 0,by show (0:Int)<=1099511627776;decide⟩,⟨by show 0<=c.id;omega,by show c.id<=1099511627776;omega⟩,⟨Int.le_refl 0,by show (0:Int)<=1099511627776;decide⟩,Nat.zero_le _,λ y hy=>by cases hy⟩,by show t.next<=t.next + 1;omega,Int.le_refl _⟩
    ·rename_i hno
     split
     ·exact same (by decide) (by decide)
     ·rename_i hfew
      have hno2:∀ c∈t.cl,c.tok≠q.token:=λ c hc e=>by
       have:=List.find?_eq_none.1 hno c hc;exact this (beq_iff_eq.2 e)
      refine ⟨⟨by show 1<=t.next + 1;omega,λ c hc=>?_,?_,?_,?_,k.bk⟩,⟨⟨Int.le_refl 0,by show (0:Int)<=1099511627776;decide⟩,⟨by show 0<=t.next;omega,by show t.next<=1099511627776;omega⟩,⟨Int.le_refl 0,by show (0:Int)<=1099511627776;decide⟩,Nat.zero_le _,λ y hy=>by cases hy⟩,Int.le_refl _,by show t.next<=t.next + 1;omega⟩
      ·rcases List.mem_append.1 hc with hc|hc
       ·have a:=k.each c hc
        exact ⟨⟨a.id.1,by have:=a.id.2;show c.id<t.next + 1;omega⟩,a.tok,a.last,a.rep,a.by'⟩
       ·rw [List.mem_singleton] at hc
        subst hc;exact ⟨⟨hnx,by show t.next<t.next + 1;omega⟩,⟨q5,q6⟩,⟨Int.le_refl 0,by show (0:Int)<=1099511627776;decide⟩,Nat.zero_le _,λ y hy=>by cases hy⟩
      ·show ((t.cl++[_]).map Cl.id).Nodup
       rw [List.map_append,List.nodup_append];refine ⟨k.ids,by simp,λ x hx y hy e=>?_⟩;obtain ⟨c,hc,rfl⟩:=List.mem_map.1 hx;have:=(k.each c hc).id.2;simp only [List.map_cons,List.map_nil,List.mem_singleton] at hy;omega
      ·show ((t.cl++[_]).map Cl.tok).Nodup
       rw [List.map_append,List.nodup_append];refine ⟨k.toks,by simp,λ x hx y hy e=>?_⟩;obtain ⟨c,hc,rfl⟩:=List.mem_map.1 hx;simp only [List.map_cons,List.map_nil,List.mem_singleton] at hy;exact hno2 c hc (by omega)
      ·show (t.cl++[_]).length<=64
       rw [List.length_append];simp only [List.length_cons,List.length_nil];omega
   ·split
    ·split
     ·exact same (by decide) (by decide)
     ·exact same (by decide) (by decide)
    ·rename_i c hc
     obtain ⟨hm,hid⟩:=Zf8 hc;have hid:=beq_iff_eq.1 hid;have a:=k.each c hm;split
     ·refine ⟨⟨hnx,λ d hd=>k.each d (List.mem_filter.1 hd).1,?_,?_,Nat.le_trans (List.length_filter_le _ _) k.few,k.bk⟩,⟨⟨Int.le_refl 0,by show (0:Int)<=1099511627776;decide⟩,⟨q1,q2⟩,⟨Int.le_refl 0,by show (0:Int)<=1099511627776;decide⟩,Nat.zero_le _,λ y hy=>by cases hy⟩,by show t.next<=t.next + 1;omega,Int.le_refl _⟩
      ·exact (List.filter_sublist.map Cl.id).nodup k.ids
      ·exact (List.filter_sublist.map Cl.tok).nodup k.toks
     ·unfold Tb.doT
      split
      ·exact same (by decide) (by decide)
      ·split
       ·exact same (by decide) (by decide)
       ·split
        ·obtain ⟨d1,d2,d3⟩:=Zs9 k.bk hcb
         refine ⟨⟨hnx,λ d hd=>?_,?_,?_,?_,d3⟩,⟨⟨Int.le_refl 0,by show (0:Int)<=1099511627776;decide⟩,⟨q1,q2⟩,⟨q3,q4⟩,d1,d2⟩,by show t.next<=t.next + 1;omega,Int.le_refl _⟩
         ·obtain ⟨x,hx,rfl⟩:=List.mem_map.1 hd
          dsimp only;split
          ·exact ⟨a.id,a.tok,⟨q3,q4⟩,d1,d2⟩
          ·exact k.each x hx
         ·show ((Zfv _ t.cl).map Cl.id).Nodup
          rw [Zmu];exact k.ids
         ·show ((Zfv _ t.cl).map Cl.tok).Nodup
          rw [Zqi (c:={ c with last:=q.seq,rep:=(Zco t.bk q.cmd).1 }) hm rfl rfl k.ids];exact k.toks
         ·show (Zfv _ t.cl).length<=64
          unfold Zfv;rw [List.length_map];exact k.few
        ·exact ⟨k,⟨⟨Int.le_refl 0,by show (0:Int)<=1099511627776;decide⟩,⟨q1,q2⟩,⟨q3,q4⟩,a.rep,a.by'⟩,by show t.next<=t.next + 1;omega,Int.le_refl _⟩
end
section
open Go Go.VC Tryz
open Classical
variable {R:Cx} {Hs Rest:List HP} {w:World}
abbrev SE:=Nat × Cl
abbrev Z5 (c:Cl) (s:Sl):Obj:=.cells [nI c.tok,nI c.last,.slice s.a s.len s.cap].toArray 134 (0,0)
def ZL (e:SE):HP:=exs λ s:Sl=>Zah [pts e.1 (Z5 e.2 s),Own s 5 (b8 e.2.rep)]
def Zbd (e:SE):Int × Value:=(e.2.id,.pointer (some ⟨e.1,0,none⟩))
abbrev ZbO (bk:Nat) (next:Int) (m:Nat):Obj:=.cells [nP bk,nI next,.map (some m)].toArray 128 (0,0)
def Zdf (p:Nat) (t:Tb):HP:=exs λ m:Nat=>exs λ bk:Nat=>exs λ E:List SE=>Zah [pur (E.map Prod.snd=t.cl),pts p (ZbO bk t.next m),MapAt m (E.map Zbd),Zah (E.map ZL),Zk bk t.bk]
theorem Sat.tb {p:Nat} {t:Tb}:Sat R (Zdf p t::Hs) w↔∃ m bk,∃ E:List SE,E.map Prod.snd=t.cl/\Sat R (pts p (ZbO bk t.next m)::MapAt m (E.map Zbd)::Zah (E.map ZL)::Zk bk t.bk::Hs) w:=by
 unfold Zdf;simp only [Sat.exs];constructor
 ·rintro ⟨m,b,E,h⟩
  obtain ⟨h1,h2⟩:=Sat.pur.1 (Sat.star.1 h);exact ⟨m,b,E,h1,h2⟩
 ·rintro ⟨m,b,E,h1,h2⟩
  exact ⟨m,b,E,Sat.star.2 (Sat.pur.2 ⟨h1,h2⟩)⟩
theorem Sat.cli {e:SE}:Sat R (ZL e::Hs) w↔∃ s:Sl,Sat R (pts e.1 (Z5 e.2 s)::Own s 5 (b8 e.2.rep)::Hs) w:=by
 unfold ZL;simp only [Sat.exs];exact ⟨λ⟨s,h⟩=>⟨s,Sat.star.1 h⟩,λ⟨s,h⟩=>⟨s,Sat.star.2 h⟩⟩
theorem Zws {A:HP} {B C:List HP}:Sat R (Zah (B++A::C)::Hs) w↔Sat R (A::Zah (B++C)::Hs) w:=by
 have key:∀ (B:List HP) {R:Cx} {Hs:List HP},Sat R (B++A::Hs) w↔Sat R (A::(B++Hs)) w:=λ B=>by
  induction B with
  |nil=>exact λ {R Hs}=>Iff.rfl
  |cons X B ih=>
   intro R Hs;constructor
   ·intro h
    have h:Sat R (X::(B++A::Hs)) w:=h;exact (h.cons λ _ h=>ih.1 h).swap
   ·intro h
    have h:Sat R (A::X::(B++Hs)) w:=h;exact (h.swap.cons λ _ h=>ih.2 h)
 rw [Sat.star,List.append_assoc,List.cons_append,key B];constructor
 ·intro h
  exact h.cons λ _ h=>Sat.star.2 (by rw [List.append_assoc];exact h)
 ·intro h
  refine h.cons λ _ h=>?_;have:=Sat.star.1 h;rwa [List.append_assoc] at this
theorem Zeo {A C:List SE} {e:SE}:Sat R (Zah ((A++e::C).map ZL)::Hs) w↔∃ s:Sl,Sat R (pts e.1 (Z5 e.2 s)::Own s 5 (b8 e.2.rep)::Zah (A.map ZL++C.map ZL)::Hs) w:=by
 rw [List.map_append,List.map_cons,Zws,Sat.cli]
abbrev ZBJ:Zwz prog 126 Int 3 131 (.pointer none):=⟨underlying126,underlying3,zeroValue131⟩
theorem Ztp {k:Int}:∀ {E:List SE},ZO k (E.map Zbd)=(E.find? λ e=>e.2.id==k).map λ e=>.pointer (some ⟨e.1,0,none⟩)
 |[]=>rfl
 |e::E=>by
  rw [List.map_cons,ZO,List.find?_cons];show (if k==e.2.id then some (Value.pointer (some ⟨e.1,0,none⟩)) else _)=_
  by_cases h:e.2.id=k
  ·rw [if_pos (by rw [h];simp),show (e.2.id==k)=true by simpa using h]
   rfl
  ·rw [if_neg (by simpa using λ h2=>h h2.symm),show (e.2.id==k)=false by simpa using h,Ztp]
theorem Zx1 {E:List SE} {P:Cl->Bool}:(E.map Prod.snd).find? P=(E.find? λ e=>P e.2).map Prod.snd:=by
 rw [List.find?_map];rfl
theorem Zhm {l:List Cl} {f:Cl->Int} (h:(l.map f).Nodup) {c:Cl} (hc:c∈l):l.find? (λ d=>f d==f c)=some c:=by
 induction l with
 |nil=>cases hc
 |cons x l ih=>
  rw [List.map_cons,List.nodup_cons] at h;rw [List.find?_cons];rcases List.mem_cons.1 hc with h1|h1
  ·subst h1
   simp
  ·have:f x≠f c:=λ e=>h.1 (List.mem_map.2 ⟨c,h1,e.symm⟩)
   rw [show (f x==f c)=false by simpa using this];exact ih h.2 h1
theorem Zc8 {b4:Nat} {t4 τ:Zo3} {s0 s:Sl} {K:Int->Int->Int->Sl->World->Prop} (hw:Sat R (tdC b4 t4 s0::Hs) w) (k:∀ w',Sat R Hs w'->K τ.code τ.client τ.seq s w'):
  ∃ w_6:World,((Instr.storeAt 54 (.pointer ((some ⟨b4,0,none⟩))) (.agg #[nI τ.code,nI τ.client,nI τ.seq,.slice s.a s.len s.cap])).run prog w=.ok () w_6)/\
  ∃ u:Int,∃ u_1:Int,∃ u_2:Int,∃ u_3:Sl,(At (λ w'=>w'=w_6) ⟨b4,0,none⟩ [nI u,nI u_1,nI u_2,.slice u_3.a u_3.len u_3.cap])/\
  K u u_1 u_2 u_3 w_6:=by
 refine sRu hw λ w hw=>?_;have hw:=hw.re (tdC b4 τ s);exact ⟨τ.code,τ.client,τ.seq,s,oA hw,k _ hw.drop⟩
theorem Za2 {e:Int} (hw:Sat R Hs w):Zm prog 72 #[nI e] w λ v w'=>v=.agg (tdV (ZhI e) ZbQ).toArray/\Sat R Hs w':=by
 apply ZBd;refine Za hw λ b w hw=>?_;have hw:Sat R (Za0 b::Hs) w:=hw;exact Zc8 (τ:=ZhI e) (s:=ZbQ) hw λ w hw=>⟨rfl,hw⟩
theorem Zbq.mk2 {g:FuncId} {x y:Value} {Q:Ending->World->Prop} (hc:cl g=true) (h:Calls prog g #[x,y] w Q):Zbq prog cl (.func (.func g) #[x] #[]) [y] w Q:=Zbq.mkB hc (by
 have e:((#[x]:Array Value).toList++(([y]:List Value)++(#[]:Array Value).toList)).toArray=#[x,y]:=rfl;rw [e];exact h)
theorem Zs8 {p:Nat} {b:ZU} {s:Sl} {cmd:List Int} (k:Zau b) (hb:Zr cmd) (hl:cmd.length<=1099511627776) (hs:Ro R s (b8 cmd)) (hw:Sat R (Zk p b::Hs) w):
  Zm prog 74 #[.slice s.a s.len s.cap,.func (.func 12) #[nP p] #[]] w λ v w'=>
   ∃ t:Sl,v=.slice t.a t.len t.cap/\Sat R (Own t 5 (b8 (Zco b cmd).1)::Zk p (Zco b cmd).2::Hs) w':=by
 apply ZBb;obtain ⟨hf,hgl,hpl⟩:=ZoW hb;refine (ZtO hb hl hs hw).use ?_;clear hw;rintro _ w ⟨sg,sp,rfl,hw⟩;obtain ⟨c,hc⟩:∃ c,c=(Zcl cmd).1:=⟨_,rfl⟩;obtain ⟨e,he⟩:∃ e,e=(Zcl cmd).2:=⟨_,rfl⟩;have hd:Zco b cmd=if e≠0 then (rpB (Zby e),b) else (rpB (Zai b c).2,(Zai b c).1):=by unfold Zco;rw [<-hc,<-he]
 have he6:e=0\/e=6:=by
  rw [he];unfold Zcl;split
  ·exact .inl rfl
  ·exact .inr rfl
 rw [hd];rw [<-hc] at hw hf hgl hpl;rw [<-hc,<-he];refine ⟨c.kind,c.pnr,c.flt,c.cls,c.many,c.time,c.sc,c.lab,c.rows,sg,sp,e,rfl,?_⟩;refine Za hw λ b5 w hw=>?_;refine sRu hw λ w hw=>?_;have hw:=hw.re (cmC b5 c sg sp);refine Br.ne (λ h=>?_) (λ h=>?_)
 ·rw [if_pos h]
  have hin:Zt1 (Zby e):=Zae (by omega);refine (Zg0 (r:=Zby e) (sl:=ZE) (sb:=ZE) (ZvX hin) ⟨rfl,by show 0<=9223372036854775807;omega,λ h=>absurd rfl h⟩ ⟨rfl,Nat.le_refl _,λ h=>absurd rfl h⟩ hw).u1 λ t w hw=>?_;exact ⟨t,rfl,t,rfl,hw.cons λ _ h=>h.drop.drop.drop⟩
 ·rw [if_neg (by simpa using h)]
  have hw:Sat R (Own sg 3 (Ze c.grps)::Own sp 35 (Zjn c.parts)::Zk p b::cmC b5 c sg sp::Hs) w:=hw.arr;obtain ⟨R1,e1,g1,hw⟩:=Own.leak hw;obtain ⟨R2,e2,g2,hw⟩:=Own.leak hw;refine ⟨c.kind,c.pnr,c.flt,c.cls,c.many,c.time,c.sc,c.lab,c.rows,sg,sp,oA hw,?_⟩;have hin:=ZiX (c:=c) k hf.sc;refine Zbq.mk2 (by kernel_rfl) ((Zqs k hf.sc (e2.ro (g1.ro)) (by omega) g2 hw).use ?_);clear hw;rintro _ w ⟨sl,sb,rfl,hw⟩;obtain ⟨rp,hrp⟩:∃ x,x=(Zai b c).2:=⟨_,rfl⟩;obtain ⟨nb,hnb⟩:∃ x,x=(Zai b c).1:=⟨_,rfl⟩;rw [<-hrp] at hin hw ⊢;rw [<-hnb] at hw ⊢;have hll:=hin.ll;have hbl:=hin.bl;obtain ⟨R3,e3,r3,hw⟩:=Own.leak hw;obtain ⟨R4,e4,r4,hw⟩:=Own.leak hw;refine ⟨rp.code,rp.pnr,rp.state,rp.flt,rp.cls,rp.many,rp.time,sl,sb,rfl,?_⟩;refine (Zg0 (ZvX hin) (e4.ro (r3.ro)) r4 hw).u1 λ t w hw=>?_;exact ⟨t,rfl,t,rfl,e1.back (e2.back (e3.back (e4.back (hw.cons λ _ h=>h.cons λ _ h=>h.drop))))⟩
theorem ZmU {p:Nat} {t:Tb} {tok:Int} (ok:Zjz t) (hn:t.next<1000000) (hw:Sat R (Zdf p t::Hs) w):
  Zm prog 73 #[nP p,nI tok] w λ v w'=>v=.agg (tdV (t.beginT tok).1 ZbQ).toArray/\Sat R (Zdf p (t.beginT tok).2::Hs) w':=by
 obtain ⟨m,bk,E,hE,hw⟩:=Sat.tb.1 hw;have hnx:=ok.nx;have hlE:E.length=t.cl.length:=by rw [<-hE,List.length_map]
 apply ZBc;refine Za hw λ b4 w hw=>?_;have hw:Sat R (MapAt m (E.map Zbd)::pts p (ZbO bk t.next m)::Zah (E.map ZL)::Zk bk t.bk::Za0 b4::Hs) w:=by
  have hw:Sat R (Za0 b4::pts p (ZbO bk t.next m)::MapAt m (E.map Zbd)::Zah (E.map ZL)::Zk bk t.bk::Hs) w:=hw;exact hw.arr
 refine Zc.mk rfl ⟨some m,oA hw,?_⟩;refine ZpA underlying126 hw λ r w hw=>?_;refine ⟨λ w=>∃ left:List (Int × Value),(∀ e∈E,e.2.tok=tok->Zbd e∈left)/\(∀ x∈left,x∈E.map Zbd)/\Sat R (ZjB r m (E.map Zbd) left::pts p (ZbO bk t.next m)::Zah (E.map ZL)::Zk bk t.bk::Za0 b4::Hs) w,ZsK r m,⟨_,λ e he _=>List.mem_map.2 ⟨e,he,rfl⟩,λ x hx=>hx,hw⟩,?_⟩;clear hw;rintro _ w ⟨left,hall,hin,hw⟩;have hlen:=Zl7 hw;rcases ZpP (P:=prog) (T:=0) hw with ⟨rfl,hrun⟩|⟨a,k,v,b,w',rfl,hrun,hent,hw'⟩
 ·refine ⟨w,.inl ⟨hrun,?_⟩⟩
  have hno:t.cl.find? (λ c=>c.tok==tok)=none:=List.find?_eq_none.2 λ c hc h=>by
   rw [<-hE] at hc;obtain ⟨e,he,rfl⟩:=List.mem_map.1 hc;have:=hall e he (beq_iff_eq.1 h);cases this
  unfold Tb.beginT;rw [hno];dsimp only;have hw:=ZjB.map hw;refine Zc.mk rfl ⟨some m,oA hw,((E.map Zbd).length:Int),λ w' e=>?_,?_⟩
  ·rw [show w'=w from e]
   exact MapAt.len (by kernel_rfl) hw
  rw [List.length_map];refine Br.d (λ h=>?_) (λ h=>?_)
  ·rw [if_pos (by omega)]
   refine (Za2 (e:=3) hw).u λ w hw=>?_;refine ⟨3,0,0,ZbQ,rfl,?_⟩;have hw:Sat R (Za0 b4::pts p (ZbO bk t.next m)::MapAt m (E.map Zbd)::Zah (E.map ZL)::Zk bk t.bk::Hs) w:=hw.arr;exact Zc8 (τ:=ZhI 3) (s:=ZbQ) hw λ w hw=>⟨rfl,Sat.tb.2 ⟨m,bk,E,hE,hw⟩⟩
  rw [if_neg (by omega)];refine Zo hw λ w hw=>?_;refine Zc.mk rfl ⟨some m,oS,Zc.mk rfl ⟨t.next,oS,?_⟩⟩;refine Za hw λ c w hw=>⟨hw.drop,?_⟩;obtain ⟨n,hnc⟩:∃ n:Cl,n=⟨t.next,tok,0,[]⟩:=⟨_,rfl⟩;have hw:Sat R (pts c (Z5 n ZbQ)::MapAt m (E.map Zbd)::pts p (ZbO bk t.next m)::Zah (E.map ZL)::Zk bk t.bk::Za0 b4::Hs) w:=by rw [hnc];exact hw
  refine MapAt.put ZBJ hw.swap t.next (nP c) λ w hw=>?_;have hput:Ze4 t.next (nP c) (E.map Zbd)=(E++[(c,n)]).map Zbd:=by
   unfold Ze4;have:ZO t.next (E.map Zbd)=none:=Zfs.2 λ x hx=>by
    obtain ⟨e,he,rfl⟩:=List.mem_map.1 hx;have:=(ok.each e.2 (by rw [<-hE];exact List.mem_map.2 ⟨e,he,rfl⟩)).id;show e.2.id≠t.next;omega
   rw [this];simp [Zbd,hnc]
  rw [hput] at hw;have hw:Sat R (pts p (ZbO bk t.next m)::MapAt m ((E++[(c,n)]).map Zbd)::pts c (Z5 n ZbQ)::Zah (E.map ZL)::Zk bk t.bk::Za0 b4::Hs) w:=hw.arr;refine Zc.mk rfl ⟨t.next,oA hw,Zc.mk rfl ?_⟩;rw [Zf];refine sRu hw λ w hw=>?_;have hw:=hw.re (pts p (ZbO bk (t.next + 1) m));refine Zc.mk rfl ⟨t.next + 1,oA hw,?_⟩;rw [Zf,show t.next + 1 - 1=t.next by omega];have hw:Sat R (Za0 b4::pts p (ZbO bk (t.next + 1) m)::MapAt m ((E++[(c,n)]).map Zbd)::pts c (Z5 n ZbQ)::Zah (E.map ZL)::Zk bk t.bk::Hs) w:=hw.arr;refine Zc8 (τ:=⟨0,t.next,0,[]⟩) (s:=ZbQ) hw λ w hw=>⟨rfl,?_⟩;refine Sat.tb.2 ⟨m,bk,E++[(c,n)],by rw [List.map_append,hE,hnc];rfl,?_⟩;refine hw.cons λ _ h=>h.cons λ _ h=>?_;refine Zeo (A:=E) (C:=[])|>.2 ⟨ZbQ,?_⟩
  refine h.cons λ _ h=>?_;rw [show b8 (c,n).2.rep=[] by rw [hnc];rfl];refine Own.nil ?_;rw [List.map_nil,List.append_nil];exact h
 ·obtain ⟨e,he,hkv⟩:=List.mem_map.1 (hin (k,v) (by simp))
  have hk:e.2.id=k:=congrArg Prod.fst hkv;have hv:Value.pointer (some ⟨e.1,0,none⟩)=v:=congrArg Prod.snd hkv;subst hk hv;have hec:e.2∈t.cl:=by rw [<-hE];exact List.mem_map.2 ⟨e,he,rfl⟩
  refine ⟨w',.inr ⟨_,_,hrun,e.2.id,some ⟨e.1,0,none⟩,λ w2 h2=>by rw [show w2=w' from h2];exact hent,Zc.mk rfl ?_⟩⟩
  obtain ⟨A,C,hAC⟩:=List.append_of_mem he;obtain ⟨s,hp⟩:∃ s:Sl,Sat R (pts e.1 (Z5 e.2 s)::Own s 5 (b8 e.2.rep)::Zah (A.map ZL++C.map ZL)::ZjB r m (E.map Zbd) (a++b)::pts p (ZbO bk t.next m)::Zk bk t.bk::Za0 b4::Hs) w':=by
   have h3:Sat R (Zah (E.map ZL)::ZjB r m (E.map Zbd) (a++b)::pts p (ZbO bk t.next m)::Zk bk t.bk::Za0 b4::Hs) w':=hw'.arr;rw [hAC] at h3;rw [hAC];exact Zeo.1 h3
  refine ⟨e.2.tok,At.own (b:=e.1) (eqS hp) (by exact ⟨rfl,trivial⟩),Br.e (λ ht=>?_) (λ ht=>?_)⟩
  ·have hw':Sat R (Za0 b4::ZjB r m (E.map Zbd) (a++b)::pts p (ZbO bk t.next m)::Zah (E.map ZL)::Zk bk t.bk::Hs) w':=hw'.arr
   have hfd:t.cl.find? (λ c=>c.tok==tok)=some e.2:=by rw [<-ht];exact Zhm (f:=Cl.tok) ok.toks hec
   unfold Tb.beginT;rw [hfd];refine Zc8 (τ:=⟨0,e.2.id,0,[]⟩) (s:=ZbQ) hw' λ w hw=>⟨rfl,?_⟩;exact Sat.tb.2 ⟨m,bk,E,hE,(ZjB.map hw).swap⟩
  ·have hlen':=Zl7 hw'
   refine ⟨⟨a++b,λ e0 he0 h0=>?_,λ x hx=>hin x ?_,hw'⟩,?_⟩
   ·have h1:=hall e0 he0 h0
    rcases List.mem_append.1 h1 with h1|h1
    ·exact List.mem_append.2 (.inl h1)
    ·rcases List.mem_cons.1 h1 with h1|h1
     ·have hid:e0.2.id=e.2.id:=show (Zbd e0).1=(Zbd e).1 from congrArg Prod.fst h1
      have:e0.2=e.2:=by
       have k1:=Zhm (f:=Cl.id) ok.ids hec;have k2:=Zhm (f:=Cl.id) ok.ids (c:=e0.2) (by rw [<-hE];exact List.mem_map.2 ⟨e0,he0,rfl⟩);rw [hid,k1] at k2;exact (Option.some.inj k2).symm
      rw [this] at h0;exact absurd h0 ht
     ·exact List.mem_append.2 (.inr h1)
   ·rcases List.mem_append.1 hx with h1|h1
    ·exact List.mem_append.2 (.inl h1)
    ·exact List.mem_append.2 (.inr (List.mem_cons_of_mem _ h1))
   ·rw [hlen,hlen']
    simp
def ZBV:Tb:=⟨1,[],Zfm⟩
theorem Zsj:Zjz ZBV:=⟨Int.le_refl 1,λ _ h=>(by cases h),List.nodup_nil,List.nodup_nil,Nat.zero_le _,ZAu⟩
theorem Zlg (hw:Sat R Hs w):Zm prog 22 #[] w λ v w'=>∃ p,v=nP p/\Sat R (Zdf p ZBV::Hs) w':=by
 apply ZBB;refine (ZtE hw).u1 λ p0 w hw=>?_;refine ⟨_,rfl,Za hw λ m w hw=>?_⟩;have hw:=MapAt.new (α:=Int) rfl hw;refine Za hw λ p w hw=>⟨p,rfl,Sat.tb.2 ⟨m,p0,[],rfl,?_⟩⟩;exact hw.cons λ _ h=>h.cons λ _ h=>Sat.star.2 h
theorem Zn8 {m:Int} {bs:List Int} (hb:Zr bs):Zr (Zad m bs).1.cmd:=by
 unfold Zad;split
 ·exact (ZcJ (Zd (Zd (Zd (Zd (rd:=⟨bs,false⟩) hb))))).1
 ·intro y hy
  cases hy
theorem ZvA {t:Tb} {E:List SE} (ok:Zjz t) (hE:E.map Prod.snd=t.cl) {id:Int} {e:SE} (h:(E.find? λ e=>e.2.id==id)=some e):
  ∃ A C,E=A++e::C/\e.2.id=id/\(∀ x∈A,x.2.id≠id)/\(∀ x∈C,x.2.id≠id):=by
 have h1:=List.mem_of_find?_eq_some h;have h2:e.2.id=id:=beq_iff_eq.1 (List.find?_some (p:=λ e:SE=>e.2.id==id) h);obtain ⟨A,C,hAC⟩:=List.append_of_mem h1;have hn:((A++e::C).map λ x:SE=>x.2.id).Nodup:=by
  have:=ok.ids;rw [<-hE,List.map_map,hAC] at this;exact this
 rw [List.map_append,List.map_cons,List.nodup_append] at hn;obtain ⟨n1,n2,n3⟩:=hn;rw [List.nodup_cons] at n2;refine ⟨A,C,hAC,h2,λ x hx e2=>?_,λ x hx e2=>?_⟩
 ·exact n3 _ (List.mem_map.2 ⟨x,hx,rfl⟩) _ List.mem_cons_self (by rw [e2,h2])
 ·exact n2.1 (List.mem_map.2 ⟨x,hx,by rw [e2,h2]⟩)
theorem ZrU {A C:List SE} {b:Nat} {c d:Cl} (h:d.id=c.id) (hA:∀ x∈A,x.2.id≠c.id) (hC:∀ x∈C,x.2.id≠c.id):(A++(b,c)::C).map Prod.snd=Zfv c ((A++(b,d)::C).map Prod.snd):=by
 have key:∀ l:List SE,(∀ x∈l,x.2.id≠c.id)->Zfv c (l.map Prod.snd)=l.map Prod.snd:=λ l hl=>by
  unfold Zfv;rw [List.map_map];refine List.map_congr_left λ x hx=>?_;show (if x.2.id==c.id then c else x.2)=x.2
  rw [if_neg (by simpa using hl x hx)]
 have k1:=key A hA;have k2:=key C hC;unfold Zfv at *;rw [List.map_append,List.map_cons,List.map_append,List.map_cons,List.map_append,List.map_cons,k1,k2]
 congr 2
 show c=if d.id==c.id then c else d
 rw [if_pos (by simpa using h)]
theorem Ztb {A C:List SE} {e:SE} {id:Int} (h:e.2.id=id) (hA:∀ x∈A,x.2.id≠id) (hC:∀ x∈C,x.2.id≠id):
  Zfy id ((A++e::C).map Zbd)=(A++C).map Zbd/\(A++C).map Prod.snd=((A++e::C).map Prod.snd).filter λ d=>d.id !=id:=by
 constructor
 ·rw [List.map_append,List.map_cons,List.map_append,show Zbd e=(id,.pointer (some ⟨e.1,0,none⟩)) by unfold Zbd;rw [h]]
  refine ZeO (Zfs.2 λ x hx=>?_) (by simp);obtain ⟨y,hy,rfl⟩:=List.mem_map.1 hx;exact hA y hy
 ·have key:∀ l:List SE,(∀ x∈l,x.2.id≠id)->(l.map Prod.snd).filter (λ d=>d.id !=id)=l.map Prod.snd:=λ l hl=>by
   refine List.filter_eq_self.2 λ x hx=>?_;obtain ⟨y,hy,rfl⟩:=List.mem_map.1 hx;simpa using hl y hy
  rw [List.map_append,List.map_append,List.filter_append,List.map_cons,List.filter_cons,if_neg (by simpa using h),key A hA,key C hC]
theorem ZbV {p:Nat} {t:Tb} {bs:List Int} {s:Sl} (ok:Zjz t) (hn:t.next<1000000) (hb:Zr bs) (hl:bs.length<=1099511627776) (hs:Ro R s (b8 bs)) (hw:Sat R (Zdf p t::Hs) w):
  Zm prog 23 #[nP p,.slice s.a s.len s.cap] w λ v w'=>
   ∃ x:Sl,v=.agg (tdV (t.applyT bs).1 x).toArray/\Sat R (Own x 5 (b8 (t.applyT bs).1.reply)::Zdf p (t.applyT bs).2::Hs) w':=by
 apply ZBA;refine Za hw λ b4 w hw=>?_;have hw:Sat R (Za0 b4::Zdf p t::Hs) w:=hw;refine (Zro hb hl hs hw).use ?_;clear hw;rintro _ w ⟨cs,rfl,hw⟩;have hcb:=Zn8 (m:=mI) hb;have hq0:=Zn9 (bs:=bs) hb;have hcl:(Zad mI bs).1.cmd.length<=4000:=by
  unfold Zad;split
  ·rename_i h
   exact h.2.cmd
  ·exact Nat.zero_le _
 have he6:(Zad mI bs).2=0\/(Zad mI bs).2=6:=by
  unfold Zad;split
  ·exact .inl rfl
  ·exact .inr rfl
 have hT:t.applyT bs=if (Zad mI bs).2≠0 then (ZhI (Zad mI bs).2,t) else t.askT (Zad mI bs).1:=rfl
 rw [hT];clear hT;generalize hqe:(Zad mI bs).1=q at *;generalize (Zad mI bs).2=e at *;clear hqe;obtain ⟨R1,e1,g1,hw⟩:=Own.leak hw;have hcs:Ro R1 cs (b8 q.cmd):=g1.ro;refine ⟨q.kind,q.client,q.seq,q.token,cs,e,rfl,?_⟩;refine Za hw λ b5 w hw=>?_;refine sRu hw λ w hw=>?_;have hw:=hw.re (rqC b5 q cs);have hw:Sat R1 (Zdf p t::Za0 b4::rqC b5 q cs::Hs) w:=hw.arr;have fin:∀ {τ:Zo3} {x:Sl} {t2:Tb} {w:World},Sat R1 (Own x 5 (b8 τ.reply)::Zdf p t2::rqC b5 q cs::Hs) w->∃ y:Sl,Value.agg (tdV τ x).toArray=.agg (tdV τ y).toArray/\Sat R (Own y 5 (b8 τ.reply)::Zdf p t2::Hs) w:=λ {τ x t2 w} hw=>
  ⟨x,rfl,e1.back (hw.cons λ _ h=>h.cons λ _ h=>h.drop)⟩
 have ref:∀ {n:Int} {t2:Tb} {w:World},Sat R1 (Zdf p t2::rqC b5 q cs::Hs) w->∃ y:Sl,Value.agg (tdV (ZhI n) ZbQ).toArray=.agg (tdV (ZhI n) y).toArray/\Sat R (Own y 5 (b8 (ZhI n).reply)::Zdf p t2::Hs) w:=λ {n t2 w} hw=>
  fin (τ:=ZhI n) (x:=ZbQ) (Own.nil hw)
 refine Br.ne (λ h=>?_) (λ h=>?_)
 ·rw [if_pos h]
  refine (Za2 (e:=e) hw).use ?_;clear hw;rintro _ w ⟨rfl,hw⟩;refine ⟨e,0,0,ZbQ,rfl,?_⟩;exact Zc8 (τ:=ZhI e) (s:=ZbQ) hw.swap λ w hw=>ref hw
 rw [if_neg (by simpa using h)];have hq:=hq0 h;have hk:=hq.kind;obtain ⟨q1,q2⟩:=hq.client;obtain ⟨q3,q4⟩:=hq.seq;unfold Tb.askT;refine ⟨q.kind,oA hw,Br.e (λ k4=>?_) (λ k4=>?_)⟩
 ·rw [if_pos k4]
  refine (Za2 (e:=1) hw).use ?_;clear hw;rintro _ w ⟨rfl,hw⟩;refine ⟨1,0,0,ZbQ,rfl,?_⟩;exact Zc8 (τ:=ZhI 1) (s:=ZbQ) hw.swap λ w hw=>ref hw
 rw [if_neg k4];refine ⟨q.kind,oA hw,Br.e (λ k1=>?_) (λ k1=>?_)⟩
 ·rw [if_pos k1]
  refine ⟨q.token,oA hw,?_⟩;refine (ZmU (tok:=q.token) ok hn hw).use ?_;clear hw;rintro _ w ⟨rfl,hw⟩;have hr:(t.beginT q.token).1.reply=[]:=by
   unfold Tb.beginT;split
   ·rfl
   ·split
    ·rfl
    ·rfl
  refine ⟨_,_,_,ZbQ,rfl,?_⟩;refine Zc8 (τ:=(t.beginT q.token).1) (s:=ZbQ) hw.swap λ w hw=>fin ?_;rw [hr];exact Own.nil hw
 rw [if_neg k1];obtain ⟨m,bk,E,hE,hw⟩:=Sat.tb.1 hw;have hnx:=ok.nx;refine Zo hw λ w hw=>?_;refine Zc.mk rfl ⟨some m,oS,q.client,oS,?_⟩;have hfE:t.cl.find? (λ c=>c.id==q.client)=(E.find? λ e=>e.2.id==q.client).map Prod.snd:=by rw [<-hE];exact Zx1
 have hg:=Ztp (k:=q.client) (E:=E);cases hf:E.find? λ e=>e.2.id==q.client with
 |none=>
  rw [hf] at hfE hg;rw [hfE];dsimp only [Option.map_none];refine ⟨none,false,λ w' h=>?_,?_⟩
  ·have:=MapAt.look ZBJ h.swap q.client true
   rw [hg] at this;exact this
  refine ⟨λ b w=>b=decide (1<=q.client/\q.client<t.next)/\Sat R1 (Za0 b4::pts p (ZbO bk t.next m)::MapAt m (E.map Zbd)::Zah (E.map ZL)::Zk bk t.bk::rqC b5 q cs::Hs) w,?_,?_⟩
  ·refine Zo hw λ w hw=>?_
   refine Br.t rfl ⟨q.client,oS,Br.d (λ h1=>?_) (λ h1=>?_)⟩
   ·refine ⟨q.client,oS,Zc.mk rfl ⟨t.next,oS,?_,hw.arr⟩⟩
    exact decide_eq_decide.2 ⟨λ h=>⟨h1,h⟩,λ h=>h.2⟩
   ·exact ⟨by rw [decide_eq_false (by omega)],hw.arr⟩
  clear hw;rintro _ _ w ⟨rfl,hw⟩;refine Br.d (λ h1=>?_) (λ h1=>?_)
  ·rw [if_pos h1]
   refine (Za2 (e:=10) hw).use ?_;clear hw;rintro _ w ⟨rfl,hw⟩;refine ⟨10,0,0,ZbQ,rfl,?_⟩;exact Zc8 (τ:=ZhI 10) (s:=ZbQ) hw λ w hw=>ref (Sat.tb.2 ⟨m,bk,E,hE,hw⟩)
  ·rw [if_neg h1]
   refine Br.t rfl ?_;refine (Za2 (e:=2) hw).use ?_;clear hw;rintro _ w ⟨rfl,hw⟩;refine ⟨2,0,0,ZbQ,rfl,?_⟩;exact Zc8 (τ:=ZhI 2) (s:=ZbQ) hw λ w hw=>ref (Sat.tb.2 ⟨m,bk,E,hE,hw⟩)
 |some e=>
  rw [hf] at hfE hg;rw [hfE];dsimp only [Option.map_some];obtain ⟨A,C,hAC,hid,hA,hC⟩:=ZvA ok hE hf;have hec:e.2∈t.cl:=by rw [<-hE,hAC];exact List.mem_map.2 ⟨e,by simp,rfl⟩
  have ec:=ok.each _ hec;have ecl:=ec.last;have ecr:=ec.rep;refine ⟨some ⟨e.1,0,none⟩,true,λ w' h=>?_,?_⟩
  ·have:=MapAt.look ZBJ h.swap q.client true
   rw [hg] at this;exact this
  refine ⟨λ b w=>b=false/\Sat R1 (Za0 b4::pts p (ZbO bk t.next m)::MapAt m (E.map Zbd)::Zah (E.map ZL)::Zk bk t.bk::rqC b5 q cs::Hs) w,?_,?_⟩
  ·refine Zo hw λ w hw=>?_
   exact Br.f rfl ⟨rfl,hw.arr⟩
  clear hw;rintro _ _ w ⟨rfl,hw⟩;refine Br.f rfl (Br.f rfl ?_);refine ⟨q.kind,oA hw,Br.e (λ k3=>?_) (λ k3=>?_)⟩
  ·rw [if_pos k3]
   refine Zo hw λ w hw=>?_;refine Zc.mk rfl ⟨some m,oS,q.client,oS,?_⟩;have hw:Sat R1 (MapAt m (E.map Zbd)::Za0 b4::pts p (ZbO bk t.next m)::Zah (E.map ZL)::Zk bk t.bk::rqC b5 q cs::Hs) w:=hw.arr;obtain ⟨d1,d2⟩:=Ztb hid hA hC;refine MapAt.del ZBJ hw q.client λ w hw=>?_;rw [hAC,d1] at hw;refine ⟨q.client,oA hw,?_⟩;have hw:Sat R1 (Za0 b4::pts p (ZbO bk t.next m)::MapAt m ((A++C).map Zbd)::Zah ((A++e::C).map ZL)::Zk bk t.bk::rqC b5 q cs::Hs) w:=hw.arr;refine Zc8 (τ:=⟨0,q.client,0,[]⟩) (s:=ZbQ) hw λ w hw=>fin (τ:=⟨0,q.client,0,[]⟩) (x:=ZbQ) (Own.nil ?_);refine Sat.tb.2 ⟨m,bk,A++C,?_,?_⟩
   ·rw [d2,<-hE,hAC]
   ·refine hw.cons λ _ h=>h.cons λ _ h=>?_
    obtain ⟨_,h⟩:=Zeo.1 h;rw [List.map_append];exact h.drop.drop
  rw [if_neg k3];unfold Tb.doT;have hE2:∃ s0:Sl,Sat R1 (pts e.1 (Z5 e.2 s0)::Own s0 5 (b8 e.2.rep)::Zah (A.map ZL++C.map ZL)::Za0 b4::pts p (ZbO bk t.next m)::MapAt m (E.map Zbd)::Zk bk t.bk::rqC b5 q cs::Hs) w:=by
   have h3:Sat R1 (Zah (E.map ZL)::Za0 b4::pts p (ZbO bk t.next m)::MapAt m (E.map Zbd)::Zk bk t.bk::rqC b5 q cs::Hs) w:=hw.arr;rw [hAC] at h3 ⊢;exact Zeo.1 h3
  obtain ⟨s0,hw⟩:=hE2;have close:∀ {R1:Cx} {b:Nat} {c:Cl} {x:Sl} {nb:ZU} {w:World},b=e.1->c.id=e.2.id->Sat R1 (pts b (Z5 c x)::Own x 5 (b8 c.rep)::Zah (A.map ZL++C.map ZL)::pts p (ZbO bk t.next m)::MapAt m (E.map Zbd)::Zk bk nb::rqC b5 q cs::Hs) w->Sat R1 (Zdf p { t with bk:=nb,cl:=Zfv c t.cl }::rqC b5 q cs::Hs) w:=λ {R1 b c x nb w} hb hc hw=>by
   refine Sat.tb.2 ⟨m,bk,A++(b,c)::C,?_,?_⟩
   ·rw [ZrU (d:=e.2) hc.symm (λ x hx=>by rw [hc,hid];exact hA x hx) (λ x hx=>by rw [hc,hid];exact hC x hx),<-hE,hAC,hb]
   ·have hm:(A++(b,c)::C).map Zbd=E.map Zbd:=by
     rw [hAC,List.map_append,List.map_append,List.map_cons,List.map_cons];unfold Zbd;rw [hb,hc]
    rw [hm];have hw:Sat R1 (pts b (Z5 c x)::Own x 5 (b8 c.rep)::Zah (A.map ZL++C.map ZL)::pts p (ZbO bk t.next m)::MapAt m (E.map Zbd)::Zk bk nb::rqC b5 q cs::Hs) w:=hw;have hw:=Zeo (e:=(b,c)).2 ⟨x,hw⟩;exact hw.arr
  have same:∀ {R1:Cx} {w:World},Sat R1 (pts e.1 (Z5 e.2 s0)::Own s0 5 (b8 e.2.rep)::Zah (A.map ZL++C.map ZL)::pts p (ZbO bk t.next m)::MapAt m (E.map Zbd)::Zk bk t.bk::rqC b5 q cs::Hs) w->Sat R1 (Zdf p t::rqC b5 q cs::Hs) w:=λ {R1 w} hw=>by
   refine Sat.tb.2 ⟨m,bk,E,hE,?_⟩;have hw:=Zeo.2 ⟨s0,hw⟩;rw [<-hAC] at hw;exact hw.arr
  refine Zo hw λ w hw=>?_;refine ⟨q.seq,oS,Zc.mk rfl ⟨e.2.last,oS,?_⟩⟩;rw [Zf];refine Br.d (λ h7=>?_) (λ h7=>?_)
  ·rw [if_pos h7]
   refine (Za2 (e:=7) hw).use ?_;clear hw;rintro _ w ⟨rfl,hw⟩;refine ⟨7,0,0,ZbQ,rfl,?_⟩;have hw:Sat R1 (Za0 b4::pts e.1 (Z5 e.2 s0)::Own s0 5 (b8 e.2.rep)::Zah (A.map ZL++C.map ZL)::pts p (ZbO bk t.next m)::MapAt m (E.map Zbd)::Zk bk t.bk::rqC b5 q cs::Hs) w:=hw.arr;exact Zc8 (τ:=ZhI 7) (s:=ZbQ) hw λ w hw=>ref (same hw)
  rw [if_neg h7];refine ⟨λ b w=>b=decide (q.seq<e.2.last\/q.seq=0)/\Sat R1 (pts e.1 (Z5 e.2 s0)::Own s0 5 (b8 e.2.rep)::Zah (A.map ZL++C.map ZL)::Za0 b4::pts p (ZbO bk t.next m)::MapAt m (E.map Zbd)::Zk bk t.bk::rqC b5 q cs::Hs) w,?_,?_⟩
  ·refine Zo hw λ w hw=>?_
   refine ⟨q.seq,oS,Zc.mk rfl ⟨e.2.last,oS,Br.d (λ h8=>?_) (λ h8=>?_)⟩⟩
   ·exact ⟨by rw [decide_eq_true (.inl h8)],hw⟩
   ·refine ⟨q.seq,oS,?_,hw⟩
    rw [show (q.seq==0)=decide (q.seq=0) from rfl]
    exact decide_eq_decide.2 ⟨λ h=>.inr h,λ h=>h.resolve_left h8⟩
  clear hw;rintro _ _ w ⟨rfl,hw⟩;refine Br.d (λ h8=>?_) (λ h8=>?_)
  ·rw [if_pos h8]
   refine (Za2 (e:=11) hw).use ?_;clear hw;rintro _ w ⟨rfl,hw⟩;refine ⟨11,0,0,ZbQ,rfl,?_⟩;have hw:Sat R1 (Za0 b4::pts e.1 (Z5 e.2 s0)::Own s0 5 (b8 e.2.rep)::Zah (A.map ZL++C.map ZL)::pts p (ZbO bk t.next m)::MapAt m (E.map Zbd)::Zk bk t.bk::rqC b5 q cs::Hs) w:=hw.arr;exact Zc8 (τ:=ZhI 11) (s:=ZbQ) hw λ w hw=>ref (same hw)
  rw [if_neg h8];refine Zo hw λ w hw=>?_;refine ⟨q.seq,oS,Zc.mk rfl ⟨e.2.last,oS,Br.d (λ h9=>?_) (λ h9=>?_)⟩⟩
  ·rw [if_pos h9]
   have hw:Sat R1 (rqC b5 q cs::pts p (ZbO bk t.next m)::Zk bk t.bk::pts e.1 (Z5 e.2 s0)::Own s0 5 (b8 e.2.rep)::Zah (A.map ZL++C.map ZL)::Za0 b4::MapAt m (E.map Zbd)::Hs) w:=hw.arr;refine ZC (Sat R1 [rqC b5 q cs,pts p (ZbO bk t.next m),VC.tru]) hw (λ w hw=>hw.cons λ _ h=>h.restTru2) λ w hw=>?_;refine ⟨q.seq,oS,cs,oS,Zc.mk rfl ⟨some ⟨bk,0,none⟩,by rw [Zy];exact oS,?_⟩⟩;have hw:Sat R1 (Zk bk t.bk::rqC b5 q cs::pts p (ZbO bk t.next m)::pts e.1 (Z5 e.2 s0)::Own s0 5 (b8 e.2.rep)::Zah (A.map ZL++C.map ZL)::Za0 b4::MapAt m (E.map Zbd)::Hs) w:=hw.arr;refine (Zs8 ok.bk hcb (by omega) hcs hw).use ?_;clear hw;rintro _ w ⟨x,rfl,hw⟩;obtain ⟨o1,_,_⟩:=Zs9 ok.bk hcb;have hw:Sat R1 (rqC b5 q cs::pts p (ZbO bk t.next m)::pts e.1 (Z5 e.2 s0)::Own x 5 (b8 (Zco t.bk q.cmd).1)::Zk bk (Zco t.bk q.cmd).2::Own s0 5 (b8 e.2.rep)::Zah (A.map ZL++C.map ZL)::Za0 b4::MapAt m (E.map Zbd)::Hs) w:=hw.arr;refine ⟨x,rfl,hw.cons λ _ h=>h.restTru2,Zc.mk rfl ?_⟩;refine sRu hw λ w hw=>?_;have hw:=hw.re (pts e.1 (Z5 { e.2 with last:=q.seq } s0));have hw:Sat R1 (rqC b5 q cs::pts p (ZbO bk t.next m)::pts e.1 (Z5 { e.2 with last:=q.seq } s0)::Own x 5 (b8 (Zco t.bk q.cmd).1)::Zk bk (Zco t.bk q.cmd).2::Own s0 5 (b8 e.2.rep)::Zah (A.map ZL++C.map ZL)::Za0 b4::MapAt m (E.map Zbd)::Hs) w:=hw.arr;refine ⟨hw.cons λ _ h=>h.restTru2,Zc.mk rfl ?_⟩;obtain ⟨c,hc⟩:∃ c:Cl,c={ e.2 with last:=q.seq,rep:=(Zco t.bk q.cmd).1 }:=⟨_,rfl⟩;refine sRu hw λ w hw=>?_;have hw:=hw.re (pts e.1 (Z5 c x)) (by rw [hc];rfl);have hw:Sat R1 (rqC b5 q cs::pts e.1 (Z5 c x)::Own x 5 (b8 c.rep)::pts p (ZbO bk t.next m)::Zk bk (Zco t.bk q.cmd).2::Zah (A.map ZL++C.map ZL)::Za0 b4::MapAt m (E.map Zbd)::Hs) w:=by
    have hw:Sat R1 (Own s0 5 (b8 e.2.rep)::rqC b5 q cs::pts e.1 (Z5 c x)::Own x 5 (b8 (Zco t.bk q.cmd).1)::pts p (ZbO bk t.next m)::Zk bk (Zco t.bk q.cmd).2::Zah (A.map ZL++C.map ZL)::Za0 b4::MapAt m (E.map Zbd)::Hs) w:=hw.arr;rw [hc] at hw ⊢;exact hw.drop
   refine ZC (Sat R1 [rqC b5 q cs,pts e.1 (Z5 c x),VC.tru]) hw (λ w hw=>hw.cons λ _ h=>h.restTru2) λ w hw=>?_;refine ⟨q.client,oS,q.seq,oS,Zc.mk rfl ⟨x,oS,?_⟩⟩;have hcr:c.rep.length<=65536:=by rw [hc];exact o1
   have hw:Sat R1 (Own x 5 (b8 c.rep)::rqC b5 q cs::pts e.1 (Z5 c x)::pts p (ZbO bk t.next m)::Zk bk (Zco t.bk q.cmd).2::Zah (A.map ZL++C.map ZL)::Za0 b4::MapAt m (E.map Zbd)::Hs) w:=hw.arr;obtain ⟨R2,r2,_,hw,back⟩:=Own.lend hw (by rw [List.length_map];omega);refine (ZeR r2 (by omega) hw).use ?_;clear hw;rintro _ w ⟨y,rfl,hw⟩;have hw:=back hw;have hw:Sat R1 (rqC b5 q cs::pts e.1 (Z5 c x)::Own x 5 (b8 c.rep)::Own y 5 (b8 c.rep)::pts p (ZbO bk t.next m)::Zk bk (Zco t.bk q.cmd).2::Zah (A.map ZL++C.map ZL)::Za0 b4::MapAt m (E.map Zbd)::Hs) w:=hw.arr;refine ⟨y,rfl,hw.cons λ _ h=>h.restTru2,?_⟩;have hw:Sat R1 (Za0 b4::pts e.1 (Z5 c x)::Own x 5 (b8 c.rep)::Zah (A.map ZL++C.map ZL)::pts p (ZbO bk t.next m)::MapAt m (E.map Zbd)::Zk bk (Zco t.bk q.cmd).2::rqC b5 q cs::Own y 5 (b8 c.rep)::Hs) w:=hw.arr;refine Zc8 (τ:=⟨0,q.client,q.seq,c.rep⟩) (s:=y) hw λ w hw=>?_;have hw:Sat R1 (Own y 5 (b8 c.rep)::pts e.1 (Z5 c x)::Own x 5 (b8 c.rep)::Zah (A.map ZL++C.map ZL)::pts p (ZbO bk t.next m)::MapAt m (E.map Zbd)::Zk bk (Zco t.bk q.cmd).2::rqC b5 q cs::Hs) w:=hw.arr;subst hc;exact fin (τ:=⟨0,q.client,q.seq,(Zco t.bk q.cmd).1⟩) (x:=y) (hw.cons λ _ h=>close rfl rfl h)
  ·rw [if_neg h9]
   have hw:Sat R1 (rqC b5 q cs::pts e.1 (Z5 e.2 s0)::Own s0 5 (b8 e.2.rep)::pts p (ZbO bk t.next m)::Zk bk t.bk::Zah (A.map ZL++C.map ZL)::Za0 b4::MapAt m (E.map Zbd)::Hs) w:=hw.arr;refine ZC (Sat R1 [rqC b5 q cs,pts e.1 (Z5 e.2 s0),VC.tru]) hw (λ w hw=>hw.cons λ _ h=>h.restTru2) λ w hw=>?_;refine ⟨q.client,oS,q.seq,oS,Zc.mk rfl ⟨s0,oS,?_⟩⟩;have hw:Sat R1 (Own s0 5 (b8 e.2.rep)::rqC b5 q cs::pts e.1 (Z5 e.2 s0)::pts p (ZbO bk t.next m)::Zk bk t.bk::Zah (A.map ZL++C.map ZL)::Za0 b4::MapAt m (E.map Zbd)::Hs) w:=hw.arr;obtain ⟨R2,r2,_,hw,back⟩:=Own.lend hw (by rw [List.length_map];omega);refine (ZeR r2 (by omega) hw).use ?_;clear hw;rintro _ w ⟨y,rfl,hw⟩;have hw:=back hw;have hw:Sat R1 (rqC b5 q cs::pts e.1 (Z5 e.2 s0)::Own s0 5 (b8 e.2.rep)::Own y 5 (b8 e.2.rep)::pts p (ZbO bk t.next m)::Zk bk t.bk::Zah (A.map ZL++C.map ZL)::Za0 b4::MapAt m (E.map Zbd)::Hs) w:=hw.arr;refine ⟨y,rfl,hw.cons λ _ h=>h.restTru2,?_⟩;have hw:Sat R1 (Za0 b4::Own y 5 (b8 e.2.rep)::pts e.1 (Z5 e.2 s0)::Own s0 5 (b8 e.2.rep)::Zah (A.map ZL++C.map ZL)::pts p (ZbO bk t.next m)::MapAt m (E.map Zbd)::Zk bk t.bk::rqC b5 q cs::Hs) w:=hw.arr;exact Zc8 (τ:=⟨0,q.client,q.seq,e.2.rep⟩) (s:=y) hw λ w hw=>fin (τ:=⟨0,q.client,q.seq,e.2.rep⟩) (x:=y) (hw.cons λ _ h=>same h)
end
section
open Go Go.VC Tryz
set_option maxRecDepth 10000
def B26 (p:Option Addr) (K:nK) (w : nW):Prop:=
 Drw w λ o al=>
 Zc p λ G=>
 ∃ H,(At o (nO G 1) [nI H])/\
 Zc p λ A=>
 ∃ I:Option Nat,(At o (nO A 2) [.map I])/\
 ∃ J:Int,(∀ b,o b->((Builtin.len_ #[126] 3 #[.map I])).run prog b=.ok (nI J) b)/\
 New (.cells #[nI H,nI J] 3 (0,0)) (λ ac V=>
 (o V)/\
 nC 81 #[.slice ((some ⟨ac,0,none⟩)) 2 2] V λ ae z=>
 ∃ s:Sl,(ae=.returned (s.v))/\
 (o z)/\
 Zc p λ C=>
 ∃ L:Option Nat,(Aw z (nO C 2) [.map L])/\
 nC 82 #[.map L] z λ af ap=>
 ∃ M:Value,(af=.returned (M))/\
 nC 61 #[M] ap λ ag aq=>
 ∃ f:Sl,(ag=.returned (f.v))/\
 ∃ (v:Sl->Int->World->Prop) (Y:Sl->Int->World->Nat),(v s 0 aq)/\∀ (av:Env) (c:Sl) (e:Int) (d:World),v c e d->
 Br (decide (e<(↑f.len:Int)))
 (Rng e f.len (Zc f.a λ Z=>
 ∃ x,(Aw d (Addr.add Z e.toNat) [nI x])/\
 Zc p λ D=>
 ∃ N:Option Nat,(Aw d (nO D 2) [.map N])/\
 ∃ t:Option Addr,(∀ b,(λ b=>b=d) b->((Instr.lookup 126 (.map N) (nI x) false)).run prog b=.ok (.pointer t) b)/\
 Drw d λ r ar=>
 Zc t λ aa=>
 ∃ O,(At r (Addr.add aa 0) [nI O])/\
 Zc t λ E=>
 ∃ Q,(At r (nO E 1) [nI Q])/\
 New (.cells #[nI x,nI O,nI Q] 3 (0,0)) (λ ad au=>
 nC 81 #[.slice ((some ⟨ad,0,none⟩)) 3 3] au λ ah X=>
 ∃ g:Sl,(ah=.returned (g.v))/\
 (r X)/\
 ∃ u:World,∃ i:Sl,((Builtin.append_ #[47,47] 47 #[c.v,g.v]).run prog X=.ok (i.v) u)/\
 (r u)/\
 Zc t λ F=>
 ∃ j:Sl,(Aw u (nO F 2) [j.v])/\
 nC 83 #[j.v] u λ ai am=>
 ∃ k:Sl,(ai=.returned (k.v))/\
 ∃ y:World,∃ q:Sl,((Builtin.append_ #[47,47] 47 #[i.v,k.v]).run prog am=.ok (q.v) y)/\
 (v q (wI (e + 1)) y)/\Y q (wI (e + 1)) y<Y c e d) ar))
 (Zc p λ ab=>
 ∃ T,(Aw d (Addr.add ab 0) [.pointer T])/\
 nC 18 #[.pointer T] d λ aj an=>
 ∃ l:Sl,(aj=.returned (l.v))/\
 nC 83 #[l.v] an λ ak ao=>
 ∃ m:Sl,(ak=.returned (m.v))/\
 ∃ U:World,∃ n:Sl,((Builtin.append_ #[47,47] 47 #[c.v,m.v]).run prog ao=.ok (n.v) U)/\
 K (n.v) U)) al
def sk26:Sk:=(.seq .leaf (.seq .leaf (.seq (.seq .leaf (.block (.loop [3,25] [.sl,(.int .i64)] [3,5,6,25,26,27,28,29,30,31,32,33,34,35,36,37,38,39,40,41,42,43,44,45,46,47,48,49,50,51,52,53,54,55] .leaf))) .leaf)))
theorem ZBx (a:Option Addr) (K:nK) (w : nW) (h:B26 a K w):Zm prog 26 #[.pointer a] w K:=cq (sk:=sk26) h func26
end
end Go.Proofs.YtlplemdmegpoeaaGreatDoor

namespace Go.Proofs.YtlplemdmegpoeaaGreatDoor
section
open Go Go.VC Tryz
set_option maxRecDepth 10000
def B84 (E:Int) (F:Int) (G:Int) (H:Int) (m:Sl) (K:nK) (w : nW):Prop:=
 New (.cells #[nI E,nI F,nI G,nI H,m.v] 58 (0,0)) (λ d k=>
 ∃ v,(Aw k ⟨d,0 + 1,none⟩ [nI v])/\
 ∃ A,(Aw k ⟨d,0 + 2,none⟩ [nI A])/\
 ∃ o,(Aw k ⟨d,0 + 3,none⟩ [nI o])/\
 New (.cells #[nI v,nI A,nI o] 3 (0,0)) (λ n I=>
 ∃ (l:Int->World->Prop) (D:Int->World->Nat),(l 0 I)/\∀ (J:Env) (e:Int) (c:World),l e c->
 Br (decide (e<3))
 (Rng e 3 (∃ p,(Aw c (Addr.add ⟨n,0,none⟩ e.toNat) [nI p])/\
 Br (decide (p<0))
 (K (.bool false) c)
 (Rng e 3 (∃ q,(Aw c (Addr.add ⟨n,0,none⟩ e.toNat) [nI q])/\
 Br (decide (q>1099511627776))
 (K (.bool false) c)
 ((l (wI (e + 1)) c)/\D (wI (e + 1)) c<D e c)))))
 (∃ g:Sl,(Aw c ⟨d,0 + 4,none⟩ [g.v])/\
 Br (decide ((↑g.len:Int)>4000))
 (K (.bool false) c)
 (∃ f,(Aw c ⟨d,0,none⟩ [nI f])/\
 Br (f==1)
 (∃ r,(Aw c ⟨d,0 + 1,none⟩ [nI r])/\
 Br (r==0)
 (∃ s,(Aw c ⟨d,0 + 2,none⟩ [nI s])/\
 Br (s==0)
 (∃ i:Sl,(Aw c ⟨d,0 + 4,none⟩ [i.v])/\
 K (.bool ((↑i.len:Int)==0)) c)
 (K (.bool false) c))
 (K (.bool false) c))
 (Br (f==2)
 (∃ t,(Aw c ⟨d,0 + 3,none⟩ [nI t])/\
 K (.bool (t==0)) c)
 (Br (f==3)
 (∃ u,(Aw c ⟨d,0 + 2,none⟩ [nI u])/\
 Br (u==0)
 (∃ x,(Aw c ⟨d,0 + 3,none⟩ [nI x])/\
 Br (x==0)
 (∃ j:Sl,(Aw c ⟨d,0 + 4,none⟩ [j.v])/\
 K (.bool ((↑j.len:Int)==0)) c)
 (K (.bool false) c))
 (K (.bool false) c))
 (Br (f==4)
 (∃ y,(Aw c ⟨d,0 + 1,none⟩ [nI y])/\
 Br (y==0)
 (∃ z,(Aw c ⟨d,0 + 2,none⟩ [nI z])/\
 Br (z==0)
 (∃ C,(Aw c ⟨d,0 + 3,none⟩ [nI C])/\
 K (.bool (C==0)) c)
 (K (.bool false) c))
 (K (.bool false) c))
 (K (.bool false) c))))))) k) w
def sk84:Sk:=(.seq .leaf (.seq .leaf (.seq (.seq .leaf (.block (.loop [4] [(.int .i64)] [2,4,12,13,14,15,16,17,18,19,20,21,22,23,24,25,26,27] .leaf))) .leaf)))
theorem ZA2 (c:Int) (d:Int) (e:Int) (f:Int) (b:Sl) (K:nK) (w : nW) (h:B84 c d e f b K w):Zm prog 84 #[.agg #[nI c,nI d,nI e,nI f,b.v]] w K:=cq (sk:=sk84) h func84
def B27 (n:Sl) (K:nK) (w : nW):Prop:=
 New (.cells #[nI 0,nI 0,nI 0,nI 0,.slice none 0 0] 58 (0,0)) (λ d ai=>
 New (.cells #[n.v,nI 0,.bool false] 140 (0,0)) (λ c aj=>
 nC 77 #[.pointer ((some ⟨c,0,none⟩)),.int .u64 4] aj λ ab ak=>
 ∃ r,(ab=.returned (.int .u64 r))/\
 nC 77 #[.pointer ((some ⟨c,0,none⟩)),.int .u64 1099511627776] ak λ ac al=>
 ∃ s,(ac=.returned (.int .u64 s))/\
 nC 77 #[.pointer ((some ⟨c,0,none⟩)),.int .u64 1099511627776] al λ ad am=>
 ∃ t,(ad=.returned (.int .u64 t))/\
 nC 77 #[.pointer ((some ⟨c,0,none⟩)),.int .u64 1099511627776] am λ ae an=>
 ∃ u,(ae=.returned (.int .u64 u))/\
 New (.cells #[nI 0,nI 0,nI 0,nI 0,.slice none 0 0] 58 (0,0)) (λ l ao=>
 ∃ aa,(St 58 ⟨l,0,none⟩ (.agg #[nI (wI r),nI (wI s),nI (wI t),nI (wI u),.slice none 0 0]) ao aa)/\
 nC 78 #[.pointer ((some ⟨c,0,none⟩)),nI 4000] aa λ af ap=>
 ∃ e:Sl,(af=.returned (e.v))/\
 ∃ Y,(St 47 ⟨l,0 + 4,none⟩ (e.v) ap Y)/\
 nC 80 #[.pointer ((some ⟨c,0,none⟩))] Y λ ag Z=>
 ∃ v,(ag=.returned (.bool v))/\
 ∃ x y z A,∃ f:Sl,(Aw Z ⟨l,0,none⟩ [nI x,nI y,nI z,nI A,f.v])/\
 nC 84 #[.agg #[nI x,nI y,nI z,nI A,f.v]] Z λ ah m=>
 ∃ D,(ah=.returned (.bool D))/\
 Br (!v)
 (∃ o,(St 58 ⟨d,0,none⟩ (.agg #[nI 0,nI 0,nI 0,nI 0,.slice none 0 0]) m o)/\
 ∃ C I O Q,∃ j:Sl,(Aw o ⟨d,0,none⟩ [nI C,nI I,nI O,nI Q,j.v])/\
 K (.tuple #[.agg #[nI C,nI I,nI O,nI Q,j.v],nI 6]) o)
 (Br (!D)
 (∃ p,(St 58 ⟨d,0,none⟩ (.agg #[nI 0,nI 0,nI 0,nI 0,.slice none 0 0]) m p)/\
 ∃ T U V X,∃ k:Sl,(Aw p ⟨d,0,none⟩ [nI T,nI U,nI V,nI X,k.v])/\
 K (.tuple #[.agg #[nI T,nI U,nI V,nI X,k.v],nI 6]) p)
 (∃ E F G H,∃ g:Sl,(Aw m ⟨l,0,none⟩ [nI E,nI F,nI G,nI H,g.v])/\
 ∃ q,(St 58 ⟨d,0,none⟩ (.agg #[nI E,nI F,nI G,nI H,g.v]) m q)/\
 ∃ J L M N,∃ i:Sl,(Aw q ⟨d,0,none⟩ [nI J,nI L,nI M,nI N,i.v])/\
 K (.tuple #[.agg #[nI J,nI L,nI M,nI N,i.v],nI 0]) q))) an) ai) w
theorem ZBw (b:Sl) (K:nK) (w : nW) (h:B27 b K w):Zm prog 27 #[b.v] w K:=cq (sk:=.leaf) h func27
def B25 (H:Sl) (K:nK) (w : nW):Prop:=
 New (.cells #[H.v,nI 0,.bool false] 140 (0,0)) (λ e ba=>
 nC 77 #[.pointer ((some ⟨e,0,none⟩)),.int .u64 1099511627776] ba λ a1 bd=>
 ∃ ad,(a1=.returned (.int .u64 ad))/\
 New (.cells #[nI (wI ad),.slice none 0 0,.pointer none] 64 (0,0)) (λ b bh=>
 nC 77 #[.pointer ((some ⟨e,0,none⟩)),.int .u64 64] bh λ a2 bi=>
 ∃ ae,(a2=.returned (.int .u64 ae))/\
 ∃ (y:Int->World->Prop) (F:Int->World->Nat),(y 0 bi)/\∀ (bn:Env) (f:Int) (x:World),y f x->
 Br (decide (f<ae))
 (nC 77 #[.pointer ((some ⟨e,0,none⟩)),.int .u64 1099511627776] x λ a3 bj=>
 ∃ af,(a3=.returned (.int .u64 af))/\
 nC 77 #[.pointer ((some ⟨e,0,none⟩)),.int .u64 1099511627776] bj λ a4 bk=>
 ∃ ag,(a4=.returned (.int .u64 ag))/\
 nC 77 #[.pointer ((some ⟨e,0,none⟩)),.int .u64 1099511627776] bk λ a5 bl=>
 ∃ ah,(a5=.returned (.int .u64 ah))/\
 New (.cells #[nI 0,nI 0,nI 0,.slice none 0 0] 66 (0,0)) (λ c bm=>
 ∃ aq,(St 66 ⟨c,0,none⟩ (.agg #[nI (wI af),nI (wI ag),nI (wI ah),.slice none 0 0]) bm aq)/\
 nC 78 #[.pointer ((some ⟨e,0,none⟩)),nI 65536] aq λ a6 bb=>
 ∃ p:Sl,(a6=.returned (p.v))/\
 ∃ ar,(St 47 ⟨c,0 + 3,none⟩ (p.v) bb ar)/\
 ∃ (G:Int->World->Prop) (ax:Int->World->Nat),(G 0 ar)/\∀ (bo:Env) (d:Int) (t:World),G d t->
 ∃ C:Sl,(Aw t ⟨b,0 + 1,none⟩ [C.v])/\
 Br (decide (d<(↑C.len:Int)))
 (Drw t λ g E=>
 ∃ r:Sl,(At g ⟨b,0 + 1,none⟩ [r.v])/\
 Rng d r.len (Zc r.a λ O=>
 ∃ ai,(At g (nO (O.add (Zcp d.toNat 4)) 1) [nI ai])/\
 ∃ aj,(At g ⟨c,0 + 1,none⟩ [nI aj])/\
 Br (ai==aj)
 (K (.tuple #[.pointer none,nI 6]) E)
 (∃ s:Sl,(At g ⟨b,0 + 1,none⟩ [s.v])/\
 Rng d s.len (Zc s.a λ ay=>
 ∃ ak,(At g (Addr.add (Addr.add ay (Zcp d.toNat 4)) 0) [nI ak])/\
 ∃ al,(At g ⟨c,0,none⟩ [nI al])/\
 Br (decide (ak >= al))
 (K (.tuple #[.pointer none,nI 6]) E)
 ((G (wI (d + 1)) E)/\ax (wI (d + 1)) E<ax d t)))))
 (Drw t λ q u=>
 ∃ am,(At q ⟨c,0,none⟩ [nI am])/\
 Br (decide (am<1))
 (K (.tuple #[.pointer none,nI 6]) u)
 (∃ an,(At q ⟨c,0,none⟩ [nI an])/\
 ∃ ao,(At q ⟨b,0,none⟩ [nI ao])/\
 Br (decide (an >= ao))
 (K (.tuple #[.pointer none,nI 6]) u)
 (∃ ap,(At q ⟨c,0 + 2,none⟩ [nI ap])/\
 Br (ap==0)
 (∃ D:Sl,(At q ⟨c,0 + 3,none⟩ [D.v])/\
 Br (decide ((↑D.len:Int)>0))
 (K (.tuple #[.pointer none,nI 6]) u)
 (Drw u λ z bc=>
 ∃ i:Sl,(At z ⟨b,0 + 1,none⟩ [i.v])/\
 ∃ Q T U,∃ k:Sl,(At z ⟨c,0,none⟩ [nI Q,nI T,nI U,k.v])/\
 New (.cells #[nI Q,nI T,nI U,k.v] 66 (0,0)) (λ az au=>
 (z au)/\
 ∃ J:World,∃ m:Sl,((Builtin.append_ #[62,62] 62 #[i.v,.slice ((some ⟨az,0,none⟩)) 1 1]).run prog au=.ok (m.v) J)/\
 (z J)/\
 ∃ L,(St 62 ⟨b,0 + 1,none⟩ (m.v) J L)/\
 (y (IntKind.u64.wrap (f + 1)) L)/\F (IntKind.u64.wrap (f + 1)) L<F f x) bc))
 (Drw u λ A be=>
 ∃ j:Sl,(At A ⟨b,0 + 1,none⟩ [j.v])/\
 ∃ V X Y,∃ l:Sl,(At A ⟨c,0,none⟩ [nI V,nI X,nI Y,l.v])/\
 New (.cells #[nI V,nI X,nI Y,l.v] 66 (0,0)) (λ a0 av=>
 (A av)/\
 ∃ M:World,∃ n:Sl,((Builtin.append_ #[62,62] 62 #[j.v,.slice ((some ⟨a0,0,none⟩)) 1 1]).run prog av=.ok (n.v) M)/\
 (A M)/\
 ∃ N,(St 62 ⟨b,0 + 1,none⟩ (n.v) M N)/\
 (y (IntKind.u64.wrap (f + 1)) N)/\F (IntKind.u64.wrap (f + 1)) N<F f x) be))))) bl)
 (nC 78 #[.pointer ((some ⟨e,0,none⟩)),nI 1048576] x λ a7 bf=>
 ∃ o:Sl,(a7=.returned (o.v))/\
 nC 79 #[o.v] bf λ a8 bg=>
 ∃ Z aa,(a8=.returned (.tuple #[.pointer Z,nI aa]))/\
 nC 80 #[.pointer ((some ⟨e,0,none⟩))] bg λ a9 v=>
 ∃ ab,(a9=.returned (.bool ab))/\
 Br (!ab)
 (K (.tuple #[.pointer none,nI 6]) v)
 (Br (aa !=0)
 (K (.tuple #[.pointer none,nI 6]) v)
 (∃ ac,(Aw v ⟨b,0,none⟩ [nI ac])/\
 Br (decide (ac<1))
 (K (.tuple #[.pointer none,nI 6]) v)
 (∃ aw,(St 27 ⟨b,0 + 2,none⟩ (.pointer Z) v aw)/\
 K (.tuple #[.pointer ((some ⟨b,0,none⟩)),nI 0]) aw))))) bd) w
def sk25:Sk:=(.seq .leaf (.seq .leaf (.seq .leaf (.seq .leaf (.seq (.seq .leaf (.block (.loop [7] [(.int .u64)] [2,3,7,8,9,23,24,25,26,27,28,29,30,31,32,33,34,35,36,37,38,39,40,41,42,43,44,45,46,47,48,49,50,51,52,53,54,55,56,57,58,59,60,61,62,63,64,65,66,67,68,69,70,71,72,73,74,75,76,77,78,79,80,81,82,83,84,85,86,87,88,89,90,91,92,93,94,95,96,97,98,99,100,101,102,103,104,105,106] (.seq .leaf (.seq (.block (.seq .leaf (.seq .leaf (.seq (.seq .leaf (.block (.loop [9] [(.int .i64)] [2,3,9,41,42,43,44,45,46,47,48,49,50,51,52,53,54,55,56,57,58,59,60,61,62,63,64,65,66,67,68,69,70,71,72,73] .leaf))) .leaf)))) .leaf))))) .leaf)))))
theorem ZBy (b:Sl) (K:nK) (w : nW) (h:B25 b K w):Zm prog 25 #[b.v] w K:=cq (sk:=sk25) h func25
end
end Go.Proofs.YtlplemdmegpoeaaGreatDoor
