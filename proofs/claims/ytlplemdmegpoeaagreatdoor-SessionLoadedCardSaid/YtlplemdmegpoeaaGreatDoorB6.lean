/- Package queue: Add, Remove, First, All. Condition: a bound on the length. -/
import Derived.Test.YtlplemdmegpoeaaGreatDoorB5
import Derived.Lib.Bytealg
import Derived.Test.YtlplemdmegpoeaaGreatDoorB3
import Derived.SizedLaws
set_option linter.unusedVariables false
set_option linter.unusedSimpArgs false
namespace Go.Proofs.YtlplemdmegpoeaaGreatDoor
section
open Go Go.VC Tryz
open Classical
variable {R:Cx} {Hs Rest:List HP} {w:World}
theorem Zq4 {q:List Wt} (h:QSt q) {i j:Nat} (hij:i<j) (hj:j<q.length):q[i].ahead q[j]=true:=List.pairwise_iff_getElem.1 h i j (by omega) hj hij
theorem Zk8 {s:Sl} {l:List Wt} {x:Wt} (hl:l.length<=1000000000) (hst:QSt l) (hw:Sat R (ZP 5 s wtT (l.map wtV)::Hs) w):
  Zo prog 171 #[.slice s.a s.len s.cap,wtA x,.func (.func 172) #[] #[]] w λ v w'=>(∃ (p:Nat) (b:Bool),v=.tuple #[.int .i64 p,.bool b]/\p<=l.length/\(∀ k (h:k<l.length),k<p->l[k].ahead x=true)/\(∀ k (h:k<l.length),p<=k->l[k].ahead x=false))/\Sat R (ZP 5 s wtT (l.map wtV)::Hs) w':=by
 have hlen:=ZP.len hw;rw [List.length_map] at hlen;apply Zyk;refine Zb hw λ b w hw=>?_;have ordC:∀ (y:Wt) w,Sat R (ZP 5 s wtT (l.map wtV)::wtC b x::Hs) w->Zak prog cl (.func (.func 172) #[] #[]) [wtA y,wtA x] w (λ e w'=>e=.returned (.int .i64 (y.ord x))/\Sat R (ZP 5 s wtT (l.map wtV)::wtC b x::Hs) w'):=λ y w hw=>Zak.mk (by kernel_rfl) ((ZiN hw).use λ v w' h=>⟨by rw [h.1],h.2⟩);have hw:Sat R (ZP 5 s wtT (l.map wtV)::wtC b x::Hs) w:=Sat.swap hw;refine ⟨λ i j w=>∃ a b':Nat,i=a/\j=b'/\a<=b'/\b'<=l.length/\(∀ k (h:k<l.length),k<a->l[k].ahead x=true)/\(∀ k (h:k<l.length),b'<=k->l[k].ahead x=false)/\Sat R (ZP 5 s wtT (l.map wtV)::wtC b x::Hs) w,λ i j _=>(j - i).toNat,⟨0,l.length,rfl,by omega,by omega,by omega,λ k _ hk=>by omega,λ k h hk=>by omega,hw⟩,?_⟩;clear hw;rintro _ _ _ w ⟨a,c,rfl,rfl,hac,hc,h1,h2,hw⟩;refine Br.d (λ h=>?_) (λ h=>?_)
 ·refine Zu hw λ w hw=>?_
  rw [Zse (by omega)];have hm:(a + c) / 2<l.length:=by omega
  refine (ZP.reads (S:=Sat R (ZP 5 s wtT (l.map wtV)::wtC b x::Hs)) hw (λ _ h=>h)).rngM (E:=l) (g:=wtV) hm λ ad _ he=>?_;refine ⟨_,_,_,_,_,he.z (by exact ⟨rfl,rfl,rfl,rfl,rfl,trivial⟩),x.id,x.cls,x.many,x.time,x.sc,At.own (λ _ h=>h) (by exact ⟨rfl,rfl,rfl,rfl,rfl,trivial⟩),?_⟩;refine (ordC l[(a + c) / 2] _ hw).mono ?_;clear hw;rintro _ w ⟨rfl,hw⟩;refine ⟨_,rfl,Br.d (λ h3=>?_) (λ h3=>?_)⟩
  ·have ha:=Zrn.1 h3
   rw [show IntKind.i64.wrap ((((a + c) / 2:Nat):Int) + 1)=(((a + c) / 2 + 1:Nat):Int) from Zl (by omega) (by omega)]
   refine ⟨⟨(a + c) / 2 + 1,c,rfl,rfl,by omega,hc,λ k hk hk2=>?_,h2,hw⟩,by dsimp only;omega⟩;by_cases hkm:k=(a + c) / 2
   ·subst hkm;exact ha
   ·exact ZcM (Zq4 hst (show k<(a + c) / 2 by omega) hm) ha
  ·have ha:l[(a + c) / 2].ahead x=false:=by
    rw [<-Bool.not_eq_true];exact λ h=>h3 (Zrn.2 h)
   refine ⟨⟨a,(a + c) / 2,rfl,rfl,by omega,by omega,h1,λ k hk hk2=>?_,hw⟩,by dsimp only;omega⟩;by_cases hkm:k=(a + c) / 2
   ·subst hkm;exact ha
   ·rw [<-Bool.not_eq_true] at ha ⊢
    exact λ h=>ha (ZcM (Zq4 hst (show (a + c) / 2<k by omega) hk) h)
 ·obtain rfl:a=c:=by omega
  have fin:∀ (t:Bool) w,Sat R (ZP 5 s wtT (l.map wtV)::wtC b x::Hs) w->(∃ (p:Nat) (b:Bool),Value.tuple #[.int .i64 a,.bool t]=.tuple #[.int .i64 p,.bool b]/\p<=l.length/\(∀ k (h:k<l.length),k<p->l[k].ahead x=true)/\(∀ k (h:k<l.length),p<=k->l[k].ahead x=false))/\Sat R (ZP 5 s wtT (l.map wtV)::Hs) w:=λ t w hw=>⟨⟨a,t,rfl,hc,h1,h2⟩,hw.cons λ _ h=>h.drop⟩;refine Zu hw λ w hw=>?_;refine Br.d (λ h3=>?_) (λ h3=>fin _ _ hw);have ha:a<l.length:=by omega
  refine (ZP.reads (S:=Sat R (ZP 5 s wtT (l.map wtV)::wtC b x::Hs)) hw (λ _ h=>h)).rngM (E:=l) (g:=wtV) ha λ ad _ he=>?_;refine ⟨_,_,_,_,_,he.z (by exact ⟨rfl,rfl,rfl,rfl,rfl,trivial⟩),x.id,x.cls,x.many,x.time,x.sc,At.own (λ _ h=>h) (by exact ⟨rfl,rfl,rfl,rfl,rfl,trivial⟩),?_⟩;refine (ordC l[a] _ hw).mono ?_;clear hw;rintro _ w ⟨rfl,hw⟩;exact ⟨_,rfl,fin _ _ hw⟩
theorem Zsc {l:List Wt} {id:Int} {k:Nat} (hk:k<l.length) (h1:l[k].id=id) (h2:ZgA id (l.take k)=false):ZgA id l=true/\ZhY id l=l.take k++l.drop (k + 1):=by
 induction l generalizing k with
 |nil=>simp at hk
 |cons w l ih=>
  cases k with
  |zero=>
   have h1:w.id=id:=h1;refine ⟨by simp [ZgA,h1],?_⟩;show (if w.id=id then l else _)=_
   rw [if_pos h1];simp
  |succ k=>
   rw [List.take_succ_cons] at h2;have h3:¬ w.id=id/\ZgA id (l.take k)=false:=by simpa [ZgA] using h2
   obtain ⟨a1,a2⟩:=ih (by simpa using hk) (by simpa using h1) h3.2;refine ⟨by simp only [ZgA,List.any_cons];rw [show l.any _=true from a1];simp,?_⟩
   show (if w.id=id then _ else w::ZhY id l)=_
   rw [if_neg h3.1,a2];simp
theorem Zgy {q:Nat} {l:List Wt} {id:Int} (hl:l.length<=1000000000) (hw:Sat R (ZF q l::Hs) w):
  Zo prog 105 #[.pointer (some ⟨q,0,none⟩),.int .i64 id] w λ v w'=>v=.int .i64 (Zvg l id).2/\Sat R (ZF q (Zvg l id).1::Hs) w':=by
 apply ZyT;refine (Zht hl hw).use ?_;clear hw;rintro _ w ⟨⟨i,rfl,hi⟩,hw⟩;refine ⟨i,rfl,Br.d (λ h=>?_) (λ h=>?_)⟩
 ·rcases hi with ⟨_,h1⟩|⟨k,rfl,_⟩
  ·unfold Zvg
   rw [h1];exact ⟨rfl,hw⟩
  ·omega
 rcases hi with ⟨h1,_⟩|⟨k,rfl,hk,h1,h2⟩
 ·omega
 obtain ⟨a1,a2⟩:=Zsc hk h1 h2;unfold Zvg;rw [a1,if_pos rfl,a2];obtain ⟨s,hw⟩:=Sat.qu.1 hw;refine Zd.mk rfl ⟨s,oA hw,?_⟩;rw [show IntKind.i64.wrap ((k:Int) + 1)=((k + 1:Nat):Int) from Zl (by omega) (by omega)]
 refine (Zlb hl hk hw.swap).use ?_;clear hw;rintro _ w ⟨t,rfl,hw⟩;refine ⟨t,rfl,Zd.mk rfl ?_⟩;refine Za hw.swap (by kernel_rfl) rfl (by simp [Value.cells]) λ w hw=>?_;have hw:=hw.re (pts q (ZaB t));exact ⟨rfl,Sat.qu.2 ⟨t,hw⟩⟩
theorem Zld {q:Nat} {l:List Wt} {x:Wt} (hq:QOk l) (hw:Sat R (ZF q l::Hs) w):
  Zo prog 102 #[.pointer (some ⟨q,0,none⟩),wtA x] w λ v w'=>v=.int .i64 (ZeH l x).2/\Sat R (ZF q (ZeH l x).1::Hs) w':=by
 have hl:l.length<=1000000000:=by have:=hq.len;omega
 apply ZyW;refine Zb hw λ b1 w hw=>?_;have hw:Sat R (wtD b1 x::ZF q l::Hs) w:=hw;refine ⟨x.id,x.cls,x.many,x.time,x.sc,At.own (eqS hw) (by exact ⟨rfl,rfl,rfl,rfl,rfl,trivial⟩),?_⟩;refine Zb hw λ b2 w hw=>?_;refine Za hw (by kernel_rfl) rfl (by simp [Value.cells]) λ w hw=>?_;have hw:=hw.re (wtC b2 x);refine ⟨x.id,x.cls,x.many,x.time,x.sc,At.own (eqS hw) (by exact ⟨rfl,rfl,rfl,rfl,rfl,trivial⟩),?_⟩;refine (Zmt hw).use ?_;clear hw;rintro _ w ⟨rfl,hw⟩;refine ⟨_,rfl,Br.nd (λ h=>?_) (λ hok=>?_)⟩
 ·unfold ZeH
  rw [if_pos h];exact ⟨rfl,hw.drop.drop⟩
 refine ⟨x.id,oA hw,?_⟩;have hw:Sat R (ZF q l::wtC b2 x::wtD b1 x::Hs) w:=hw.arr;refine (Zht hl hw).use ?_;clear hw;rintro _ w ⟨⟨i,rfl,hi⟩,hw⟩;have close:∀ {w l},Sat R (ZF q l::wtC b2 x::wtD b1 x::Hs) w->Sat R (ZF q l::Hs) w:=λ h=>h.cons λ _ h=>h.drop.drop;refine ⟨i,rfl,Br.d (λ h=>?_) (λ h=>?_)⟩
 ·rcases hi with ⟨h1,_⟩|⟨k,rfl,hk,h1,h2⟩
  ·omega
  unfold ZeH;rw [if_neg (λ h=>h hok),if_pos (Zsc hk h1 h2).1];exact ⟨rfl,close hw⟩
 have hno:ZgA x.id l=false:=by
  rcases hi with ⟨_,h1⟩|⟨k,rfl,_⟩
  ·exact h1
  ·omega
 obtain ⟨s,hw⟩:=Sat.qu.1 hw;have hlen:=ZP.len hw.swap;rw [List.length_map] at hlen;refine Zd.mk rfl ⟨s,oA hw,Br.d (λ h3=>?_) (λ h3=>?_)⟩
 ·unfold ZeH
  rw [if_neg (λ h=>h hok),hno,if_neg (by simp),if_pos (by omega)];exact ⟨rfl,close (Sat.qu.2 ⟨s,hw⟩)⟩
 have hadd:ZeH l x=(Zl8 x l,0):=by
  unfold ZeH;rw [if_neg (λ h=>h hok),hno,if_neg (by simp),if_neg (by omega)]
 rw [hadd];refine Zu hw λ w hw=>Zd.mk rfl ?_;refine ⟨s,At.own (λ _ h=>h) (by exact ⟨rfl,trivial⟩),x.id,x.cls,x.many,x.time,x.sc,At.own (λ _ h=>h) (by exact ⟨rfl,rfl,rfl,rfl,rfl,trivial⟩),?_⟩;refine (Zk8 hl hq.st hw.swap).use ?_;clear hw;rintro _ w ⟨⟨p,fb,rfl,hp,h1,h2⟩,hw⟩;refine ⟨_,_,rfl,?_⟩;refine ZA (Sat R [pts q (ZaB s),wtC b2 x,VC.tru]) hw (λ w hw=>?_) λ w hw=>?_
 ·exact (hw.arr (Hs':=pts q (ZaB s)::wtC b2 x::ZP 5 s wtT (l.map wtV)::wtD b1 x::Hs)).cons λ _ h=>h.restTru2
 refine Zd.mk rfl ⟨s,At.own (λ _ h=>h) (by exact ⟨rfl,trivial⟩),x.id,x.cls,x.many,x.time,x.sc,At.own (λ _ h=>h) (by exact ⟨rfl,rfl,rfl,rfl,rfl,trivial⟩),?_⟩;refine Zb hw λ b3 w hw=>?_;have hw:Sat R (wtC b3 x::ZP 5 s wtT (l.map wtV)::pts q (ZaB s)::wtC b2 x::wtD b1 x::Hs) w:=hw;refine ⟨?_,?_⟩
 ·exact (hw.arr (Hs':=pts q (ZaB s)::wtC b2 x::ZP 5 s wtT (l.map wtV)::wtD b1 x::wtC b3 x::Hs)).cons λ _ h=>h.restTru2
 refine (Zla hl hp hw.swap).use ?_;clear hw;rintro _ w ⟨t,rfl,hw⟩;refine ⟨t,rfl,?_,Zd.mk rfl ?_⟩
 ·exact (hw.arr (Hs':=pts q (ZaB s)::wtC b2 x::ZP 5 t wtT ((l.take p++x::l.drop p).map wtV)::wtD b1 x::wtC b3 x::Hs)).cons λ _ h=>h.restTru2
 have hw:Sat R (pts q (ZaB s)::ZP 5 t wtT ((l.take p++x::l.drop p).map wtV)::wtC b2 x::wtD b1 x::wtC b3 x::Hs) w:=hw.arr;refine Za hw (by kernel_rfl) rfl (by simp [Value.cells]) λ w hw=>?_;have hw:=hw.re (pts q (ZaB t));have e:Zl8 x l=l.take p++x::l.drop p:=by
  refine ZwF hq.st ?_ (λ h=>h2 p h (Nat.le_refl _)) hp;by_cases h0:p=0
  ·exact .inl h0
  ·exact .inr ⟨by omega,h1 (p - 1) (by omega) (by omega)⟩
 rw [e];exact ⟨rfl,Sat.qu.2 ⟨t,hw.cons λ _ h=>h.cons λ _ h=>h.drop.drop.drop⟩⟩
end
end Go.Proofs.YtlplemdmegpoeaaGreatDoor
namespace Go.VC
section
variable {R:Cx} {Hs:List HP} {w:World}
theorem ZzU {s:ByteArray} {i:Nat} (h:(s.get! i).toNat<128):Utf8.decode s i=((s.get! i).toNat,1):=by
 unfold Utf8.decode;simp only [Nat.add_zero];rw [if_pos h]
theorem ZzV {s:ByteArray} {i:Nat} (h:¬ (s.get! i).toNat<128):128<=(Utf8.decode s i).1:=by
 unfold Utf8.decode;simp only [Nat.add_zero];rw [if_neg h];have hr:128<=Utf8.runeError:=by decide
 repeat' split
 all_goals first|exact hr|(rename_i h1;simp only [Bool.and_eq_true,decide_eq_true_eq] at h1;dsimp only;omega)|(rename_i h1;dsimp only;omega)
theorem ZsU {s:ByteArray} {i:Nat} (h:i<s.size):((s.get! i).toNat:Int)=(ZY s)[i]'(by rw [Zaj];exact h):=by
 have h2:i<s.data.toList.length:=by simpa using h
 have e:s.get! i=s.data.toList[i]:=by
  show s.data[i]! =_;rw [getElem!_pos s.data i (by simpa using h2)];simp
 rw [e];simp [ZY]
theorem Zo6 {b:Nat} {s:ByteArray} {pos:Nat} {A:Int->Int->World->Prop} {B:World->Prop} (hw:Sat R (pts b (.stringIter s pos)::Hs) w)
  (h1:pos<s.size->∀ w',Sat R (pts b (.stringIter s (pos + (Utf8.decode s pos).2))::Hs) w'->A (pos:Int) ((Utf8.decode s pos).1:Int) w') (h2:¬ pos<s.size->B w):Zu8 (some ⟨b,0,none⟩) A B w:=
 ⟨b,s,pos,rfl,hw.at,λ h=>h1 h _ (hw.setPts (.stringIter s (pos + (Utf8.decode s pos).2))),h2⟩
def Zjl (b:Nat) (w:World):Nat:=match w.heap[b]? with
 |some (.stringIter s pos)=>s.size - pos
 |_=>0
theorem ZfU {b:Nat} {s:ByteArray} {pos:Nat} (hw:Sat R (pts b (.stringIter s pos)::Hs) w):Zjl b w=s.size - pos:=by
 unfold Zjl;rw [hw.at]
end
end Go.VC
namespace Go.Proofs.YtlplemdmegpoeaaGreatDoor
section
open Go Go.VC Tryz
open Classical
variable {R:Cx} {Hs Rest:List HP} {w:World}
theorem Zmu {l:List Wt} {left:List Int} {j:Nat} (hj:j<l.length) (h:(l.take j).any (ZdE left)=false) (hf:ZdE left l[j]=true):ZaE l left=some l[j]:=by
 unfold ZaE;rw [List.find?_eq_some_iff_append];refine ⟨hf,l.take j,l.drop (j + 1),by rw [<-List.drop_eq_getElem_cons hj,List.take_append_drop],λ x hx=>?_⟩;rw [<-Bool.not_eq_true,List.any_eq_true] at h;cases hx2:ZdE left x with
 |false=>rfl
 |true=>exact absurd ⟨x,hx,hx2⟩ h
theorem ZoU {l:List Wt} {left:List Int} (h:l.any (ZdE left)=false):ZaE l left=none:=by
 unfold ZaE;rw [List.find?_eq_none];intro x hx hx2;rw [<-Bool.not_eq_true,List.any_eq_true] at h;exact h ⟨x,hx,hx2⟩
theorem Zsm {left:List Int} {x:Wt} (h:¬ (x.cls<left.length/\x.many<=left.getD x.cls.toNat 0)):ZdE left x=false:=by
 unfold ZdE;rw [<-Bool.not_eq_true,Bool.and_eq_true,decide_eq_true_iff,decide_eq_true_iff];exact h
def Zbb:Wt:=⟨0,0,0,0,0⟩
theorem Zmv {q:Nat} {l:List Wt} {sl:Sl} {left:List Int} (hq:QOk l) (hL:RoI R sl left) (hw:Sat R (ZF q l::Hs) w):
  Zo prog 174 #[.pointer (some ⟨q,0,none⟩),.slice sl.a sl.len sl.cap] w λ v w'=>v=.tuple #[wtA ((ZaE l left).getD Zbb),.bool (ZaE l left).isSome]/\Sat R (ZF q l::Hs) w':=by
 have hl:l.length<=1000000000:=by have:=hq.len;omega
 have hLl:=hL.len;obtain ⟨s,hw⟩:=Sat.qu.1 hw;apply Zyh;refine Zb hw λ b w hw=>?_;have hw:Sat R (ZP 5 s wtT (l.map wtV)::pts q (ZaB s)::wtD b Zbb::Hs) w:=by
  have hw:Sat R (wtD b Zbb::pts q (ZaB s)::ZP 5 s wtT (l.map wtV)::Hs) w:=hw;exact hw.arr
 have hlen:=ZP.len hw;rw [List.length_map] at hlen;refine Zd.mk rfl ⟨s,oA hw,?_⟩;have close:∀ {w x},Sat R (ZP 5 s wtT (l.map wtV)::pts q (ZaB s)::wtD b x::Hs) w->Sat R (ZF q l::Hs) w:=λ {w x} h=>by
  have h:Sat R (pts q (ZaB s)::ZP 5 s wtT (l.map wtV)::wtD b x::Hs) w:=h.swap;exact Sat.qu.2 ⟨s,h.cons λ _ h=>h.cons λ _ h=>h.drop⟩
 refine ⟨λ i w=>∃ j:Nat,i=j/\j<=l.length/\(l.take j).any (ZdE left)=false/\Sat R (ZP 5 s wtT (l.map wtV)::pts q (ZaB s)::wtD b Zbb::Hs) w,λ i _=>l.length - i.toNat,⟨0,rfl,by omega,by simp,hw⟩,?_⟩;clear hw;rintro _ _ w ⟨j,rfl,hj,hn,hw⟩;refine Br.d (λ h=>?_) (λ h=>?_)
 ·have hj2:j<l.length:=by omega
  have hx:=hq.ok l[j] (List.getElem_mem hj2);have next:ZdE left l[j]=false->(l.take (j + 1)).any (ZdE left)=false:=λ h=>by
   rw [List.take_add_one,List.getElem?_eq_getElem hj2,List.any_append,hn];simp [h]
  rw [Zl (x:=(j:Int) + 1) (by omega) (by omega)];refine (ZP.reads hw (eqS hw)).rngM (E:=l) (g:=wtV) hj2 λ a _ he=>?_;refine ⟨_,_,_,_,_,he.z (by exact ⟨rfl,rfl,rfl,rfl,rfl,trivial⟩),?_⟩;refine Zb hw λ b2 w hw=>?_;refine Za hw (by kernel_rfl) rfl (by simp [Value.cells]) λ w hw=>?_;have hw:=hw.re (wtC b2 l[j]);refine Zu hw λ w hw=>?_;refine ⟨l[j].cls,At.own (λ _ h=>h) (by exact ⟨rfl,trivial⟩),Br.d (λ h1=>?_) (λ h1=>⟨⟨j + 1,by omega,by omega,next (Zsm λ h=>h1 (by omega)),hw.drop⟩,by dsimp only;omega⟩)⟩;have hc:l[j].cls=(l[j].cls.toNat:Int):=by have:=hx.2.1.1;omega
  have hc2:l[j].cls.toNat<left.length:=by omega
  refine ⟨l[j].many,At.own (λ _ h=>h) (by exact ⟨rfl,trivial⟩),l[j].cls,At.own (λ _ h=>h) (by exact ⟨rfl,trivial⟩),?_⟩;refine Ro.ix hL (λ _ h=>h) l[j].cls.toNat hc hc2 ?_;refine Br.d (λ h2=>?_) (λ h2=>⟨⟨j + 1,by omega,by omega,next (Zsm λ h=>h2 ?_),hw.drop⟩,by dsimp only;omega⟩)
  ·have hf:ZdE left l[j]=true:=by
    unfold ZdE;rw [Bool.and_eq_true,decide_eq_true_iff,decide_eq_true_iff];refine ⟨by omega,?_⟩;rw [List.getD_eq_getElem?_getD,List.getElem?_eq_getElem hc2];exact h2
   refine ⟨l[j].id,l[j].cls,l[j].many,l[j].time,l[j].sc,At.own (eqS hw) (by exact ⟨rfl,rfl,rfl,rfl,rfl,trivial⟩),?_⟩;have hw:Sat R (wtD b Zbb::wtC b2 l[j]::ZP 5 s wtT (l.map wtV)::pts q (ZaB s)::Hs) w:=hw.arr;refine Za hw (by kernel_rfl) rfl (by simp [Value.cells,wtV]) λ w hw=>?_;have hw:=hw.re (wtD b l[j]);refine ⟨l[j].id,l[j].cls,l[j].many,l[j].time,l[j].sc,At.own (eqS hw) (by exact ⟨rfl,rfl,rfl,rfl,rfl,trivial⟩),?_⟩;have hw:Sat R (wtC b2 l[j]::ZP 5 s wtT (l.map wtV)::pts q (ZaB s)::wtD b l[j]::Hs) w:=hw.arr;rw [Zmu hj2 hn hf];exact ⟨rfl,close hw.drop⟩
  ·have:=h.2
   rwa [List.getD_eq_getElem?_getD,List.getElem?_eq_getElem hc2] at this
 ·rw [List.take_of_length_le (by omega)] at hn
  have hw:Sat R (wtD b Zbb::ZP 5 s wtT (l.map wtV)::pts q (ZaB s)::Hs) w:=hw.arr;refine Za hw (by kernel_rfl) rfl (by simp [Value.cells,wtV]) λ w hw=>?_;have hw:=hw.re (wtD b Zbb);refine ⟨0,0,0,0,0,At.own (eqS hw) (by exact ⟨rfl,rfl,rfl,rfl,rfl,trivial⟩),?_⟩;rw [ZoU hn];have hw:Sat R (ZP 5 s wtT (l.map wtV)::pts q (ZaB s)::wtD b Zbb::Hs) w:=hw.arr;exact ⟨rfl,close hw⟩
theorem elWt:ElN prog 100 100 168 5 40:=⟨underlying100,⟨_,underlying100⟩,by kernel_rfl⟩
theorem Zhu {q:Nat} {l:List Wt} (hl:l.length<=1000000000) (hw:Sat R (ZF q l::Hs) w):
  Zo prog 56 #[.pointer (some ⟨q,0,none⟩)] w λ v w'=>∃ t:Sl,v=.slice t.a t.len t.cap/\Sat R (ZP 5 t 168 (l.map wtV)::ZF q l::Hs) w':=by
 obtain ⟨s,hw⟩:=Sat.qu.1 hw;apply ZAm;refine Zd.mk rfl ⟨s,oA hw,?_⟩;have hlen:=ZP.len hw.swap;rw [List.length_map] at hlen;refine ⟨λ t i w=>∃ j:Nat,i=j/\j<=l.length/\Sat R (ZP 5 t 168 ((l.take j).map wtV)::ZP 5 s wtT (l.map wtV)::pts q (ZaB s)::Hs) w,λ _ i _=>l.length - i.toNat,⟨0,rfl,by omega,ZP.nil hw.swap⟩,?_⟩;clear hw;rintro _ t _ w ⟨j,rfl,hj,hw⟩;refine Br.d (λ h=>?_) (λ h=>?_)
 ·have hj2:j<l.length:=by omega
  have hw2:=hw.swap;refine (ZP.reads hw2 (S:=λ w'=>w'=w) (Hs':=ZP 5 t 168 ((l.take j).map wtV)::pts q (ZaB s)::Hs) (λ w' e=>by rw [e];exact hw2)).rngM (E:=l) (g:=wtV) hj2 λ a _ he=>?_;refine ⟨_,_,_,_,_,he.z (by exact ⟨rfl,rfl,rfl,rfl,rfl,trivial⟩),?_⟩;refine Zb hw λ b2 w hw=>?_;refine Za hw (by kernel_rfl) rfl (by simp [Value.cells]) λ w hw=>?_;have hw:=hw.re (wtC b2 l[j]);refine ⟨l[j].id,l[j].cls,l[j].many,l[j].time,l[j].sc,At.own (eqS hw) (by exact ⟨rfl,rfl,rfl,rfl,rfl,trivial⟩),?_⟩;have hw:=hw.drop;refine ZiJ (x:=wtV l[j]) elWt hw rfl rfl (by rw [List.length_map,List.length_take];omega) (by rw [List.length_map,List.length_take];omega) λ t2 w hw=>⟨?_,?_⟩
  ·refine ⟨j + 1,Zl (by omega) (by omega),by omega,?_⟩
   rw [List.take_add_one,List.getElem?_eq_getElem hj2,List.map_append];exact hw
  ·rw [Zl (x:=(j:Int) + 1) (by omega) (by omega)]
   dsimp only;omega
 ·rw [List.take_of_length_le (by omega)] at hw
  exact ⟨t,rfl,hw.cons λ _ h=>Sat.qu.2 ⟨s,h.swap⟩⟩
end
section
open Go Go.VC Tryz
open Classical
variable {R:Cx} {Hs Rest:List HP} {w:World}
theorem ZwB : (f285.name == "runtime.NumGoroutine") = false := by kernel_rfl
theorem ZwD:f285.body.isNone=true:=by kernel_rfl
theorem ZwA:Extern.findNext f285=none:=by kernel_rfl
theorem ZwC:Extern.find f285=some Extern.BytealgIndexByte.indexByte:=by kernel_rfl
abbrev Ziw:ByteArray:=ByteArray.mk #[65,66,67,68,69,70,71,72,74,75,76,77,78,80,81,82,84,85,86,87,88,89,90,50,51,52,53,54,55,56,57]
theorem ZzL:(List.range 256).all (λ c=>Lib.indexByte Ziw.data.toList c.toUInt8==ZK c && (decide (ZK c<0)||decide (c<=90)))=true:=by kernel_rfl
theorem ZjX {c:Int} (h:0<=c/\c<256):Lib.indexByte Ziw.data.toList c.toNat.toUInt8=ZK c/\(ZK c<0\/c<=90):=by
 have:=List.all_eq_true.1 ZzL c.toNat (List.mem_range.2 (by omega));rw [Bool.and_eq_true,Bool.or_eq_true,decide_eq_true_iff,decide_eq_true_iff,beq_iff_eq,show ((c.toNat:Nat):Int)=c by omega] at this;exact ⟨this.1,this.2.imp id (by omega)⟩
theorem Zhg {c:Int} (h:0<=c/\c<256) (hw:Sat R Hs w):Zo prog 183 #[.string Ziw,.int .u8 c] w λ v w'=>v=.int .i64 (ZK c)/\Sat R Hs w':=by
 apply Zx9;have h1:Zo prog 255 #[.string Ziw,.int .u8 c] w λ v w'=>v=.int .i64 (ZK c)/\Sat R Hs w':=by
  apply Zxw;refine ⟨.int .i64 (ZK c),w,?_,_,rfl,rfl,hw⟩;rw [run_callFunc_extern func285 ZwB ZwD ZwA ZwC,Lib.run_indexByteString,(ZjX h).1];rfl
 refine h1.use ?_;clear hw;rintro _ w ⟨rfl,hw⟩;exact ⟨_,rfl,rfl,hw⟩
abbrev ZcX (b:Nat) (n:Int):HP:=pts b (.cells [.int .i64 n].toArray 3 (0,0))
theorem Zgs (hw:Sat R Hs w):Zo prog 182 #[] w λ v w'=>∃ b1 b2,v=.func (.func 254) #[] #[.pointer (some ⟨b1,0,none⟩),.pointer (some ⟨b2,0,none⟩)]/\Sat R (ZcX b1 0::ZcX b2 2::Hs) w':=by
 apply Zya;refine Zb hw λ b1 w hw=>Zb hw λ b2 w hw=>?_;have hw:Sat R (ZcX b1 0::ZcX b2 0::Hs) w:=Sat.swap hw;refine Za hw (by kernel_rfl) rfl (by simp [Value.cells]) λ w hw=>?_;have hw:=(hw.re (ZcX b1 0)).swap;refine Za hw (by kernel_rfl) rfl (by simp [Value.cells]) λ w hw=>?_;have hw:=(hw.re (ZcX b2 2)).swap;exact ⟨b1,b2,rfl,hw⟩
theorem ZkE {b1 b2:Nat} {s k d:Int} (hs:0<=s/\s<31) (hk:0<=k/\k<=100) (hd:0<=d/\d<31) (hw:Sat R (ZcX b1 s::ZcX b2 k::Hs) w):
  Zo prog 254 #[.int .i64 d,.pointer (some ⟨b1,0,none⟩),.pointer (some ⟨b2,0,none⟩)] w λ v w'=>v=.int .i64 ((s + k * d) % 31)/\Sat R (ZcX b1 ((s + k * d) % 31)::ZcX b2 (k + 1)::Hs) w':=by
 have hkd:0<=k * d/\k * d<=100 * 31:=⟨Int.mul_nonneg hk.1 hd.1,Int.mul_le_mul hk.2 (by omega) hd.1 (by omega)⟩;apply Zxx;refine Zd.mk rfl ⟨s,oA hw,Zd.mk rfl ⟨k,oA hw,?_⟩⟩;rw [Zl (x:=k * d) (by omega) (by omega),Zl (x:=s + k * d) (by omega) (by omega),Int.tmod_eq_emod_of_nonneg (by omega)];refine Za hw (by kernel_rfl) rfl (by simp [Value.cells]) λ w hw=>?_;have hw:=(hw.re (ZcX b1 ((s + k * d) % 31))).swap;refine Zd.mk rfl ⟨k,oA hw,?_⟩;rw [Zl (x:=k + 1) (by omega) (by omega)];refine Za hw (by kernel_rfl) rfl (by simp [Value.cells]) λ w hw=>?_;have hw:=(hw.re (ZcX b2 (k + 1))).swap;exact Zd.mk rfl ⟨_,oA hw,rfl,hw⟩
theorem ZkC {l:List Int} {d:Int} {k:Nat} (hk:l.length=k):(Zdv 2 l % 31 + (2 + (k:Int)) * d) % 31=Zdv 2 (l++[d]) % 31:=by
 rw [Ztz,hk];simp only [Zdv,Int.add_zero];rw [Int.emod_add_emod]
theorem p31 {k:Nat} (h:k<5):(31:Int) ^ k<=923521:=by
 rcases (show k=0\/k=1\/k=2\/k=3\/k=4 by omega) with rfl|rfl|rfl|rfl|rfl<;>simp
theorem Zuh {bs:List Int} (h:∃ c∈bs,ZK c<0):Zb9 bs=(0,6):=by
 unfold Zb9;rw [if_pos (.inr h)]
theorem Zp6 {l:List Int} (h:∀ c∈l,0<=ZK c):∀ d∈l.map ZK,0<=d/\d<31:=by
 intro d hd;obtain ⟨c,hc,rfl⟩:=List.mem_map.1 hd;have h1:=h c hc;have:=Znd c;omega
theorem Zo8 {s:ByteArray} (hw:Sat R Hs w):Zo prog 108 #[.string s] w λ v w'=>v=.tuple #[.int .i64 (Zb9 (ZY s)).1,.int .i64 (Zb9 (ZY s)).2]/\Sat R Hs w':=by
 apply ZyQ
 suffices H:∀ K:Value->World->Prop,(∀ w',Sat R Hs w'->K (.tuple #[.int .i64 (Zb9 (ZY s)).1,.int .i64 (Zb9 (ZY s)).2]) w')->B108 s K w from H _ λ w' h=>⟨rfl,h⟩
 intro K hK;have hbl:=Zaj s;obtain ⟨bs,hbs⟩:∃ bs,bs=ZY s:=⟨_,rfl⟩;rw [<-hbs] at hK hbl;refine Br.ne (λ h=>?_) (λ h=>?_)
 ·have:=hK w hw
  unfold Zb9 at this;rw [if_pos (.inl (by omega))] at this;exact this
 have hsz:s.size=6:=by omega
 have hl6:bs.length=6:=by omega
 refine (Zgs hw).use ?_;clear hw;rintro _ w ⟨b1,b2,rfl,hw⟩;refine ⟨_,rfl,?_⟩;refine Zb hw λ it w hw=>?_;refine ⟨λ n sum w=>∃ k:Nat,k<=6/\(∀ c∈bs.take k,0<=ZK c)/\n=Zuj ((bs.take (min k 5)).map ZK)/\sum=Zdv 2 ((bs.take (min k 5)).map ZK) % 31/\(k=6->(Zdv 2 ((bs.take 5).map ZK) + ZK (bs.getD 5 0)) % 31=0)/\
  Sat R (pts it (.stringIter s k)::ZcX b1 (Zdv 2 ((bs.take (min k 5)).map ZK) % 31)::ZcX b2 (2 + (min k 5:Nat))::Hs) w,λ _ _ w=>Zjl it w,⟨0,by omega,by simp,by simp [Zuj],by simp [Zdv],by omega,by simpa [Zdv] using hw⟩,?_⟩
 clear hw;rintro _ _ _ w ⟨k,hk,hpos,rfl,rfl,hlast,hw⟩;have hm:Zjl it w=6 - k:=by rw [ZfU hw,hsz]
 refine Zo6 hw (λ hlt w hw=>?_) (λ hge=>?_)
 ·rw [hsz] at hlt
  have hkl:k<bs.length:=by omega
  have hxb:0<=bs[k]/\bs[k]<256:=by
   subst hbs;exact ZlW s _ (List.getElem_mem _)
  have hget:((s.get! k).toNat:Int)=bs[k]:=by subst hbs;exact ZsU (by omega)
  have err:∀ {w A},ZK bs[k]<0->Sat R (A::ZcX b1 (Zdv 2 ((bs.take (min k 5)).map ZK) % 31)::ZcX b2 (2 + (min k 5:Nat))::Hs) w->K (.tuple #[.int .i64 0,.int .i64 6]) w:=λ {w A} h hw=>by
   have:=hK w hw.drop.drop.drop;rw [Zuh ⟨_,List.getElem_mem hkl,h⟩] at this;exact this
  by_cases hlo:(s.get! k).toNat<128
  ·rw [ZzU hlo] at hw ⊢
   dsimp only at hw ⊢;rw [hget];rw [show IntKind.u8.wrap bs[k]=bs[k] by rw [IntKind.wrap_u8];omega];refine (Zhg hxb hw).use ?_;clear hw;rintro _ w ⟨rfl,hw⟩;have h90:=(ZjX hxb).2;refine ⟨_,rfl,λ t w=>(t=true↔ZK bs[k]<0)/\Sat R (pts it (.stringIter s (k + 1))::ZcX b1 (Zdv 2 ((bs.take (min k 5)).map ZK) % 31)::ZcX b2 (2 + (min k 5:Nat))::Hs) w,?_,?_⟩
   ·exact Br.d (λ h=>⟨⟨λ _=>h,λ _=>rfl⟩,hw⟩) (λ h=>⟨⟨λ h2=>by have:=of_decide_eq_true h2;omega,λ h2=>absurd h2 h⟩,hw⟩)
   clear hw;rintro _ t w ⟨ht,hw⟩;refine Br.mk (λ h=>err (ht.1 h) hw) (λ h=>?_);have hd0:0<=ZK bs[k]:=by
    rw [<-Bool.not_eq_true] at h;have:¬ ZK bs[k]<0:=λ h2=>h (ht.2 h2);omega
   have hdb:0<=ZK bs[k]/\ZK bs[k]<31:=by have:=Znd bs[k];omega
   have hpos':∀ c∈bs.take (k + 1),0<=ZK c:=λ c hc=>by
    rw [List.take_add_one,List.getElem?_eq_getElem hkl] at hc;rcases List.mem_append.1 hc with hc|hc
    ·exact hpos c hc
    ·simp at hc;rw [hc];exact hd0
   have hsb:0<=Zdv 2 ((bs.take (min k 5)).map ZK) % 31/\Zdv 2 ((bs.take (min k 5)).map ZK) % 31<31:=by omega
   refine Br.d (λ h5=>?_) (λ h5=>?_)
   ·have hk5:k<5:=by omega
    rw [show min k 5=k by omega] at hw hsb ⊢;have htk:(bs.take k).length=k:=by rw [List.length_take];omega
    have hw:Sat R (ZcX b1 (Zdv 2 ((bs.take k).map ZK) % 31)::ZcX b2 (2 + (k:Int))::pts it (.stringIter s (k + 1))::Hs) w:=hw.arr;have hadd:Zak prog cl (.func (.func 254) #[] #[.pointer (some ⟨b1,0,none⟩),.pointer (some ⟨b2,0,none⟩)]) [.int .i64 (ZK bs[k])] w λ e w'=>e=.returned (.int .i64 ((Zdv 2 ((bs.take k).map ZK) % 31 + (2 + (k:Int)) * ZK bs[k]) % 31))/\Sat R (ZcX b1 ((Zdv 2 ((bs.take k).map ZK) % 31 + (2 + (k:Int)) * ZK bs[k]) % 31)::ZcX b2 (2 + (k:Int) + 1)::pts it (.stringIter s (k + 1))::Hs) w':=
     Zak.mk (by kernel_rfl) ((ZkE hsb (by omega) hdb hw).use λ v w' h=>⟨by rw [h.1],h.2⟩)
    refine hadd.mono ?_;clear hw hadd;rintro _ w ⟨rfl,hw⟩;have htk1:(bs.take (k + 1)).map ZK=(bs.take k).map ZK++[ZK bs[k]]:=by
     rw [List.take_add_one,List.getElem?_eq_getElem hkl,List.map_append];rfl
    rw [ZkC (by rw [List.length_map,htk]),<-htk1] at hw ⊢;have hnb:=Zwv (Zp6 hpos);rw [List.length_map,htk] at hnb;have hp31:=p31 hk5;refine ⟨_,rfl,⟨k + 1,by omega,hpos',?_,?_,λ h=>by omega,?_⟩,?_⟩
    ·rw [show min (k + 1) 5=k + 1 by omega,htk1,Zui,Zl (x:=Zuj ((bs.take k).map ZK) * 31) (by omega) (by omega),Zl (by omega) (by omega)]
    ·rw [show min (k + 1) 5=k + 1 by omega]
    ·rw [show min (k + 1) 5=k + 1 by omega,show (2:Int) + ((k + 1:Nat):Int)=2 + (k:Int) + 1 by omega]
     exact hw.arr
    ·have hw:Sat R (pts it (.stringIter s (k + 1))::ZcX b1 (Zdv 2 ((bs.take (k + 1)).map ZK) % 31)::ZcX b2 (2 + (k:Int) + 1)::Hs) w:=hw.arr
     rw [ZfU hw,hsz,hm];omega
   ·have hk5:k=5:=by omega
    subst hk5;rw [show min 5 5=5 from rfl] at hw hsb
    have hx5:bs.getD 5 0=bs[5]:=by rw [List.getD_eq_getElem?_getD,List.getElem?_eq_getElem hkl];rfl
    have e1:(Zdv 2 ((bs.take 5).map ZK) % 31 + ZK bs[5]) % 31=(Zdv 2 ((bs.take 5).map ZK) + ZK (bs.getD 5 0)) % 31:=by rw [hx5];omega
    rw [show min 5 5=5 from rfl,Zl (by omega) (by omega),Int.tmod_eq_emod_of_nonneg (by omega)]
    have hall:¬ ∃ c∈bs,ZK c<0:=by
     rintro ⟨c,hc,h⟩;have:=hpos' c (by rw [List.take_of_length_le (by omega)];exact hc);omega
    refine Br.ne (λ hne=>?_) (λ he=>?_)
    ·have:=hK w hw.drop.drop.drop
     unfold Zb9 at this;rw [if_neg (λ h=>h.elim (λ h=>h hl6) hall),if_pos (by rw [<-e1];exact hne)] at this;exact this
    ·refine ⟨⟨6,by omega,hpos',by rw [show min 6 5=5 from rfl],by rw [show min 6 5=5 from rfl],λ _=>by rw [<-e1];exact he,?_⟩,?_⟩
     ·rw [show min 6 5=5 from rfl]
      exact hw
     ·rw [ZfU hw,hsz,hm]
      omega
  ·have hhi:=ZzV hlo
   obtain ⟨c,hc⟩:∃ c:Int,c=((Utf8.decode s k).1:Int):=⟨_,rfl⟩;rw [<-hc];have hc128:128<=c:=by omega
   have hneg:ZK bs[k]<0:=by
    have:=(ZjX hxb).2;omega
   refine (Zhg (by rw [IntKind.wrap_u8];omega) hw).use ?_;clear hw;rintro _ w ⟨rfl,hw⟩;refine ⟨_,rfl,λ t w=>t=true/\Sat R (pts it (.stringIter s (k + (Utf8.decode s k).2))::ZcX b1 (Zdv 2 ((bs.take (min k 5)).map ZK) % 31)::ZcX b2 (2 + (min k 5:Nat))::Hs) w,?_,?_⟩
   ·exact Br.d (λ _=>⟨rfl,hw⟩) (λ _=>⟨decide_eq_true (by omega),hw⟩)
   clear hw;rintro _ t w ⟨rfl,hw⟩;exact Br.t rfl (err hneg hw)
 ·have hk6:k=6:=by omega
  subst hk6;have hall:¬ ∃ c∈bs,ZK c<0:=by
   rintro ⟨c,hc,h⟩;have:=hpos c (by rw [List.take_of_length_le (by omega)];exact hc);omega
  have:=hK w hw.drop.drop.drop;unfold Zb9 at this;rw [if_neg (λ h=>h.elim (λ h=>h hl6) hall),if_neg (λ h=>h (hlast rfl))] at this;exact this
end
section
open Go Go.VC Tryz
open Classical
variable {R:Cx} {Hs Rest:List HP} {w:World}
abbrev outB (b:Nat) (l:List Int):HP:=pts b (.cells (b8 l).toArray 255 (0,0))
abbrev Zor (b:Nat) (l:List Int):HP:=pts b (.cells (Zg l).toArray 256 (0,0))
def Zy9:Nat->Int->List Int
 |0,_=>[0,0,0,0,0]
 |1,n=>[0,0,0,0,n % 31]
 |2,n=>[0,0,0,n / 31 % 31,n % 31]
 |3,n=>[0,0,n / 961 % 31,n / 31 % 31,n % 31]
 |4,n=>[0,n / 29791 % 31,n / 961 % 31,n / 31 % 31,n % 31]
 |_,n=>ZdI n
def ZvX:Nat->Int->Int
 |0,n=>n
 |1,n=>n / 31
 |2,n=>n / 961
 |3,n=>n / 29791
 |4,n=>n / 923521
 |_,_=>0
theorem ZtJ {n:Int} (h:0<=n/\n<28629151):∀ {k:Nat},k<5->0<=ZvX k n/\ZvX k n<28629151/\ZvX (k + 1) n=ZvX k n / 31/\ZeI (Zg (Zy9 k n)) (0 + (4 - k)) [.int .i64 (ZvX k n % 31)]=Zg (Zy9 (k + 1) n)
 |0,_=>⟨h.1,h.2,rfl,rfl⟩
 |1,_=>⟨by show 0<=n / 31;omega,by show n / 31<_;omega,by show n / 961=n / 31 / 31;omega,rfl⟩
 |2,_=>⟨by show 0<=n / 961;omega,by show n / 961<_;omega,by show n / 29791=n / 961 / 31;omega,rfl⟩
 |3,_=>⟨by show 0<=n / 29791;omega,by show n / 29791<_;omega,by show n / 923521=n / 29791 / 31;omega,rfl⟩
 |4,_=>⟨by show 0<=n / 923521;omega,by show n / 923521<_;omega,by show 0=n / 923521 / 31;omega,rfl⟩
theorem ZtK {n:Int}:∀ {k:Nat},k<=5->(Zy9 k n).length=5
 |0,_=>rfl|1,_=>rfl|2,_=>rfl|3,_=>rfl|4,_=>rfl|5,_=>rfl
def ZnD (n:Int) (k:Nat):List Int:=((ZdI n).take k).map Zhh++List.replicate (6 - k) 0
theorem Zrk {n:Int}:∀ {k:Nat} (hk:k<5),ZeI (b8 (ZnD n k)) (0 + k) [.int .u8 (Zhh ((ZdI n)[k]'hk))]=b8 (ZnD n (k + 1))
 |0,_=>rfl|1,_=>rfl|2,_=>rfl|3,_=>rfl|4,_=>rfl
theorem Zt7 {n:Int}:ZeI (b8 (ZnD n 5)) 5 [.int .u8 (Zhh (Zze n))]=b8 (Zww n):=rfl
theorem ZnC {n:Int}:∀ {k:Nat},k<=5->(b8 (ZnD n k)).length=6
 |0,_=>rfl|1,_=>rfl|2,_=>rfl|3,_=>rfl|4,_=>rfl|5,_=>rfl
theorem Znn {d:Int} (h:0<=d/\d<31):Ziw[d.toNat]? =some (UInt8.ofNat (Zhh d).toNat)/\((UInt8.ofNat (Zhh d).toNat).toNat:Int)=Zhh d:=by
 have:∀ j:Fin 31,Ziw[j.val]? =some (UInt8.ofNat (Zmk.getD j.val 0).toNat)/\((UInt8.ofNat (Zmk.getD j.val 0).toNat).toNat:Int)=Zmk.getD j.val 0:=by decide
 exact this ⟨d.toNat,by omega⟩
set_option maxHeartbeats 1000000 in
theorem Zuf {n:Int} (hn:0<=n/\n<28629151) (hw:Sat R Hs w):Zo prog 121 #[.int .i64 n] w λ v w'=>v=.tuple #[.string (Zzc n),.int .i64 0]/\Sat R Hs w':=by
 apply ZyP;refine ⟨λ w=>Sat R Hs w,Br.d (λ h=>by omega) (λ _=>Br.d (λ h=>by omega) (λ _=>hw)),?_⟩;clear hw;rintro _ w hw;refine Zb hw λ bo w hw=>Zb hw λ bw w hw=>?_;have hw:Sat R (Zor bw (Zy9 0 n)::outB bo (ZnD n 0)::Hs) w:=hw;refine ⟨λ m i w=>∃ k:Nat,k<=5/\m=ZvX k n/\i=4 - (k:Int)/\Sat R (Zor bw (Zy9 k n)::outB bo (ZnD n 0)::Hs) w,λ _ i _=>(i + 1).toNat,⟨0,by omega,rfl,rfl,hw⟩,?_⟩;clear hw;rintro _ _ _ w ⟨k,hk,rfl,rfl,hw⟩;refine Br.d (λ h=>?_) (λ h=>?_)
 ·have hk5:k<5:=by omega
  obtain ⟨s1,s2,s3,s4⟩:=ZtJ hn hk5;rw [Int.tmod_eq_emod_of_nonneg s1,Int.tdiv_eq_ediv_of_nonneg s1,Zl (x:=ZvX k n / 31) (by omega) (by omega),Zl (x:=4 - (k:Int) - 1) (by omega) (by omega)];refine Rng.mk (by omega) (by omega) ?_;rw [Zz,show (4 - (k:Int)).toNat=4 - k by omega];refine Za hw (by kernel_rfl) rfl (by rw [List.length_map,ZtK (by omega)];show 0 + (4 - k) + 1<=5;omega) λ w hw=>?_;have hw:Sat R (Zor bw (Zy9 (k + 1) n)::outB bo (ZnD n 0)::Hs) w:=by
   unfold Zor;rw [<-s4];exact hw
  exact ⟨⟨k + 1,by omega,s3.symm,by omega,hw⟩,by dsimp only;omega⟩
 ·have hk5:k=5:=by omega
  subst hk5;refine (Zgs hw).use ?_;clear hw;rintro _ w ⟨b1,b2,rfl,hw⟩;have hw:Sat R (ZcX b1 0::ZcX b2 2::Zor bw (ZdI n)::outB bo (ZnD n 0)::Hs) w:=hw;have hw:Sat R (Zor bw (ZdI n)::outB bo (ZnD n 0)::ZcX b1 0::ZcX b2 2::Hs) w:=hw.arr;have hw0:Sat R (outB bo (ZnD n 0)::ZcX b1 0::ZcX b2 2::Zor bw (ZdI n)::Hs) w:=hw.arr;refine ⟨_,rfl,Zg (ZdI n),rfl,At.own (eqS hw) (by exact ⟨rfl,rfl,rfl,rfl,rfl,trivial⟩),?_⟩;refine ⟨λ sum i w=>∃ k:Nat,i=k/\k<=5/\sum=Zdv 2 ((ZdI n).take k) % 31/\Sat R (outB bo (ZnD n k)::ZcX b1 (Zdv 2 ((ZdI n).take k) % 31)::ZcX b2 (2 + (k:Int))::Zor bw (ZdI n)::Hs) w,λ _ i _=>(5 - i).toNat,⟨0,rfl,by omega,rfl,hw0⟩,?_⟩;clear hw hw0;rintro _ _ _ w ⟨k,rfl,hk,rfl,hw⟩;refine Br.d (λ h=>?_) (λ h=>?_)
  ·have hk5:k<5:=by omega
   have hkl:k<(ZdI n).length:=hk5;have hd:=Zw1 n _ (List.getElem_mem hkl);obtain ⟨g1,g2⟩:=Znn hd;refine Rng.mk (by omega) (by omega) ⟨(ZdI n)[k],?_,_,hd.1,g1,?_⟩
   ·rw [Int.toNat_natCast,List.getElem?_toArray,List.getElem?_map,List.getElem?_eq_getElem hkl]
    rfl
   refine Rng.mk (by omega) (by omega) ?_;rw [Zz,Int.toNat_natCast,g2];refine Za hw (by kernel_rfl) rfl (by rw [ZnC (by omega)];show 0 + k + 1<=6;omega) λ w hw=>?_;have hw:Sat R (outB bo (ZnD n (k + 1))::ZcX b1 (Zdv 2 ((ZdI n).take k) % 31)::ZcX b2 (2 + (k:Int))::Zor bw (ZdI n)::Hs) w:=by
    unfold outB;rw [<-Zrk (n:=n) hk5];exact hw
   have hsb:0<=Zdv 2 ((ZdI n).take k) % 31/\Zdv 2 ((ZdI n).take k) % 31<31:=by omega
   have hw:Sat R (ZcX b1 (Zdv 2 ((ZdI n).take k) % 31)::ZcX b2 (2 + (k:Int))::outB bo (ZnD n (k + 1))::Zor bw (ZdI n)::Hs) w:=hw.arr;have hadd:Zak prog cl (.func (.func 254) #[] #[.pointer (some ⟨b1,0,none⟩),.pointer (some ⟨b2,0,none⟩)]) [.int .i64 (ZdI n)[k]] w λ e w'=>e=.returned (.int .i64 ((Zdv 2 ((ZdI n).take k) % 31 + (2 + (k:Int)) * (ZdI n)[k]) % 31))/\Sat R (ZcX b1 ((Zdv 2 ((ZdI n).take k) % 31 + (2 + (k:Int)) * (ZdI n)[k]) % 31)::ZcX b2 (2 + (k:Int) + 1)::outB bo (ZnD n (k + 1))::Zor bw (ZdI n)::Hs) w':=
    Zak.mk (by kernel_rfl) ((ZkE hsb (by omega) hd hw).use λ v w' h=>⟨by rw [h.1],h.2⟩)
   refine hadd.mono ?_;clear hw hadd;rintro _ w ⟨rfl,hw⟩;have htk:((ZdI n).take k).length=k:=by rw [List.length_take];omega
   have htk1:(ZdI n).take (k + 1)=(ZdI n).take k++[(ZdI n)[k]]:=by
    rw [List.take_add_one,List.getElem?_eq_getElem hkl];rfl
   rw [ZkC htk,<-htk1] at hw ⊢;rw [Zl (x:=(k:Int) + 1) (by omega) (by omega)];refine ⟨_,rfl,⟨k + 1,by omega,by omega,rfl,?_⟩,by dsimp only;omega⟩;rw [show (2:Int) + ((k + 1:Nat):Int)=2 + (k:Int) + 1 by omega];exact hw.arr
  ·have hk5:k=5:=by omega
   subst hk5;have hcd:=Zxe n;have e:(31 - Zdv 2 ((ZdI n).take 5) % 31).tmod 31=Zze n:=by
    rw [List.take_of_length_le (by exact Nat.le_refl 5),Int.tmod_eq_emod_of_nonneg (by omega)];rfl
   rw [Zl (x:=31 - Zdv 2 ((ZdI n).take 5) % 31) (by omega) (by omega),e];obtain ⟨g1,g2⟩:=Znn hcd;refine ⟨_,hcd.1,g1,?_⟩;rw [Zz,g2];refine Za hw (by kernel_rfl) rfl (by rw [ZnC (by omega)];show 0 + 5 + 1<=6;omega) λ w hw=>?_;have hw:Sat R (outB bo (Zww n)::ZcX b1 (Zdv 2 ((ZdI n).take 5) % 31)::ZcX b2 (2 + ((5:Nat):Int))::Zor bw (ZdI n)::Hs) w:=by
    unfold outB;rw [<-Zt7 (n:=n)];exact hw
   have hw2:Sat R (Own ⟨some ⟨bo,0,none⟩,6,6⟩ 255 (b8 (Zww n))::ZcX b1 (Zdv 2 ((ZdI n).take 5) % 31)::ZcX b2 (2 + ((5:Nat):Int))::Zor bw (ZdI n)::Hs) w:=Zc4 (n:=6) hw;obtain ⟨R1,h1,_,h3,_⟩:=Own.lend hw2 (by rw [List.length_map,ZnN];omega);refine ⟨_,rfl,VC.strOf (Zww n),λ w' e=>?_,?_⟩
   ·rw [show w'=w from e]
    exact ZfJ (s:=⟨some ⟨bo,0,none⟩,6,6⟩) (xs:=Zww n) underlying47 underlying5 underlying9 h3 h1
   ·exact ⟨rfl,hw.drop.drop.drop.drop⟩
end
section
open Go Go.VC Tryz
open Classical
variable {R:Cx} {Hs Rest:List HP} {w:World}
theorem Znl {A C:List HP} {x:HP}:Sat R (ZaI (A++x::C)::Hs) w↔Sat R (x::ZaI (A++C)::Hs) w:=by
 have hp:((A++x::C)++Hs).Perm (x::((A++C)++Hs)):=List.perm_middle.append_right Hs;constructor
 ·intro h
  exact ((Sat.star.1 h).perm hp).cons λ _ h=>Sat.star.2 h
 ·intro h
  have h2:Sat R (x::((A++C)++Hs)) w:=h.cons λ _ h=>Sat.star.1 h;exact Sat.star.2 (h2.perm hp.symm)
theorem Zba {A C:List FE} {f q:Nat} {p:Pl}:Sat R (Zi (A++(f,q,p)::C)::Hs) w↔Sat R (Zf f p.r::ZF q p.q::Zi (A++C)::Hs) w:=by
 unfold Zi;rw [List.map_append,List.map_cons,Znl,List.map_append];exact Sat.star
theorem ZcK {A C:List BE} {a:Nat} {x:Bk}:Sat R (Zk (A++(a,x)::C)::Hs) w↔Sat R (pts a (Zp x)::Zk (A++C)::Hs) w:=by
 unfold Zk;rw [List.map_append,List.map_cons,Znl,List.map_append];exact Iff.rfl
theorem Zj6 {β:Type} {k:Int} {v:β} {a b:List (Int × β)} (h:∀ e∈a,e.1≠k):ZD k (a++(k,v)::b)=some v:=Zj7 (Zd0.2 h) (by simp)
theorem ZuI {β:Type} {k:Int} {v:β} {a b:List (Int × β)} (h:∀ e∈a,e.1≠k):Ze9 k (a++(k,v)::b)=a++b:=Zey (Zd0.2 h) (by simp)
structure Zkw (A C:List FE) (n:Int) (p:Pl):Prop where
 num:p.n=n
 a:∀ e∈A,e.2.2.n≠n
 c:∀ e∈C,e.2.2.n≠n
structure Ztp (A C:List BE) (x:Bk):Prop where
 a:∀ e∈A,e.2.id≠x.id
 c:∀ e∈C,e.2.id≠x.id
theorem ZcZ {b:ZR} {fs:List FE} {xs:List BE} (hl:ZaQ b fs xs) (c:Zav Pl.n b.fl) {n:Int} {p:Pl} (h:b.at n=some p):∃ A f q C,fs=A++(f,q,p)::C/\Zkw A C n p:=by
 have h1:=ZdX h;obtain ⟨⟨f,q,p'⟩,he,hp⟩:=List.mem_map.1 (hl.fl.mem_iff.2 h1.1);dsimp only at hp;subst hp;obtain ⟨A,C,rfl⟩:=List.append_of_mem he;have hnd:((A++(f,q,p')::C).map λ e=>e.2.2).Pairwise λ a b=>a.n≠b.n:=(hl.fl.pairwise_iff (λ h=>Ne.symm h)).2 (Zav.ne c);rw [List.map_append,List.map_cons,List.pairwise_append,List.pairwise_cons] at hnd;refine ⟨A,f,q,C,rfl,h1.2,λ e he2=>?_,λ e he2=>?_⟩
 ·have:=hnd.2.2 e.2.2 (List.mem_map.2 ⟨e,he2,rfl⟩) p' (by simp)
  rw [<-h1.2];exact this
 ·have:=hnd.2.1.1 e.2.2 (List.mem_map.2 ⟨e,he2,rfl⟩)
  rw [<-h1.2];exact this.symm
theorem ZhS {A C:List FE} {f q:Nat} {n:Int} {p:Pl} (h:Zkw A C n p):ZD n ((A++(f,q,p)::C).map flV)=some (.agg #[.pointer (some ⟨f,0,none⟩),.pointer (some ⟨q,0,none⟩)]):=by
 rw [List.map_append,List.map_cons];unfold flV;dsimp only;rw [h.num];exact Zj6 λ e he=>by
  obtain ⟨e',h1,rfl⟩:=List.mem_map.1 he;exact h.a e' h1
theorem ZfL {b:ZR} {fs:List FE} {xs:List BE} (hl:ZaQ b fs xs) (c:Zav Bk.id b.L) {x:Bk} (h:x∈b.L):∃ A a C,xs=A++(a,x)::C/\Ztp A C x:=by
 rw [<-hl.bk] at h;obtain ⟨⟨a,x'⟩,he,hp⟩:=List.mem_map.1 h;dsimp only at hp;subst hp;obtain ⟨A,C,rfl⟩:=List.append_of_mem he;have hnd:((A++(a,x')::C).map λ e=>e.2).Pairwise λ a b=>a.id≠b.id:=by rw [hl.bk];exact Zav.ne c
 rw [List.map_append,List.map_cons,List.pairwise_append,List.pairwise_cons] at hnd;refine ⟨A,a,C,rfl,λ e he2=>?_,λ e he2=>?_⟩
 ·exact hnd.2.2 e.2 (List.mem_map.2 ⟨e,he2,rfl⟩) x' (by simp)
 ·exact (hnd.2.1.1 e.2 (List.mem_map.2 ⟨e,he2,rfl⟩)).symm
theorem ZlZ {A C:List BE} {a:Nat} {x:Bk} (h:Ztp A C x):ZD x.id ((A++(a,x)::C).map bkV)=some (.pointer (some ⟨a,0,none⟩)):=by
 rw [List.map_append,List.map_cons];exact Zj6 λ e he=>by
  obtain ⟨e',h1,rfl⟩:=List.mem_map.1 he;exact h.a e' h1
theorem Zm3 {b:ZR} {fs:List FE} {xs:List BE} (hl:ZaQ b fs xs) {n:Int}:ZD n (xs.map bkV)=none↔b.bk n=none:=by
 unfold ZR.bk;rw [Zd0,ZdY,<-hl.bk];constructor
 ·intro h x hx
  obtain ⟨e,he,rfl⟩:=List.mem_map.1 hx;exact h (bkV e) (List.mem_map.2 ⟨e,he,rfl⟩)
 ·rintro h _ he
  obtain ⟨e,h1,rfl⟩:=List.mem_map.1 he;exact h e.2 (List.mem_map.2 ⟨e,h1,rfl⟩)
theorem Zom {b:ZR} {fs:List FE} {xs:List BE} (hl:ZaQ b fs xs):xs.length=b.L.length:=by
 have:=congrArg List.length hl.bk;rwa [List.length_map] at this
theorem ZaQ.fset {b:ZR} {A C:List FE} {xs:List BE} {f q:Nat} {n:Int} {p:Pl} (hl:ZaQ b (A++(f,q,p)::C) xs) (h:Zkw A C n p) (g:Pl->Pl):((A++(f,q,g p)::C).map λ e=>e.2.2).Perm (ZeK Pl.n n g b.fl):=by
 have h1:=hl.fl.map λ x=>if x.n=n then g x else x
 unfold ZeK;refine List.Perm.trans (List.Perm.of_eq ?_) h1;have key:∀ L:List FE,(∀ e∈L,e.2.2.n≠n)->(L.map λ e=>e.2.2).map (λ x=>if x.n=n then g x else x)=L.map λ e=>e.2.2:=λ L hL=>by
  rw [List.map_map];refine List.map_congr_left λ e he=>?_;show (if e.2.2.n=n then _ else _)=_
  rw [if_neg (hL e he)]
 rw [List.map_append,List.map_cons,List.map_append,List.map_cons,List.map_append,List.map_cons,key A h.a,key C h.c];rw [if_pos h.num]
theorem ZaQ.bset {b:ZR} {A C:List BE} {fs:List FE} {a:Nat} {x:Bk} (hl:ZaQ b fs (A++(a,x)::C)) (c:Zav Bk.id b.L) (g:Bk->Bk):(A++(a,g x)::C).map (λ e=>e.2)=ZeK Bk.id x.id g b.L:=by
 have e:=hl.bk;rw [List.map_append,List.map_cons] at e ⊢;rw [<-e] at c ⊢;exact (Zup rfl c).symm
theorem ZaQ.bdel {b:ZR} {A C:List BE} {fs:List FE} {a:Nat} {x:Bk} (hl:ZaQ b fs (A++(a,x)::C)) (c:Zav Bk.id b.L):(A++C).map (λ e=>e.2)=ZnU Bk.id x.id b.L:=by
 have e:=hl.bk;rw [List.map_append,List.map_cons] at e;rw [List.map_append];rw [<-e] at c ⊢;exact (Zur rfl c).symm
theorem Ze4 {A C:List FE} {f q:Nat} {n:Int} {p p':Pl} (h:p.n=n) (h':p'.n=n):(A++(f,q,p')::C).map flV=(A++(f,q,p)::C).map flV:=by
 rw [List.map_append,List.map_append,List.map_cons,List.map_cons];unfold flV;dsimp only;rw [h,h']
theorem ZsZ {A C:List BE} {a:Nat} {x x':Bk} (h:x'.id=x.id):(A++(a,x')::C).map bkV=(A++(a,x)::C).map bkV:=by
 rw [List.map_append,List.map_append,List.map_cons,List.map_cons];unfold bkV;dsimp only;rw [h]
theorem ZsY {A C:List BE} {a:Nat} {x:Bk} (h:Ztp A C x):Ze9 x.id ((A++(a,x)::C).map bkV)=(A++C).map bkV:=by
 rw [List.map_append,List.map_cons,List.map_append];exact ZuI λ e he=>by
  obtain ⟨e',h1,rfl⟩:=List.mem_map.1 he;exact h.a e' h1
abbrev plC (b:Nat) (v1 v2:Option Addr):HP:=pts b (.cells [.pointer v1,.pointer v2].toArray 97 (0,0))
theorem ZuA {n:Int} {fs:List FE}:∃ v1 v2:Option Addr,(ZD n (fs.map flV)).getD (.agg #[.pointer none,.pointer none])=.agg #[.pointer v1,.pointer v2]:=by
 cases hgm:ZD n (fs.map flV) with
 |none=>exact ⟨none,none,rfl⟩
 |some v=>
  obtain ⟨A,C,e,_⟩:=Zar hgm;have:(n,v)∈fs.map flV:=by rw [e];simp
  obtain ⟨x,_,hx⟩:=List.mem_map.1 this;have hx2:=congrArg Prod.snd hx;exact ⟨_,_,hx2.symm⟩
theorem Zu2 {n:Int} {xs:List BE}:∃ v:Option Addr,(ZD n (xs.map bkV)).getD (.pointer none)=.pointer v:=by
 cases hgm:ZD n (xs.map bkV) with
 |none=>exact ⟨none,rfl⟩
 |some v=>
  obtain ⟨A,C,e,_⟩:=Zar hgm;have:(n,v)∈xs.map bkV:=by rw [e];simp
  obtain ⟨x,_,hx⟩:=List.mem_map.1 this;have hx2:=congrArg Prod.snd hx;exact ⟨_,hx2.symm⟩
theorem Zku {p m1 m2:Nat} {b:ZR} {fs:List FE} {n:Int} (hw:Sat R (pts p (Zh b m1 m2)::MapAt m1 (fs.map flV)::Hs) w):
  ZaV prog 54 #[.pointer (some ⟨p,0,none⟩),.int .i64 n] w
   (λ ch w'=>ch=ZgB 2/\ZD n (fs.map flV)=none/\Sat R (pts p (Zh b m1 m2)::MapAt m1 (fs.map flV)::Hs) w')
   (λ v w'=>(∃ v1 v2,ZD n (fs.map flV)=some (.agg #[.pointer v1,.pointer v2])/\v=.agg #[.pointer v1,.pointer v2])/\Sat R (pts p (Zh b m1 m2)::MapAt m1 (fs.map flV)::Hs) w'):=by
 obtain ⟨v1,v2,hv⟩:=ZuA (n:=n) (fs:=fs);apply ZAo;refine Zb hw λ b4 w hw=>?_;refine Zd.mk rfl ⟨some m1,oA hw,v1,v2,(ZD n (fs.map flV)).isSome,λ w' e=>?_,?_⟩
 ·rw [show w'=w from e]
  have hm:Sat R (MapAt m1 (fs.map flV)::pts p (Zh b m1 m2)::plC b4 none none::Hs) w:=hw.arr;have:=MapAt.look Ztq hm n true;rw [hv] at this;exact this
 refine Zb hw λ b5 w hw=>?_;refine Za hw (by kernel_rfl) rfl (by simp [Value.cells]) λ w hw=>?_;have hw:=hw.re (plC b5 v1 v2);refine ZbH (λ hn=>.inl ⟨rfl,?_⟩) (λ hn=>.inr ⟨_,rfl,rfl,?_,hw.drop.drop⟩)
 ·refine ⟨v1,v2,At.own (eqS hw) (by exact ⟨rfl,rfl,trivial⟩),?_⟩
  have hw:Sat R (plC b4 none none::plC b5 v1 v2::pts p (Zh b m1 m2)::MapAt m1 (fs.map flV)::Hs) w:=hw.swap;refine Za hw (by kernel_rfl) rfl (by simp [Value.cells]) λ w hw=>?_;have hw:=hw.re (plC b4 v1 v2);refine ⟨v1,v2,At.own (eqS hw) (by exact ⟨rfl,rfl,trivial⟩),⟨v1,v2,?_,rfl⟩,hw.drop.drop⟩;obtain ⟨v,hs⟩:=Option.isSome_iff_exists.1 hn;rw [hs] at hv ⊢;exact congrArg some hv
 ·cases hg:ZD n (fs.map flV) with
  |none=>rfl
  |some v=>rw [hg] at hn;cases hn
theorem Zm1 {p m1 m2:Nat} {b:ZR} {xs:List BE} {s:ByteArray} (hw:Sat R (pts p (Zh b m1 m2)::MapAt m2 (xs.map bkV)::Hs) w):
  ZaV prog 43 #[.pointer (some ⟨p,0,none⟩),.string s] w
   (λ ch w'=>(∃ e,ch=ZgB e/\(((Zb9 (ZY s)).2≠0/\e=(Zb9 (ZY s)).2)\/((Zb9 (ZY s)).2=0/\e=2/\ZD (Zb9 (ZY s)).1 (xs.map bkV)=none)))/\Sat R (pts p (Zh b m1 m2)::MapAt m2 (xs.map bkV)::Hs) w')
   (λ v w'=>(∃ v1,(Zb9 (ZY s)).2=0/\ZD (Zb9 (ZY s)).1 (xs.map bkV)=some (.pointer v1)/\v=.pointer v1)/\Sat R (pts p (Zh b m1 m2)::MapAt m2 (xs.map bkV)::Hs) w'):=by
 obtain ⟨v1,hv⟩:=Zu2 (n:=(Zb9 (ZY s)).1) (xs:=xs);apply ZAq;refine (Zo8 hw).use ?_;clear hw;rintro _ w ⟨rfl,hw⟩;refine .inl ⟨_,_,rfl,?_⟩;refine Ze0 (λ h0=>.inl ⟨rfl,?_⟩) (λ h0=>.inr ⟨_,rfl,⟨_,rfl,.inl ⟨h0,rfl⟩⟩,hw⟩);refine Zd.mk rfl ⟨some m2,oA hw,v1,(ZD (Zb9 (ZY s)).1 (xs.map bkV)).isSome,λ w' e=>?_,?_⟩
 ·rw [show w'=w from e]
  have:=MapAt.look Zu7 hw.swap (Zb9 (ZY s)).1 true;rw [hv] at this;exact this
 refine ZbH (λ hn=>.inl ⟨rfl,⟨v1,h0,?_,rfl⟩,hw⟩) (λ hn=>.inr ⟨_,rfl,⟨_,rfl,.inr ⟨h0,rfl,?_⟩⟩,hw⟩)
 ·obtain ⟨v,hs⟩:=Option.isSome_iff_exists.1 hn
  rw [hs] at hv ⊢;exact congrArg some hv
 ·cases hg:ZD (Zb9 (ZY s)).1 (xs.map bkV) with
  |none=>rfl
  |some v=>rw [hg] at hn;cases hn
end
section
open Go Go.VC Tryz
open Classical
variable {R:Cx} {Hs Rest:List HP} {w:World}
set_option maxHeartbeats 1000000 in
theorem Zfa {p m1 m2 a f q:Nat} {b:ZR} {A C:List FE} {x:Bk} {pl:Pl} (hid:0<=x.id/\x.id<28629151) (hm:Zkw A C x.flt pl)
  (hw:Sat R (pts p (Zh b m1 m2)::MapAt m1 ((A++(f,q,pl)::C).map flV)::pts a (Zp x)::Zf f pl.r::Hs) w):
  Zo prog 53 #[.pointer (some ⟨p,0,none⟩),.pointer (some ⟨a,0,none⟩)] w λ v w'=>∃ sl sb:Sl,v=.agg (rpV (Zdw pl x) sl sb).toArray/\
   Sat R (Own sl 3 (Zg (Zr pl.r))::Own sb 9 ((ZaT pl.r x.id).map Value.string)::pts p (Zh b m1 m2)::MapAt m1 ((A++(f,q,pl)::C).map flV)::pts a (Zp x)::Zf f pl.r::Hs) w':=by
 obtain ⟨M,hM⟩:∃ M,M=(A++(f,q,pl)::C).map flV:=⟨_,rfl⟩;have hget:ZD x.flt M=some (.agg #[.pointer (some ⟨f,0,none⟩),.pointer (some ⟨q,0,none⟩)]):=by rw [hM];exact ZhS hm
 rw [<-hM] at hw ⊢;apply ZAp;refine Zb hw λ b4 w hw=>?_;have hw:Sat R (Zq b4::pts p (Zh b m1 m2)::MapAt m1 M::pts a (Zp x)::Zf f pl.r::Hs) w:=hw;refine Zbf hw λ w hw=>?_;refine Zd.mk rfl ⟨some m1,At.own (λ _ h=>h) (by exact ⟨rfl,trivial⟩),Zd.mk rfl ⟨x.flt,At.own (λ _ h=>h) (by exact ⟨rfl,trivial⟩),some ⟨f,0,none⟩,some ⟨q,0,none⟩,λ w' h=>?_,?_⟩⟩
 ·have hm1:Sat R (MapAt m1 M::VC.tru::Zq b4::pts p (Zh b m1 m2)::pts a (Zp x)::Zf f pl.r::Hs) w':=Sat.arr h
  have:=MapAt.look Ztq hm1 x.flt false;rw [hget] at this;exact this
 refine Zb hw λ b5 w hw=>⟨hw.absorb,?_⟩;refine Za hw (by kernel_rfl) rfl (by simp [Value.cells]) λ w hw=>?_;have hw:=hw.re (plC b5 (some ⟨f,0,none⟩) (some ⟨q,0,none⟩));have hw:Sat R (plC b5 (some ⟨f,0,none⟩) (some ⟨q,0,none⟩)::Zq b4::pts p (Zh b m1 m2)::MapAt m1 M::pts a (Zp x)::Zf f pl.r::Hs) w:=hw.cons λ _ h=>h.drop;refine Zd.mk rfl ⟨x.id,oA hw,?_⟩;refine (Zuf hid hw).use ?_;clear hw;rintro _ w ⟨rfl,hw⟩;refine ⟨_,_,rfl,?_⟩;refine ZA (Sat R [pts a (Zp x),plC b5 (some ⟨f,0,none⟩) (some ⟨q,0,none⟩),VC.tru]) hw (λ w hw=>?_) λ w hw=>?_
 ·exact (hw.arr (Hs':=pts a (Zp x)::plC b5 (some ⟨f,0,none⟩) (some ⟨q,0,none⟩)::Zq b4::pts p (Zh b m1 m2)::MapAt m1 M::Zf f pl.r::Hs)).cons λ _ h=>h.restTru2
 refine Zd.mk rfl ⟨x.state,At.own (λ _ h=>h) (by exact ⟨rfl,trivial⟩),Zd.mk rfl ⟨x.flt,At.own (λ _ h=>h) (by exact ⟨rfl,trivial⟩),Zd.mk rfl ⟨x.cls,At.own (λ _ h=>h) (by exact ⟨rfl,trivial⟩),Zd.mk rfl ⟨x.many,At.own (λ _ h=>h) (by exact ⟨rfl,trivial⟩),Zd.mk rfl ⟨x.till,At.own (λ _ h=>h) (by exact ⟨rfl,trivial⟩),some ⟨f,0,none⟩,At.own (λ _ h=>h) (by exact ⟨rfl,trivial⟩),some ⟨f,0,none⟩,At.own (λ _ h=>h) (by exact ⟨rfl,trivial⟩),Zd.mk rfl ⟨x.id,At.own (λ _ h=>h) (by exact ⟨rfl,trivial⟩),?_⟩⟩⟩⟩⟩⟩;have hw:Sat R (Zf f pl.r::pts a (Zp x)::plC b5 (some ⟨f,0,none⟩) (some ⟨q,0,none⟩)::Zq b4::pts p (Zh b m1 m2)::MapAt m1 M::Hs) w:=hw.arr;refine (Zb8 hw).use ?_;clear hw;rintro _ w ⟨sl,rfl,hw⟩;refine ⟨sl,rfl,?_,?_⟩
 ·exact (hw.arr (Hs':=pts a (Zp x)::plC b5 (some ⟨f,0,none⟩) (some ⟨q,0,none⟩)::Own sl 3 (Zg (Zr pl.r))::Zf f pl.r::Zq b4::pts p (Zh b m1 m2)::MapAt m1 M::Hs)).cons λ _ h=>h.restTru2
 have hw:Sat R (Zf f pl.r::pts a (Zp x)::plC b5 (some ⟨f,0,none⟩) (some ⟨q,0,none⟩)::Zq b4::Own sl 3 (Zg (Zr pl.r))::pts p (Zh b m1 m2)::MapAt m1 M::Hs) w:=hw.arr;refine (ZmD hw).use ?_;clear hw;rintro _ w ⟨sb,rfl,hw⟩;refine ⟨sb,rfl,?_,?_⟩
 ·exact (hw.arr (Hs':=pts a (Zp x)::plC b5 (some ⟨f,0,none⟩) (some ⟨q,0,none⟩)::Own sb 9 ((ZaT pl.r x.id).map Value.string)::Zf f pl.r::Zq b4::Own sl 3 (Zg (Zr pl.r))::pts p (Zh b m1 m2)::MapAt m1 M::Hs)).cons λ _ h=>h.restTru2
 have hw:Sat R (Zq b4::plC b5 (some ⟨f,0,none⟩) (some ⟨q,0,none⟩)::Own sl 3 (Zg (Zr pl.r))::Own sb 9 ((ZaT pl.r x.id).map Value.string)::pts p (Zh b m1 m2)::MapAt m1 M::pts a (Zp x)::Zf f pl.r::Hs) w:=hw.arr;refine Za hw (by kernel_rfl) rfl (by simp [Value.cells]) λ w hw=>?_;have hw:=hw.re (rpC b4 (Zdw pl x) sl sb);refine ⟨0,Zzc x.id,x.state,x.flt,x.cls,x.many,x.till,sl,sb,At.own (eqS hw) (by exact ⟨rfl,rfl,rfl,rfl,rfl,rfl,rfl,rfl,rfl,trivial⟩),sl,sb,rfl,hw.drop.drop⟩
end
section
open Go Go.VC Tryz
open Classical
variable {R:Cx} {Hs Rest:List HP} {w:World}
def ZoR (q:Nat) (w:World):Nat:=match w.heap[q]? with
 |some (.cells l _ _)=>(match l[0]? with|some (Value.slice _ n _)=>n|_=>0)
 |_=>0
theorem Znx {q:Nat} {l:List Wt} (hw:Sat R (ZF q l::Hs) w):ZoR q w=l.length:=by
 obtain ⟨s,hw⟩:=Sat.qu.1 hw;have h:=ZP.len hw.swap;rw [List.length_map] at h;unfold ZoR;rw [hw.at];exact h
theorem ZfF {q:Nat} {l:List Wt} {sl:Sl} {left:List Int} (hq:QOk l) (hb:left.length<=9223372036854775807) (hw:Sat R (Own sl 3 (Zg left)::ZF q l::Hs) w):
  Zo prog 174 #[.pointer (some ⟨q,0,none⟩),.slice sl.a sl.len sl.cap] w λ v w'=>v=.tuple #[wtA ((ZaE l left).getD Zbb),.bool (ZaE l left).isSome]/\Sat R (ZF q l::Hs) w':=by
 obtain ⟨R1,e1,g1,hw⟩:=Own.leak hw;refine (Zmv hq (g1.ro (by rw [List.length_map];exact hb)) hw).use ?_;clear hw;rintro _ w ⟨rfl,hw⟩;exact ⟨_,rfl,rfl,e1.back hw⟩
abbrev fqC (b f q:Nat):HP:=plC b (some ⟨f,0,none⟩) (some ⟨q,0,none⟩)
structure Zy5 (n:Int) (b:ZR) (A C:List FE) (f q:Nat) (MB:List (Int × Value)) (j:Nat) (b':ZR) (pl:Pl) (xs:List BE):Prop where
 prom:ZW n b=ZjB j n b'
 len:pl.q.length<j
 core:Core b'
 here:b'.at n=some pl
 now:b'.now=b.now
 next:b'.next=b.next
 book:ZaQ b' (A++(f,q,pl)::C) xs
 mb:xs.map bkV=MB
abbrev Zwd (R:Cx) (Hs:List HP) (p m1 m2 f q b4 bw:Nat) (b:ZR) (pl:Pl) (A C:List FE) (MF MB:List (Int × Value)) (xs:List BE) (w:World):Prop:=
 Sat R (Zf f pl.r::ZF q pl.q::pts p (Zh b m1 m2)::MapAt m1 MF::MapAt m2 MB::Zi (A++C)::Zk xs::fqC b4 f q::wtD bw ((ZaE pl.q (Zr pl.r)).getD Zbb)::Hs) w
theorem Zep {r:RF} (g:ZaK r):(Zr r).length<=9223372036854775807:=by have:=(ZgU g).1;omega
set_option maxHeartbeats 2000000 in
theorem ZdU {p m1 m2:Nat} {b:ZR} {fs:List FE} {xs:List BE} {n:Int} {pl:Pl} (k:Core b) (hl:ZaQ b fs xs) (hat:b.at n=some pl)
  (hw:Sat R (pts p (Zh b m1 m2)::MapAt m1 (fs.map flV)::MapAt m2 (xs.map bkV)::Zi fs::Zk xs::Hs) w):
  Zo prog 103 #[.pointer (some ⟨p,0,none⟩),.int .i64 n] w λ v w'=>v=.tuple #[]/\∃ fs' xs',ZaQ (ZW n b) fs' xs'/\fs'.map flV=fs.map flV/\xs'.map bkV=xs.map bkV/\
   Sat R (pts p (Zh (ZW n b) m1 m2)::MapAt m1 (fs.map flV)::MapAt m2 (xs.map bkV)::Zi fs'::Zk xs'::Hs) w':=by
 obtain ⟨A,f,q,C,rfl,hm⟩:=ZcZ hl k.nums hat;obtain ⟨MF,hMF⟩:∃ M,M=(A++(f,q,pl)::C).map flV:=⟨_,rfl⟩;obtain ⟨MB,hMB⟩:∃ M,M=xs.map bkV:=⟨_,rfl⟩;have hget:ZD n MF=some (.agg #[.pointer (some ⟨f,0,none⟩),.pointer (some ⟨q,0,none⟩)]):=by rw [hMF];exact ZhS hm
 rw [<-hMF,<-hMB] at hw ⊢;have hpl:=ZaA hat;apply ZyV;refine Zd.mk rfl ⟨some m1,oA hw,some ⟨f,0,none⟩,some ⟨q,0,none⟩,λ w' e=>?_,?_⟩
 ·rw [show w'=w from e]
  have:=MapAt.look Ztq hw.swap n false;rw [hget] at this;exact this
 refine Zb hw λ b4 w hw=>?_;refine Za hw (by kernel_rfl) rfl (by simp [Value.cells]) λ w hw=>?_;have hw:=hw.re (fqC b4 f q);have hw:Sat R (Zi (A++(f,q,pl)::C)::pts p (Zh b m1 m2)::MapAt m1 MF::MapAt m2 MB::Zk xs::fqC b4 f q::Hs) w:=hw.arr;have hw:=Zba.1 hw;have hg:ZaK pl.r:=k.good pl hpl.1;have hqok:QOk pl.q:=k.qok pl hpl.1;have hi0:Zy5 n b A C f q MB 201 b pl xs:=⟨rfl,by have:=hqok.len;omega,k,hat,rfl,rfl,hl,hMB.symm⟩;refine ⟨λ w5 fits w=>∃ bw,w5=some ⟨bw,0,none⟩/\fits=(ZaE pl.q (Zr pl.r)).isSome/\Zwd R Hs p m1 m2 f q b4 bw b pl A C MF MB xs w,?_,?_⟩
 ·refine ZA (Sat R [fqC b4 f q,VC.tru]) hw (λ w hw=>?_) λ w hw=>?_
  ·exact (hw.arr (Hs':=fqC b4 f q::Zf f pl.r::ZF q pl.q::Zi (A++C)::pts p (Zh b m1 m2)::MapAt m1 MF::MapAt m2 MB::Zk xs::Hs)).cons λ _ h=>h.allTru
  refine ⟨some ⟨q,0,none⟩,At.own (λ _ h=>h) (by exact ⟨rfl,trivial⟩),some ⟨f,0,none⟩,At.own (λ _ h=>h) (by exact ⟨rfl,trivial⟩),?_,?_⟩
  ·refine (Zb8 hw).use ?_
   clear hw;rintro _ w ⟨sl,rfl,hw⟩;refine ⟨sl,rfl,?_,?_,?_⟩
   ·exact (hw.arr (Hs':=fqC b4 f q::Own sl 3 (Zg (Zr pl.r))::Zf f pl.r::ZF q pl.q::Zi (A++C)::pts p (Zh b m1 m2)::MapAt m1 MF::MapAt m2 MB::Zk xs::Hs)).cons λ _ h=>h.allTru
   ·have hw:Sat R (Own sl 3 (Zg (Zr pl.r))::ZF q pl.q::Zf f pl.r::Zi (A++C)::pts p (Zh b m1 m2)::MapAt m1 MF::MapAt m2 MB::Zk xs::fqC b4 f q::Hs) w:=hw.arr
    refine (ZfF hqok (Zep hg) hw).use ?_;clear hw;rintro _ w ⟨rfl,hw⟩;refine ⟨_,_,_,_,_,_,rfl,?_,?_⟩
    ·exact (hw.arr (Hs':=fqC b4 f q::Zf f pl.r::ZF q pl.q::Zi (A++C)::pts p (Zh b m1 m2)::MapAt m1 MF::MapAt m2 MB::Zk xs::Hs)).cons λ _ h=>h.allTru
    refine Zb hw λ bw w hw=>?_;have hw:Sat R (wtD bw Zbb::ZF q pl.q::Zf f pl.r::Zi (A++C)::pts p (Zh b m1 m2)::MapAt m1 MF::MapAt m2 MB::Zk xs::fqC b4 f q::Hs) w:=hw;refine ⟨?_,?_⟩
    ·exact (hw.arr (Hs':=fqC b4 f q::wtD bw Zbb::Zf f pl.r::ZF q pl.q::Zi (A++C)::pts p (Zh b m1 m2)::MapAt m1 MF::MapAt m2 MB::Zk xs::Hs)).cons λ _ h=>h.allTru
    refine Za hw (by kernel_rfl) rfl (by simp [Value.cells,wtV]) λ w hw=>?_;have hw:=hw.re (wtD bw ((ZaE pl.q (Zr pl.r)).getD Zbb));exact ⟨bw,rfl,rfl,hw.arr⟩
   ·refine Zb hw λ bw w hw=>?_
    have hw:Sat R (wtD bw Zbb::Own sl 3 (Zg (Zr pl.r))::Zf f pl.r::ZF q pl.q::Zi (A++C)::pts p (Zh b m1 m2)::MapAt m1 MF::MapAt m2 MB::Zk xs::fqC b4 f q::Hs) w:=hw;refine ⟨?_,?_⟩
    ·exact (hw.arr (Hs':=fqC b4 f q::wtD bw Zbb::Own sl 3 (Zg (Zr pl.r))::Zf f pl.r::ZF q pl.q::Zi (A++C)::pts p (Zh b m1 m2)::MapAt m1 MF::MapAt m2 MB::Zk xs::Hs)).cons λ _ h=>h.allTru
    have hw:Sat R (wtD bw Zbb::Own sl 3 (Zg (Zr pl.r))::Zf f pl.r::ZF q pl.q::Zi (A++C)::pts p (Zh b m1 m2)::MapAt m1 MF::MapAt m2 MB::Zk xs::fqC b4 f q::Hs) w:=hw;have hw:Sat R (Own sl 3 (Zg (Zr pl.r))::ZF q pl.q::wtD bw Zbb::Zf f pl.r::Zi (A++C)::pts p (Zh b m1 m2)::MapAt m1 MF::MapAt m2 MB::Zk xs::fqC b4 f q::Hs) w:=hw.arr;refine (ZfF hqok (Zep hg) hw).use ?_;clear hw;rintro _ w ⟨rfl,hw⟩;refine ⟨_,_,_,_,_,_,rfl,?_,?_⟩
    ·exact (hw.arr (Hs':=fqC b4 f q::wtD bw Zbb::Zf f pl.r::ZF q pl.q::Zi (A++C)::pts p (Zh b m1 m2)::MapAt m1 MF::MapAt m2 MB::Zk xs::Hs)).cons λ _ h=>h.allTru
    have hw:Sat R (wtD bw Zbb::ZF q pl.q::Zf f pl.r::Zi (A++C)::pts p (Zh b m1 m2)::MapAt m1 MF::MapAt m2 MB::Zk xs::fqC b4 f q::Hs) w:=hw.arr;refine Za hw (by kernel_rfl) rfl (by simp [Value.cells,wtV]) λ w hw=>?_;have hw:=hw.re (wtD bw ((ZaE pl.q (Zr pl.r)).getD Zbb));exact ⟨bw,rfl,rfl,hw.arr⟩
  ·refine Zb hw λ bw w hw=>?_
   have hw:Sat R (wtD bw Zbb::Zf f pl.r::ZF q pl.q::Zi (A++C)::pts p (Zh b m1 m2)::MapAt m1 MF::MapAt m2 MB::Zk xs::fqC b4 f q::Hs) w:=hw;refine ⟨?_,?_⟩
   ·exact (hw.arr (Hs':=fqC b4 f q::wtD bw Zbb::Zf f pl.r::ZF q pl.q::Zi (A++C)::pts p (Zh b m1 m2)::MapAt m1 MF::MapAt m2 MB::Zk xs::Hs)).cons λ _ h=>h.allTru
   have hw:Sat R (wtD bw Zbb::Zf f pl.r::ZF q pl.q::Zi (A++C)::pts p (Zh b m1 m2)::MapAt m1 MF::MapAt m2 MB::Zk xs::fqC b4 f q::Hs) w:=hw;refine (Zb8 hw.swap).use ?_;clear hw;rintro _ w ⟨sl,rfl,hw⟩;refine ⟨sl,rfl,?_,?_⟩
   ·exact (hw.arr (Hs':=fqC b4 f q::wtD bw Zbb::Own sl 3 (Zg (Zr pl.r))::Zf f pl.r::ZF q pl.q::Zi (A++C)::pts p (Zh b m1 m2)::MapAt m1 MF::MapAt m2 MB::Zk xs::Hs)).cons λ _ h=>h.allTru
   have hw:Sat R (Own sl 3 (Zg (Zr pl.r))::ZF q pl.q::wtD bw Zbb::Zf f pl.r::Zi (A++C)::pts p (Zh b m1 m2)::MapAt m1 MF::MapAt m2 MB::Zk xs::fqC b4 f q::Hs) w:=hw.arr;refine (ZfF hqok (Zep hg) hw).use ?_;clear hw;rintro _ w ⟨rfl,hw⟩;refine ⟨_,_,_,_,_,_,rfl,?_,?_⟩
   ·exact (hw.arr (Hs':=fqC b4 f q::wtD bw Zbb::Zf f pl.r::ZF q pl.q::Zi (A++C)::pts p (Zh b m1 m2)::MapAt m1 MF::MapAt m2 MB::Zk xs::Hs)).cons λ _ h=>h.allTru
   have hw:Sat R (wtD bw Zbb::ZF q pl.q::Zf f pl.r::Zi (A++C)::pts p (Zh b m1 m2)::MapAt m1 MF::MapAt m2 MB::Zk xs::fqC b4 f q::Hs) w:=hw.arr;refine Za hw (by kernel_rfl) rfl (by simp [Value.cells,wtV]) λ w hw=>?_;have hw:=hw.re (wtD bw ((ZaE pl.q (Zr pl.r)).getD Zbb));exact ⟨bw,rfl,rfl,hw.arr⟩
 clear hw;rintro _ _ _ w ⟨bw,rfl,rfl,hw⟩;refine ⟨λ w5 fits w=>∃ j b' pl xs' bw,Zy5 n b A C f q MB j b' pl xs'/\w5=some ⟨bw,0,none⟩/\fits=(ZaE pl.q (Zr pl.r)).isSome/\Zwd R Hs p m1 m2 f q b4 bw b pl A C MF MB xs' w,λ _ _ w=>ZoR q w,⟨201,b,pl,xs,bw,hi0,rfl,rfl,hw⟩,?_⟩;clear hw hi0 hqok hg hpl;rintro _ _ _ w ⟨j,b',pl',xs',bw,hi,rfl,rfl,hw⟩;have hql:ZoR q w=pl'.q.length:=Znx hw.swap;have hpl:=ZaA hi.here;have hg:=hi.core.good pl' hpl.1;have hqok:=hi.core.qok pl' hpl.1;have hm':Zkw A C n pl':=⟨hpl.2,hm.a,hm.c⟩;obtain ⟨j,rfl⟩:∃ i,j=i + 1:=⟨j - 1,by have:=hi.len;omega⟩;have hprom:=hi.prom;unfold ZjB at hprom;rw [hi.here] at hprom;dsimp only at hprom;cases hf:ZaE pl'.q (Zr pl'.r) with
 |none=>
  rw [hf] at hprom;dsimp only at hprom;refine Br.f rfl ⟨rfl,A++(f,q,pl')::C,xs',?_,?_,hi.mb,?_⟩
  ·rw [hprom];exact hi.book
  ·rw [hMF];exact Ze4 hm.num hpl.2
  ·rw [hprom,show Zh b' m1 m2=Zh b m1 m2 by unfold Zh;rw [hi.now,hi.next]]
   have hw:Sat R (Zf f pl'.r::ZF q pl'.q::Zi (A++C)::pts p (Zh b m1 m2)::MapAt m1 MF::MapAt m2 MB::Zk xs'::fqC b4 f q::wtD bw ((ZaE pl'.q (Zr pl'.r)).getD Zbb)::Hs) w:=hw.arr;have hw:=Zba.2 hw;have hw:Sat R (pts p (Zh b m1 m2)::MapAt m1 MF::MapAt m2 MB::Zi (A++(f,q,pl')::C)::Zk xs'::fqC b4 f q::wtD bw ((ZaE pl'.q (Zr pl'.r)).getD Zbb)::Hs) w:=hw.arr;exact hw.cons λ _ h=>h.cons λ _ h=>h.cons λ _ h=>h.cons λ _ h=>h.cons λ _ h=>h.drop.drop
 |some x=>
  rw [hf] at hprom;dsimp only at hprom;obtain ⟨hx,hfit,htk⟩:=Zkb hi.core hpl.1 hf;obtain ⟨y,hyL,hyid,hyf,hys,hyc,hym⟩:=hi.core.waits hpl.1 hx;obtain ⟨A2,a,C2,rfl,hbm⟩:=ZfL hi.book hi.core.ids hyL;have hgetb:ZD x.id MB=some (.pointer (some ⟨a,0,none⟩)):=by rw [<-hi.mb,<-hyid];exact ZlZ hbm
  have hhas:ZgA x.id pl'.q=true:=ZgY.2 ⟨x,hx,rfl⟩;have hrem:Zvg pl'.q x.id=(ZhY x.id pl'.q,0):=by unfold Zvg;rw [if_pos hhas]
  have hdl:=Zoa hhas;have hw:Sat R (Zf f pl'.r::ZF q pl'.q::pts p (Zh b m1 m2)::MapAt m1 MF::MapAt m2 MB::Zi (A++C)::Zk (A2++(a,y)::C2)::fqC b4 f q::wtD bw x::Hs) w:=by
   have:=hw;unfold Zwd at this;rw [hf] at this;exact this
  refine Br.t rfl ⟨some ⟨q,0,none⟩,oA hw,Zd.mk rfl ⟨x.id,oA hw,?_⟩⟩;refine (Zgy (by have:=hqok.len;omega) hw.swap).use ?_;clear hw;rintro _ w ⟨rfl,hw⟩;rw [hrem] at hw ⊢;refine ⟨_,rfl,some ⟨f,0,none⟩,oA hw,Zd.mk rfl ⟨x.id,oA hw,Zd.mk rfl ⟨x.cls,oA hw,Zd.mk rfl ⟨x.many,oA hw,?_⟩⟩⟩⟩;refine (Zls hw.swap).use ?_;clear hw;rintro _ w ⟨rfl,hw⟩;refine ⟨_,rfl,?_⟩;refine Zu hw λ w hw=>Zd.mk rfl ⟨some m2,At.own (λ _ h=>h) (by exact ⟨rfl,trivial⟩),Zd.mk rfl ⟨x.id,At.own (λ _ h=>h) (by exact ⟨rfl,trivial⟩),some ⟨a,0,none⟩,λ w' h=>?_,Zd.mk rfl ?_⟩⟩
  ·have hm1:Sat R (MapAt m2 MB::Zf f (ZN pl'.r x.id x.cls x.many).1::ZF q (ZhY x.id pl'.q)::pts p (Zh b m1 m2)::MapAt m1 MF::Zi (A++C)::Zk (A2++(a,y)::C2)::fqC b4 f q::wtD bw x::Hs) w':=Sat.arr h
   have:=MapAt.look Zu7 hm1 x.id false;rw [hgetb] at this;exact this
  have hw:Sat R (Zk (A2++(a,y)::C2)::Zf f (ZN pl'.r x.id x.cls x.many).1::ZF q (ZhY x.id pl'.q)::pts p (Zh b m1 m2)::MapAt m1 MF::MapAt m2 MB::Zi (A++C)::fqC b4 f q::wtD bw x::Hs) w:=hw.arr;have hw:=ZcK.1 hw;refine Za hw (by kernel_rfl) rfl (by simp [Value.cells]) λ w hw=>?_;have hw:=ZcK.2 (hw.re (pts a (Zp (ZeM y))));refine Zd.mk rfl ⟨x.id,x.cls,x.many,x.time,x.sc,At.own (eqS hw) (by exact ⟨rfl,rfl,rfl,rfl,rfl,trivial⟩),?_⟩;refine Zb hw λ bw2 w hw=>?_;refine Za hw (by kernel_rfl) rfl (by simp [Value.cells]) λ w hw=>?_;have hw:=hw.re (wtD bw2 x);have hcore:Core (ZjN b' n x):=ZlR hi.core hpl.1 hpl.2 hf;have hat2:(ZjN b' n x).at n=some (Zmi x pl'):=ZrC hi.core hi.here;have hpl2:=ZaA hat2;have hi2:Zy5 n b A C f q MB j (ZjN b' n x) (Zmi x pl') (A2++(a,ZeM y)::C2):=
   ⟨hprom,by have:=hi.len;show (ZhY x.id pl'.q).length<j;omega,hcore,hat2,hi.now,hi.next,⟨hi.book.fset hm' (Zmi x),by
    have:=hi.book.bset hi.core.ids ZeM;rw [hyid] at this;exact this⟩,(ZsZ (show (ZeM y).id=y.id from rfl)).trans hi.mb⟩
  obtain ⟨pl2,hpe⟩:∃ pl2,pl2=Zmi x pl':=⟨_,rfl⟩;have hw:Sat R (Zf f pl2.r::ZF q pl2.q::wtD bw2 x::pts p (Zh b m1 m2)::MapAt m1 MF::MapAt m2 MB::Zi (A++C)::Zk (A2++(a,ZeM y)::C2)::fqC b4 f q::wtD bw x::Hs) w:=by
   have hw:Sat R (wtD bw2 x::Zk (A2++(a,ZeM y)::C2)::Zf f pl2.r::ZF q pl2.q::pts p (Zh b m1 m2)::MapAt m1 MF::MapAt m2 MB::Zi (A++C)::fqC b4 f q::wtD bw x::Hs) w:=by
    rw [hpe];exact hw
   exact hw.arr
  have hql2:pl2.q.length + 1=pl'.q.length:=by rw [hpe];exact hdl
  rw [<-hpe] at hi2 hat2 hpl2;have hg2:=hcore.good pl2 hpl2.1;have hqok2:=hcore.qok pl2 hpl2.1;clear hpe;refine ZA (Sat R [fqC b4 f q,VC.tru]) hw (λ w hw=>?_) λ w hw=>?_
  ·exact (hw.arr (Hs':=fqC b4 f q::Zf f pl2.r::ZF q pl2.q::wtD bw2 x::pts p (Zh b m1 m2)::MapAt m1 MF::MapAt m2 MB::Zi (A++C)::Zk (A2++(a,ZeM y)::C2)::wtD bw x::Hs)).cons λ _ h=>h.allTru
  refine ⟨some ⟨q,0,none⟩,At.own (λ _ h=>h) (by exact ⟨rfl,trivial⟩),some ⟨f,0,none⟩,At.own (λ _ h=>h) (by exact ⟨rfl,trivial⟩),?_⟩;refine (Zb8 hw).use ?_;clear hw;rintro _ w ⟨sl,rfl,hw⟩;refine ⟨sl,rfl,?_,?_⟩
  ·exact (hw.arr (Hs':=fqC b4 f q::Own sl 3 (Zg (Zr pl2.r))::Zf f pl2.r::ZF q pl2.q::wtD bw2 x::pts p (Zh b m1 m2)::MapAt m1 MF::MapAt m2 MB::Zi (A++C)::Zk (A2++(a,ZeM y)::C2)::wtD bw x::Hs)).cons λ _ h=>h.allTru
  have hw:Sat R (Own sl 3 (Zg (Zr pl2.r))::ZF q pl2.q::wtD bw2 x::Zf f pl2.r::pts p (Zh b m1 m2)::MapAt m1 MF::MapAt m2 MB::Zi (A++C)::Zk (A2++(a,ZeM y)::C2)::fqC b4 f q::wtD bw x::Hs) w:=hw.arr;refine (ZfF hqok2 (Zep hg2) hw).use ?_;clear hw;rintro _ w ⟨rfl,hw⟩;refine ⟨_,_,_,_,_,_,rfl,?_,?_⟩
  ·exact (hw.arr (Hs':=fqC b4 f q::Zf f pl2.r::ZF q pl2.q::wtD bw2 x::pts p (Zh b m1 m2)::MapAt m1 MF::MapAt m2 MB::Zi (A++C)::Zk (A2++(a,ZeM y)::C2)::wtD bw x::Hs)).cons λ _ h=>h.allTru
  have hw:Sat R (wtD bw2 x::ZF q pl2.q::Zf f pl2.r::pts p (Zh b m1 m2)::MapAt m1 MF::MapAt m2 MB::Zi (A++C)::Zk (A2++(a,ZeM y)::C2)::fqC b4 f q::wtD bw x::Hs) w:=hw.arr;refine Za hw (by kernel_rfl) rfl (by simp [Value.cells,wtV]) λ w hw=>?_;have hw:=hw.re (wtD bw2 ((ZaE pl2.q (Zr pl2.r)).getD Zbb));have hw:Sat R (wtD bw x::Zf f pl2.r::ZF q pl2.q::pts p (Zh b m1 m2)::MapAt m1 MF::MapAt m2 MB::Zi (A++C)::Zk (A2++(a,ZeM y)::C2)::fqC b4 f q::wtD bw2 ((ZaE pl2.q (Zr pl2.r)).getD Zbb)::Hs) w:=hw.arr;have hw:=hw.drop;refine ⟨⟨j,_,pl2,_,bw2,hi2,rfl,rfl,hw⟩,?_⟩;show ZoR q _<ZoR q _;rw [Znx hw.swap,hql];omega
end
section
open Go Go.VC Tryz
open Classical
variable {R:Cx} {Hs Rest:List HP} {w:World}
theorem Zbo {p m1 m2 f q:Nat} {b:ZR} {A C:List FE} {xs:List BE} {pl:Pl} (hl:ZaQ b (A++(f,q,pl)::C) xs) {MF MB:List (Int × Value)} (hF:MF=(A++(f,q,pl)::C).map flV) (hB:MB=xs.map bkV)
  (hw:Sat R (Zf f pl.r::ZF q pl.q::pts p (Zh b m1 m2)::MapAt m1 MF::MapAt m2 MB::Zi (A++C)::Zk xs::Hs) w):Sat R (Zj p b::Hs) w:=by
 subst hF hB;have hw:Sat R (Zf f pl.r::ZF q pl.q::Zi (A++C)::pts p (Zh b m1 m2)::MapAt m1 ((A++(f,q,pl)::C).map flV)::MapAt m2 (xs.map bkV)::Zk xs::Hs) w:=hw.arr;have hw:=Zba.2 hw;have hw:Sat R (pts p (Zh b m1 m2)::MapAt m1 ((A++(f,q,pl)::C).map flV)::MapAt m2 (xs.map bkV)::Zi (A++(f,q,pl)::C)::Zk xs::Hs) w:=hw.arr;exact Sat.book.2 ⟨m1,m2,_,xs,hl,hw⟩
theorem Zka {b:ZR} {fs:List FE} {xs:List BE} (hl:ZaQ b fs xs) (k:Core b) {n:Int} {v:Value} (h:ZD n (fs.map flV)=some v):
  ∃ A f q C pl,fs=A++(f,q,pl)::C/\Zkw A C n pl/\b.at n=some pl/\v=.agg #[.pointer (some ⟨f,0,none⟩),.pointer (some ⟨q,0,none⟩)]:=by
 cases hat:b.at n with
 |none=>rw [(Zgg hl).2 hat] at h;cases h
 |some pl=>
  obtain ⟨A,f,q,C,rfl,hm⟩:=ZcZ hl k.nums hat;rw [ZhS hm] at h;exact ⟨A,f,q,C,pl,rfl,hm,rfl,(Option.some.inj h).symm⟩
theorem Zon {b:ZR} {fs:List FE} {xs:List BE} (hl:ZaQ b fs xs) (k:Core b) (v:Value):Zci b.next v (xs.map bkV)=xs.map bkV++[(b.next,v)]:=by
 have:ZD b.next (xs.map bkV)=none:=by
  rw [Zm3 hl];unfold ZR.bk;rw [ZdY];intro x hx e;have:=(k.each x hx).id.2;omega
 unfold Zci;rw [this];rfl
theorem Zks {xs:List BE} {a:Nat} {x:Bk} (hw:Sat R (pts a (Zp x)::Zk xs::Hs) w):Sat R (Zk (xs++[(a,x)])::Hs) w:=by
 have:Sat R (pts a (Zp x)::Zk (xs++[])::Hs) w:=by rw [List.append_nil];exact hw
 exact ZcK.2 this
set_option maxHeartbeats 2000000 in
theorem Zti {p:Nat} {b:ZR} {c:Cm} {sg sp:Sl} (hk:c.kind=2) (k:Core b) (hr:ZaJ c) (hw:Sat R (Zj p b::Hs) w):
  ZaV prog 40 #[.pointer (some ⟨p,0,none⟩),.agg #[.int .i64 c.kind,.string c.pnr,.int .i64 c.flt,.int .i64 c.cls,.int .i64 c.many,.int .i64 c.time,.float .f64 c.sc,.string c.lab,.int .i64 c.rows,.slice sg.a sg.len sg.cap,.slice sp.a sp.len sp.cap]] w
   (λ ch w'=>∃ e,ch=ZgB e/\Zc8 b c=(b,Zbn e)/\Sat R (Zj p b::Hs) w')
   (λ v w'=>∃ sl sb:Sl,v=.agg (rpV (Zc8 b c).2 sl sb).toArray/\Sat R (Own sl 3 (Zg (Zc8 b c).2.left)::Own sb 9 ((Zc8 b c).2.labs.map Value.string)::Zj p (Zc8 b c).1::Hs) w'):=by
 apply ZvG
 suffices H:∀ (X:List PanicEntry->World->Prop) (K:Value->World->Prop),(∀ e w',Zc8 b c=(b,Zbn e)->Sat R (Zj p b::Hs) w'->X (ZgB e) w')->
   (∀ sl sb w',Sat R (Own sl 3 (Zg (Zc8 b c).2.left)::Own sb 9 ((Zc8 b c).2.labs.map Value.string)::Zj p (Zc8 b c).1::Hs) w'->K (.agg (rpV (Zc8 b c).2 sl sb).toArray) w')->B40 (some ⟨p,0,none⟩) c.kind c.pnr c.flt c.cls c.many c.time c.sc c.lab c.rows sg sp X K w from
  H _ _ (λ e w' h1 h2=>⟨e,rfl,h1,h2⟩) (λ sl sb w' h2=>⟨sl,sb,rfl,h2⟩)
 intro X K hX hK;obtain ⟨m1,m2,fs,xs,hl,hw⟩:=Sat.book.1 hw;have hxl:=Zom hl;refine Zb hw λ b3 w hw=>Zb hw λ b4 w hw=>?_;have hw:Sat R (Zq b4::cmC b3 c sg sp::pts p (Zh b m1 m2)::MapAt m1 (fs.map flV)::MapAt m2 (xs.map bkV)::Zi fs::Zk xs::Hs) w:=hw;refine ⟨c.flt,oA hw,?_⟩;have hw:Sat R (pts p (Zh b m1 m2)::MapAt m1 (fs.map flV)::Zq b4::cmC b3 c sg sp::MapAt m2 (xs.map bkV)::Zi fs::Zk xs::Hs) w:=hw.arr;refine (Zku hw).use ?_ ?_
 rotate_left
 ·clear hw
  rintro _ w ⟨rfl,hno,hw⟩;refine .inr ⟨_,rfl,hX 2 w ?_ ?_⟩
  ·unfold Zc8
   rw [(Zgg hl).1 hno]
  ·have hw:Sat R (Zq b4::cmC b3 c sg sp::pts p (Zh b m1 m2)::MapAt m1 (fs.map flV)::MapAt m2 (xs.map bkV)::Zi fs::Zk xs::Hs) w:=hw.arr
   exact Sat.book.2 ⟨m1,m2,fs,xs,hl,hw.drop.drop⟩
 clear hw;rintro _ w ⟨⟨v1,v2,hgm,rfl⟩,hw⟩;obtain ⟨A,f,q,C,pl,rfl,hm,hat,hv⟩:=Zka hl k hgm;simp only [Value.agg.injEq,Array.mk.injEq,List.cons.injEq,Value.pointer.injEq,and_true] at hv;obtain ⟨rfl,rfl⟩:=hv;obtain ⟨MF,hMF⟩:∃ M,M=(A++(f,q,pl)::C).map flV:=⟨_,rfl⟩;obtain ⟨MB,hMB⟩:∃ M,M=xs.map bkV:=⟨_,rfl⟩;have hMBl:MB.length=b.L.length:=by rw [hMB,List.length_map];exact hxl
 rw [<-hMF,<-hMB] at hw;have hw:Sat R (Zi (A++(f,q,pl)::C)::cmC b3 c sg sp::Zq b4::pts p (Zh b m1 m2)::MapAt m1 MF::MapAt m2 MB::Zk xs::Hs) w:=hw.arr;have hw:=Zba.1 hw;refine .inl ⟨_,_,rfl,?_⟩;refine Zb hw λ b5 w hw=>?_;refine Za hw (by kernel_rfl) rfl (by simp [Value.cells]) λ w hw=>?_;have hw:=hw.re (fqC b5 f q);refine Zbf hw λ w hw=>?_;refine Zd.mk rfl ⟨b.next,At.own (λ _ h=>h) (by exact ⟨rfl,trivial⟩),c.flt,At.own (λ _ h=>h) (by exact ⟨rfl,trivial⟩),c.cls,At.own (λ _ h=>h) (by exact ⟨rfl,trivial⟩),c.many,At.own (λ _ h=>h) (by exact ⟨rfl,trivial⟩),c.time,At.own (λ _ h=>h) (by exact ⟨rfl,trivial⟩),?_⟩;refine Zb hw λ bx w hw=>⟨hw.absorb,?_⟩;have hw:Sat R (pts bx (Zp (Zat b c))::fqC b5 f q::Zf f pl.r::ZF q pl.q::Zi (A++C)::cmC b3 c sg sp::Zq b4::pts p (Zh b m1 m2)::MapAt m1 MF::MapAt m2 MB::Zk xs::Hs) w:=by
  have hw:Sat R (pts bx (Zp (Zat b c))::VC.tru::fqC b5 f q::Zf f pl.r::ZF q pl.q::Zi (A++C)::cmC b3 c sg sp::Zq b4::pts p (Zh b m1 m2)::MapAt m1 MF::MapAt m2 MB::Zk xs::Hs) w:=hw;exact hw.cons λ _ h=>h.drop
 have close:∀ {w},Sat R (pts bx (Zp (Zat b c))::fqC b5 f q::Zf f pl.r::ZF q pl.q::Zi (A++C)::cmC b3 c sg sp::Zq b4::pts p (Zh b m1 m2)::MapAt m1 MF::MapAt m2 MB::Zk xs::Hs) w->Sat R (Zj p b::Hs) w:=λ {w} hw=>by
  have hw:Sat R (pts bx (Zp (Zat b c))::fqC b5 f q::cmC b3 c sg sp::Zq b4::Zf f pl.r::ZF q pl.q::pts p (Zh b m1 m2)::MapAt m1 MF::MapAt m2 MB::Zi (A++C)::Zk xs::Hs) w:=hw.arr;exact Zbo hl hMF hMB hw.drop.drop.drop.drop
 have hheld:∀ {e},Zc8 b c=e↔(if c.time<=b.now then (b,Zbn 1) else if b.full then (b,Zbn 3)
   else if (ZN pl.r b.next c.cls c.many).2≠0 then (b,Zbn (ZN pl.r b.next c.cls c.many).2)
   else ({ b.put c.flt (takeP b.next c.cls c.many) (b.L++[Zat b c]) with next:=b.next + 1 },Zdw (takeP b.next c.cls c.many pl) (Zat b c)))=e:=by
  intro e;unfold Zc8;rw [hat]
 refine ⟨λ w=>¬ c.time<=b.now/\Sat R (pts bx (Zp (Zat b c))::fqC b5 f q::Zf f pl.r::ZF q pl.q::Zi (A++C)::cmC b3 c sg sp::Zq b4::pts p (Zh b m1 m2)::MapAt m1 MF::MapAt m2 MB::Zk xs::Hs) w,?_,?_⟩
 ·refine ⟨c.kind,oA hw,Br.e (λ _=>?_) (λ h=>absurd hk h)⟩
  refine Zu hw λ w hw=>⟨c.time,At.own (λ _ h=>h) (by exact ⟨rfl,trivial⟩),Zd.mk rfl ⟨b.now,At.own (λ _ h=>h) (by exact ⟨rfl,trivial⟩),?_⟩⟩;refine ZbH (λ h=>.inl ⟨rfl,hw,?_,hw⟩) (λ h=>.inr ⟨_,rfl,hX 1 w ?_ (close hw)⟩)
  ·have:=of_decide_eq_true h;omega
  ·have:=of_decide_eq_false h
   exact hheld.2 (by rw [if_pos (by omega)])
 clear hw;rintro _ w ⟨ht,hw⟩;refine ⟨λ w=>¬ b.full/\Sat R (pts bx (Zp (Zat b c))::fqC b5 f q::Zf f pl.r::ZF q pl.q::Zi (A++C)::cmC b3 c sg sp::Zq b4::pts p (Zh b m1 m2)::MapAt m1 MF::MapAt m2 MB::Zk xs::Hs) w,?_,?_⟩
 ·refine Zd.mk rfl ⟨some m2,oA hw,(MB.length:Int),λ w' e=>?_,?_⟩
  ·rw [show w'=w from e]
   have hm1:Sat R (MapAt m2 MB::pts bx (Zp (Zat b c))::fqC b5 f q::Zf f pl.r::ZF q pl.q::Zi (A++C)::cmC b3 c sg sp::Zq b4::pts p (Zh b m1 m2)::MapAt m1 MF::Zk xs::Hs) w:=hw.arr;exact MapAt.len (by kernel_rfl) hm1
  rw [hMBl]
  with_reducible refine Br.d (λ h3=>?_) (λ h3=>?_)
  ·refine Zd.mk rfl ⟨b.next,oA hw,?_⟩
   refine ZbH (λ h=>.inl ⟨rfl,?_,hw⟩) (λ h=>.inr ⟨_,rfl,hX 3 w ?_ (close hw)⟩)
   ·have:=of_decide_eq_true h
    unfold ZR.full;omega
   ·have:=of_decide_eq_false h
    exact hheld.2 (by rw [if_neg ht,if_pos (.inr (by omega))])
  ·exact ZbH (λ h=>by cases h) (λ h=>.inr ⟨_,rfl,hX 3 w (hheld.2 (by rw [if_neg ht,if_pos (.inl (by omega))])) (close hw)⟩)
 clear hw;rintro _ w ⟨hf,hw⟩;have hnext:=k.next;have hf2:b.L.length<300/\b.next<28629151:=by unfold ZR.full at hf;omega
 obtain ⟨r2,hr2⟩:∃ r2,r2=(ZN pl.r b.next c.cls c.many).1:=⟨_,rfl⟩;refine ⟨λ w=>(ZN pl.r b.next c.cls c.many).2=0/\Sat R (pts bx (Zp (Zat b c))::fqC b5 f q::Zf f r2::ZF q pl.q::Zi (A++C)::cmC b3 c sg sp::Zq b4::pts p (Zh b m1 m2)::MapAt m1 MF::MapAt m2 MB::Zk xs::Hs) w,?_,?_⟩
 ·refine ⟨c.kind,oA hw,Br.e (λ _=>?_) (λ h=>absurd hk h)⟩
  refine ZA (Sat R [fqC b5 f q,pts bx (Zp (Zat b c)),VC.tru]) hw (λ w hw=>?_) λ w hw=>?_
  ·exact (hw.arr (Hs':=fqC b5 f q::pts bx (Zp (Zat b c))::Zf f pl.r::ZF q pl.q::Zi (A++C)::cmC b3 c sg sp::Zq b4::pts p (Zh b m1 m2)::MapAt m1 MF::MapAt m2 MB::Zk xs::Hs)).cons λ _ h=>h.restTru2
  refine ⟨some ⟨f,0,none⟩,At.own (λ _ h=>h) (by exact ⟨rfl,trivial⟩),b.next,At.own (λ _ h=>h) (by exact ⟨rfl,trivial⟩),c.cls,At.own (λ _ h=>h) (by exact ⟨rfl,trivial⟩),c.many,At.own (λ _ h=>h) (by exact ⟨rfl,trivial⟩),?_⟩;have hw:Sat R (Zf f pl.r::pts bx (Zp (Zat b c))::fqC b5 f q::ZF q pl.q::Zi (A++C)::cmC b3 c sg sp::Zq b4::pts p (Zh b m1 m2)::MapAt m1 MF::MapAt m2 MB::Zk xs::Hs) w:=hw.arr;refine (Zls hw).use ?_;clear hw;rintro _ w ⟨rfl,hw⟩;refine .inl ⟨_,rfl,?_⟩;refine Ze0 (λ h0=>.inl ⟨rfl,?_,h0,?_⟩) (λ h0=>.inr ⟨_,rfl,hX _ w (hheld.2 (by rw [if_neg ht,if_neg hf,if_pos h0])) ?_⟩)
  ·exact (hw.arr (Hs':=fqC b5 f q::pts bx (Zp (Zat b c))::Zf f (ZN pl.r b.next c.cls c.many).1::ZF q pl.q::Zi (A++C)::cmC b3 c sg sp::Zq b4::pts p (Zh b m1 m2)::MapAt m1 MF::MapAt m2 MB::Zk xs::Hs)).cons λ _ h=>h.restTru2
  ·rw [hr2];exact hw.arr
  ·rw [Zql h0] at hw
   have hw:Sat R (pts bx (Zp (Zat b c))::fqC b5 f q::Zf f pl.r::ZF q pl.q::Zi (A++C)::cmC b3 c sg sp::Zq b4::pts p (Zh b m1 m2)::MapAt m1 MF::MapAt m2 MB::Zk xs::Hs) w:=hw.arr;exact close hw
 clear hw;rintro _ w ⟨h0,hw⟩;have hcore:=Zh2 k hr hat hf h0;have hres:Zc8 b c=({ b.put c.flt (takeP b.next c.cls c.many) (b.L++[Zat b c]) with next:=b.next + 1 },Zdw (takeP b.next c.cls c.many pl) (Zat b c)):=hheld.2 (by rw [if_neg ht,if_neg hf,if_neg (λ h=>h h0)]);obtain ⟨nb,hnb⟩:∃ nb,nb={ b.put c.flt (takeP b.next c.cls c.many) (b.L++[Zat b c]) with next:=b.next + 1 }:=⟨_,rfl⟩;obtain ⟨pl2,hp2⟩:∃ pl2,pl2=takeP b.next c.cls c.many pl:=⟨_,rfl⟩;rw [<-hnb] at hres hcore;rw [<-hp2] at hres;have hn2:pl2.n=c.flt:=by rw [hp2];exact (ZcR (r:=pl.r) (o:=b.next) (c:=c.cls) (m:=c.many)).1.trans hm.num
 have hm2:Zkw A C c.flt pl2:=⟨hn2,hm.a,hm.c⟩;have hMF2:MF=(A++(f,q,pl2)::C).map flV:=by rw [hMF];exact Ze4 hn2 hm.num
 have hl2:ZaQ nb (A++(f,q,pl2)::C) (xs++[(bx,Zat b c)]):=by
  refine ⟨?_,?_⟩
  ·rw [hnb,hp2]
   exact hl.fset hm (takeP b.next c.cls c.many)
  ·rw [hnb,List.map_append,hl.bk]
   rfl
 have hMB2:MB++[(b.next,Value.pointer (some ⟨bx,0,none⟩))]=(xs++[(bx,Zat b c)]).map bkV:=by rw [hMB,List.map_append];rfl
 have hput:Zci b.next (.pointer (some ⟨bx,0,none⟩)) MB=MB++[(b.next,Value.pointer (some ⟨bx,0,none⟩))]:=by rw [hMB];exact Zon hl k _
 have hr22:r2=pl2.r:=by rw [hr2,hp2];rfl
 have hq2:pl.q=pl2.q:=by rw [hp2];rfl
 rw [hr22,hq2] at hw;refine Zu hw λ w hw=>Zd.mk rfl ⟨some m2,At.own (λ _ h=>h) (by exact ⟨rfl,trivial⟩),b.next,At.own (λ _ h=>h) (by exact ⟨rfl,trivial⟩),?_⟩;have hw:Sat R (MapAt m2 MB::pts bx (Zp (Zat b c))::fqC b5 f q::Zf f pl2.r::ZF q pl2.q::Zi (A++C)::cmC b3 c sg sp::Zq b4::pts p (Zh b m1 m2)::MapAt m1 MF::Zk xs::Hs) w:=hw.arr;refine MapAt.put Zu7 hw b.next (.pointer (some ⟨bx,0,none⟩)) λ w hw=>?_;rw [hput] at hw;refine Zd.mk rfl ⟨b.next,oA hw,Zd.mk rfl ?_⟩;have hw:Sat R (pts p (Zh b m1 m2)::MapAt m2 (MB++[(b.next,Value.pointer (some ⟨bx,0,none⟩))])::pts bx (Zp (Zat b c))::fqC b5 f q::Zf f pl2.r::ZF q pl2.q::Zi (A++C)::cmC b3 c sg sp::Zq b4::MapAt m1 MF::Zk xs::Hs) w:=hw.arr;rw [Zl (x:=b.next + 1) (by omega) (by omega)];refine Za hw (by kernel_rfl) rfl (by simp [Value.cells]) λ w hw=>?_;have hw:Sat R (pts p (Zh nb m1 m2)::MapAt m2 (MB++[(b.next,Value.pointer (some ⟨bx,0,none⟩))])::pts bx (Zp (Zat b c))::fqC b5 f q::Zf f pl2.r::ZF q pl2.q::Zi (A++C)::cmC b3 c sg sp::Zq b4::MapAt m1 MF::Zk xs::Hs) w:=by
  rw [hnb];exact hw.re (pts p (Zh { b.put c.flt (takeP b.next c.cls c.many) (b.L++[Zat b c]) with next:=b.next + 1 } m1 m2))
 refine ⟨c.kind,oA hw,Br.e (λ h=>by omega) (λ _=>?_)⟩;have hw:Sat R (pts p (Zh nb m1 m2)::MapAt m1 ((A++(f,q,pl2)::C).map flV)::pts bx (Zp (Zat b c))::Zf f pl2.r::MapAt m2 (MB++[(b.next,Value.pointer (some ⟨bx,0,none⟩))])::fqC b5 f q::ZF q pl2.q::Zi (A++C)::cmC b3 c sg sp::Zq b4::Zk xs::Hs) w:=by
  rw [<-hMF2];exact hw.arr
 refine (Zfa (x:=Zat b c) (by show 0<=b.next/\b.next<28629151;omega) hm2 hw).use ?_;clear hw;rintro _ w ⟨sl,sb,rfl,hw⟩;refine .inl ⟨_,_,_,_,_,_,_,sl,sb,rfl,?_⟩;rw [<-hMF2] at hw;have hw:Sat R (Zq b4::Own sl 3 (Zg (Zr pl2.r))::Own sb 9 ((ZaT pl2.r (Zat b c).id).map Value.string)::pts bx (Zp (Zat b c))::Zk xs::Zf f pl2.r::ZF q pl2.q::pts p (Zh nb m1 m2)::MapAt m1 MF::MapAt m2 (MB++[(b.next,Value.pointer (some ⟨bx,0,none⟩))])::Zi (A++C)::fqC b5 f q::cmC b3 c sg sp::Hs) w:=hw.arr;refine Za hw (by kernel_rfl) rfl (by simp [Value.cells]) λ w hw=>?_;have hw:=hw.re (rpC b4 (Zdw pl2 (Zat b c)) sl sb);refine ⟨_,_,_,_,_,_,_,sl,sb,At.own (eqS hw) (by exact ⟨rfl,rfl,rfl,rfl,rfl,rfl,rfl,rfl,rfl,trivial⟩),?_⟩;have hfin:=hK sl sb w;rw [hres] at hfin;refine hfin ?_;refine hw.drop.cons λ _ hw=>hw.cons λ _ hw=>?_;have hw:=Zks hw;have hw:Sat _ (Zf f pl2.r::ZF q pl2.q::pts p (Zh nb m1 m2)::MapAt m1 MF::MapAt m2 (MB++[(b.next,Value.pointer (some ⟨bx,0,none⟩))])::Zi (A++C)::Zk (xs++[(bx,Zat b c)])::fqC b5 f q::cmC b3 c sg sp::Hs) w:=hw.arr;exact (Zbo hl2 hMF2 hMB2 hw).cons λ _ h=>h.drop.drop
end
section
open Go Go.VC Tryz
open Classical
variable {R:Cx} {Hs Rest:List HP} {w:World}
theorem Zm2 {b:ZR} {fs:List FE} {xs:List BE} (hl:ZaQ b fs xs) (k:Core b) (v:Value):ZD b.next (xs.map bkV++[(b.next,v)])=some v:=by
 refine Zj6 λ e he=>?_;obtain ⟨e',h1,rfl⟩:=List.mem_map.1 he;have:e'.2∈b.L:=by rw [<-hl.bk];exact List.mem_map.2 ⟨e',h1,rfl⟩
 have:=(k.each _ this).id.2;show e'.2.id≠b.next;omega
set_option maxHeartbeats 2000000 in
theorem Zth {p:Nat} {b:ZR} {c:Cm} {sg sp:Sl} (hk:c.kind=7) (k0:Zaw b) (hr:ZaJ c) (hsc:c.sc<18446744073709551616) (hw:Sat R (Zj p b::Hs) w):
  ZaV prog 40 #[.pointer (some ⟨p,0,none⟩),.agg #[.int .i64 c.kind,.string c.pnr,.int .i64 c.flt,.int .i64 c.cls,.int .i64 c.many,.int .i64 c.time,.float .f64 c.sc,.string c.lab,.int .i64 c.rows,.slice sg.a sg.len sg.cap,.slice sp.a sp.len sp.cap]] w
   (λ ch w'=>∃ e,ch=ZgB e/\Zbs b c=(b,Zbn e)/\Sat R (Zj p b::Hs) w')
   (λ v w'=>∃ sl sb:Sl,v=.agg (rpV (Zbs b c).2 sl sb).toArray/\Sat R (Own sl 3 (Zg (Zbs b c).2.left)::Own sb 9 ((Zbs b c).2.labs.map Value.string)::Zj p (Zbs b c).1::Hs) w'):=by
 apply ZvG
 suffices H:∀ (X:List PanicEntry->World->Prop) (K:Value->World->Prop),(∀ e w',Zbs b c=(b,Zbn e)->Sat R (Zj p b::Hs) w'->X (ZgB e) w')->
   (∀ sl sb w',Sat R (Own sl 3 (Zg (Zbs b c).2.left)::Own sb 9 ((Zbs b c).2.labs.map Value.string)::Zj p (Zbs b c).1::Hs) w'->K (.agg (rpV (Zbs b c).2 sl sb).toArray) w')->B40 (some ⟨p,0,none⟩) c.kind c.pnr c.flt c.cls c.many c.time c.sc c.lab c.rows sg sp X K w from
  H _ _ (λ e w' h1 h2=>⟨e,rfl,h1,h2⟩) (λ sl sb w' h2=>⟨sl,sb,rfl,h2⟩)
 intro X K hX hK;have k:=k0.core;obtain ⟨m1,m2,fs,xs,hl,hw⟩:=Sat.book.1 hw;have hxl:=Zom hl;refine Zb hw λ b3 w hw=>Zb hw λ b4 w hw=>?_;have hw:Sat R (Zq b4::cmC b3 c sg sp::pts p (Zh b m1 m2)::MapAt m1 (fs.map flV)::MapAt m2 (xs.map bkV)::Zi fs::Zk xs::Hs) w:=hw;refine ⟨c.flt,oA hw,?_⟩;have hw:Sat R (pts p (Zh b m1 m2)::MapAt m1 (fs.map flV)::Zq b4::cmC b3 c sg sp::MapAt m2 (xs.map bkV)::Zi fs::Zk xs::Hs) w:=hw.arr;refine (Zku hw).use ?_ ?_
 rotate_left
 ·clear hw
  rintro _ w ⟨rfl,hno,hw⟩;refine .inr ⟨_,rfl,hX 2 w ?_ ?_⟩
  ·unfold Zbs
   rw [(Zgg hl).1 hno]
  ·have hw:Sat R (Zq b4::cmC b3 c sg sp::pts p (Zh b m1 m2)::MapAt m1 (fs.map flV)::MapAt m2 (xs.map bkV)::Zi fs::Zk xs::Hs) w:=hw.arr
   exact Sat.book.2 ⟨m1,m2,fs,xs,hl,hw.drop.drop⟩
 clear hw;rintro _ w ⟨⟨v1,v2,hgm,rfl⟩,hw⟩;obtain ⟨A,f,q,C,pl,rfl,hm,hat,hv⟩:=Zka hl k hgm;simp only [Value.agg.injEq,Array.mk.injEq,List.cons.injEq,Value.pointer.injEq,and_true] at hv;obtain ⟨rfl,rfl⟩:=hv;obtain ⟨MF,hMF⟩:∃ M,M=(A++(f,q,pl)::C).map flV:=⟨_,rfl⟩;obtain ⟨MB,hMB⟩:∃ M,M=xs.map bkV:=⟨_,rfl⟩;have hMBl:MB.length=b.L.length:=by rw [hMB,List.length_map];exact hxl
 rw [<-hMF,<-hMB] at hw;have hw:Sat R (Zi (A++(f,q,pl)::C)::cmC b3 c sg sp::Zq b4::pts p (Zh b m1 m2)::MapAt m1 MF::MapAt m2 MB::Zk xs::Hs) w:=hw.arr;have hw:=Zba.1 hw;refine .inl ⟨_,_,rfl,?_⟩;refine Zb hw λ b5 w hw=>?_;refine Za hw (by kernel_rfl) rfl (by simp [Value.cells]) λ w hw=>?_;have hw:=hw.re (fqC b5 f q);refine Zbf hw λ w hw=>?_;refine Zd.mk rfl ⟨b.next,At.own (λ _ h=>h) (by exact ⟨rfl,trivial⟩),c.flt,At.own (λ _ h=>h) (by exact ⟨rfl,trivial⟩),c.cls,At.own (λ _ h=>h) (by exact ⟨rfl,trivial⟩),c.many,At.own (λ _ h=>h) (by exact ⟨rfl,trivial⟩),c.time,At.own (λ _ h=>h) (by exact ⟨rfl,trivial⟩),?_⟩;refine Zb hw λ bx w hw=>⟨hw.absorb,?_⟩;have hw:Sat R (pts bx (Zp (Zat b c))::fqC b5 f q::Zf f pl.r::ZF q pl.q::Zi (A++C)::cmC b3 c sg sp::Zq b4::pts p (Zh b m1 m2)::MapAt m1 MF::MapAt m2 MB::Zk xs::Hs) w:=by
  have hw:Sat R (pts bx (Zp (Zat b c))::VC.tru::fqC b5 f q::Zf f pl.r::ZF q pl.q::Zi (A++C)::cmC b3 c sg sp::Zq b4::pts p (Zh b m1 m2)::MapAt m1 MF::MapAt m2 MB::Zk xs::Hs) w:=hw;exact hw.cons λ _ h=>h.drop
 have close:∀ {w},Sat R (pts bx (Zp (Zat b c))::fqC b5 f q::Zf f pl.r::ZF q pl.q::Zi (A++C)::cmC b3 c sg sp::Zq b4::pts p (Zh b m1 m2)::MapAt m1 MF::MapAt m2 MB::Zk xs::Hs) w->Sat R (Zj p b::Hs) w:=λ {w} hw=>by
  have hw:Sat R (pts bx (Zp (Zat b c))::fqC b5 f q::cmC b3 c sg sp::Zq b4::Zf f pl.r::ZF q pl.q::pts p (Zh b m1 m2)::MapAt m1 MF::MapAt m2 MB::Zi (A++C)::Zk xs::Hs) w:=hw.arr;exact Zbo hl hMF hMB hw.drop.drop.drop.drop
 have hwait:∀ {e},Zbs b c=e↔(if (pl.r.lims.length:Int)<=c.cls then (b,Zbn 1) else if b.full then (b,Zbn 3)
   else if (ZeH pl.q (Zc2 b c)).2≠0 then (b,Zbn (ZeH pl.q (Zc2 b c)).2)
   else (ZW c.flt (Zb4 b c),match (ZW c.flt (Zb4 b c)).bk b.next with
    |none=>Zbn 0
    |some x=>Zdx (ZW c.flt (Zb4 b c)) x))=e:=by
  intro e;unfold Zbs;rw [hat];exact Iff.rfl
 have hpl:=ZaA hat;have closeW:∀ {w},Sat R (pts bx (Zp (ZbL b c))::fqC b5 f q::Zf f pl.r::ZF q pl.q::Zi (A++C)::cmC b3 c sg sp::Zq b4::pts p (Zh b m1 m2)::MapAt m1 MF::MapAt m2 MB::Zk xs::Hs) w->Sat R (Zj p b::Hs) w:=λ {w} hw=>by
  have hw:Sat R (pts bx (Zp (ZbL b c))::fqC b5 f q::cmC b3 c sg sp::Zq b4::Zf f pl.r::ZF q pl.q::pts p (Zh b m1 m2)::MapAt m1 MF::MapAt m2 MB::Zi (A++C)::Zk xs::Hs) w:=hw.arr;exact Zbo hl hMF hMB hw.drop.drop.drop.drop
 refine ⟨λ w=>¬ (pl.r.lims.length:Int)<=c.cls/\Sat R (pts bx (Zp (ZbL b c))::fqC b5 f q::Zf f pl.r::ZF q pl.q::Zi (A++C)::cmC b3 c sg sp::Zq b4::pts p (Zh b m1 m2)::MapAt m1 MF::MapAt m2 MB::Zk xs::Hs) w,?_,?_⟩
 ·refine ⟨c.kind,oA hw,Br.e (λ h=>by omega) (λ _=>?_)⟩
  refine ZA (Sat R [cmC b3 c sg sp,fqC b5 f q,VC.tru]) hw (λ w hw=>?_) λ w hw=>?_
  ·exact (hw.arr (Hs':=cmC b3 c sg sp::fqC b5 f q::pts bx (Zp (Zat b c))::Zf f pl.r::ZF q pl.q::Zi (A++C)::Zq b4::pts p (Zh b m1 m2)::MapAt m1 MF::MapAt m2 MB::Zk xs::Hs)).cons λ _ h=>h.restTru2
  refine ⟨c.cls,At.own (λ _ h=>h) (by exact ⟨rfl,trivial⟩),some ⟨f,0,none⟩,At.own (λ _ h=>h) (by exact ⟨rfl,trivial⟩),?_⟩;have hw:Sat R (Zf f pl.r::pts bx (Zp (Zat b c))::fqC b5 f q::ZF q pl.q::Zi (A++C)::cmC b3 c sg sp::Zq b4::pts p (Zh b m1 m2)::MapAt m1 MF::MapAt m2 MB::Zk xs::Hs) w:=hw.arr;refine (Zb8 hw).use ?_;clear hw;rintro _ w ⟨sl,rfl,hw⟩;have hsl:=Own.len hw;rw [List.length_map,ZdW] at hsl;have hw:Sat R (pts bx (Zp (Zat b c))::fqC b5 f q::Zf f pl.r::ZF q pl.q::Zi (A++C)::cmC b3 c sg sp::Zq b4::pts p (Zh b m1 m2)::MapAt m1 MF::MapAt m2 MB::Zk xs::Hs) w:=by
   have hw:=hw.drop;exact hw.arr
  have hS:Sat R [cmC b3 c sg sp,fqC b5 f q,VC.tru] w:=(hw.arr (Hs':=cmC b3 c sg sp::fqC b5 f q::pts bx (Zp (Zat b c))::Zf f pl.r::ZF q pl.q::Zi (A++C)::Zq b4::pts p (Zh b m1 m2)::MapAt m1 MF::MapAt m2 MB::Zk xs::Hs)).cons λ _ h=>h.restTru2;refine .inl ⟨sl,rfl,hS,?_⟩;refine ZbH (λ h=>.inl ⟨rfl,hS,?_⟩) (λ h=>.inr ⟨_,rfl,hX 1 w ?_ (close hw)⟩)
  ·have:=of_decide_eq_true h
   clear hS;refine Za hw (by kernel_rfl) rfl (by simp [Value.cells]) λ w hw=>?_;refine Za hw (by kernel_rfl) rfl (by rw [Zbw];simp [Value.cells]) λ w hw=>?_;have hw:=hw.re (pts bx (Zp (ZbL b c)));exact ⟨by omega,hw⟩
  ·have:=of_decide_eq_false h
   exact hwait.2 (by rw [if_pos (by omega)])
 clear hw;rintro _ w ⟨ht,hw⟩;refine ⟨λ w=>¬ b.full/\Sat R (pts bx (Zp (ZbL b c))::fqC b5 f q::Zf f pl.r::ZF q pl.q::Zi (A++C)::cmC b3 c sg sp::Zq b4::pts p (Zh b m1 m2)::MapAt m1 MF::MapAt m2 MB::Zk xs::Hs) w,?_,?_⟩
 ·refine Zd.mk rfl ⟨some m2,oA hw,(MB.length:Int),λ w' e=>?_,?_⟩
  ·rw [show w'=w from e]
   have hm1:Sat R (MapAt m2 MB::pts bx (Zp (ZbL b c))::fqC b5 f q::Zf f pl.r::ZF q pl.q::Zi (A++C)::cmC b3 c sg sp::Zq b4::pts p (Zh b m1 m2)::MapAt m1 MF::Zk xs::Hs) w:=hw.arr;exact MapAt.len (by kernel_rfl) hm1
  rw [hMBl]
  with_reducible refine Br.d (λ h3=>?_) (λ h3=>?_)
  ·refine Zd.mk rfl ⟨b.next,oA hw,?_⟩
   refine ZbH (λ h=>.inl ⟨rfl,?_,hw⟩) (λ h=>.inr ⟨_,rfl,hX 3 w ?_ (closeW hw)⟩)
   ·have:=of_decide_eq_true h
    unfold ZR.full;omega
   ·have:=of_decide_eq_false h
    exact hwait.2 (by rw [if_neg ht,if_pos (.inr (by omega))])
  ·exact ZbH (λ h=>by cases h) (λ h=>.inr ⟨_,rfl,hX 3 w (hwait.2 (by rw [if_neg ht,if_pos (.inl (by omega))])) (closeW hw)⟩)
 clear hw;rintro _ w ⟨hf,hw⟩;have hnext:=k.next;have hf2:b.L.length<300/\b.next<28629151:=by unfold ZR.full at hf;omega
 have hqok:=k.qok pl hpl.1;obtain ⟨q2,hq2⟩:∃ q2,q2=(ZeH pl.q (Zc2 b c)).1:=⟨_,rfl⟩;refine ⟨λ w=>(ZeH pl.q (Zc2 b c)).2=0/\Sat R (pts bx (Zp (ZbL b c))::fqC b5 f q::Zf f pl.r::ZF q q2::Zi (A++C)::cmC b3 c sg sp::Zq b4::pts p (Zh b m1 m2)::MapAt m1 MF::MapAt m2 MB::Zk xs::Hs) w,?_,?_⟩
 ·refine ⟨c.kind,oA hw,Br.e (λ h=>by omega) (λ _=>?_)⟩
  refine ZA (Sat R [fqC b5 f q,pts bx (Zp (ZbL b c)),pts p (Zh b m1 m2),cmC b3 c sg sp,VC.tru]) hw (λ w hw=>?_) λ w hw=>?_
  ·exact (hw.arr (Hs':=fqC b5 f q::pts bx (Zp (ZbL b c))::pts p (Zh b m1 m2)::cmC b3 c sg sp::Zf f pl.r::ZF q pl.q::Zi (A++C)::Zq b4::MapAt m1 MF::MapAt m2 MB::Zk xs::Hs)).cons λ _ h=>h.cons λ _ h=>h.cons λ _ h=>h.restTru2
  refine ⟨some ⟨q,0,none⟩,At.own (λ _ h=>h) (by exact ⟨rfl,trivial⟩),b.next,At.own (λ _ h=>h) (by exact ⟨rfl,trivial⟩),c.cls,At.own (λ _ h=>h) (by exact ⟨rfl,trivial⟩),c.many,At.own (λ _ h=>h) (by exact ⟨rfl,trivial⟩),Zd.mk rfl ⟨b.now,At.own (λ _ h=>h) (by exact ⟨rfl,trivial⟩),c.sc,At.own (λ _ h=>h) (by exact ⟨rfl,trivial⟩),?_⟩⟩;have hw:Sat R (ZF q pl.q::pts bx (Zp (ZbL b c))::fqC b5 f q::Zf f pl.r::Zi (A++C)::cmC b3 c sg sp::Zq b4::pts p (Zh b m1 m2)::MapAt m1 MF::MapAt m2 MB::Zk xs::Hs) w:=hw.arr;refine (Zld (x:=Zc2 b c) hqok hw).use ?_;clear hw;rintro _ w ⟨rfl,hw⟩;have hS:Sat R [fqC b5 f q,pts bx (Zp (ZbL b c)),pts p (Zh b m1 m2),cmC b3 c sg sp,VC.tru] w:=(hw.arr (Hs':=fqC b5 f q::pts bx (Zp (ZbL b c))::pts p (Zh b m1 m2)::cmC b3 c sg sp::Zf f pl.r::ZF q (ZeH pl.q (Zc2 b c)).1::Zi (A++C)::Zq b4::MapAt m1 MF::MapAt m2 MB::Zk xs::Hs)).cons λ _ h=>h.cons λ _ h=>h.cons λ _ h=>h.restTru2;refine .inl ⟨_,rfl,hS,?_⟩;refine Ze0 (λ h0=>.inl ⟨rfl,hS,h0,?_⟩) (λ h0=>.inr ⟨_,rfl,hX _ w (hwait.2 (by rw [if_neg ht,if_neg hf,if_pos h0])) ?_⟩)
  ·rw [hq2];exact hw.arr
  ·have hno:(ZeH pl.q (Zc2 b c)).1=pl.q:=by
    unfold ZeH at h0 ⊢;split at h0<;>rename_i h1
    ·rw [if_pos h1]
    ·rw [if_neg h1]
     split at h0<;>rename_i h2
     ·rw [if_pos h2]
     ·rw [if_neg h2]
      split at h0<;>rename_i h3
      ·rw [if_pos h3]
      ·exact absurd rfl h0
   rw [hno] at hw;have hw:Sat R (pts bx (Zp (ZbL b c))::fqC b5 f q::Zf f pl.r::ZF q pl.q::Zi (A++C)::cmC b3 c sg sp::Zq b4::pts p (Zh b m1 m2)::MapAt m1 MF::MapAt m2 MB::Zk xs::Hs) w:=hw.arr;exact closeW hw
 clear hw;rintro _ w ⟨h0,hw⟩;have hcore:=Zh1 k hr hsc hat ht hf h0;obtain ⟨y,hyL,hyid,hyf,hyc,hym,hyt,hres⟩:∃ y,y∈(ZW c.flt (Zb4 b c)).L/\y.id=b.next/\y.flt=c.flt/\y.cls=c.cls/\y.many=c.many/\y.till=0/\Zbs b c=(ZW c.flt (Zb4 b c),Zdx (ZW c.flt (Zb4 b c)) y):=by
  rcases Ziq k0 hr hsc with ⟨h1,_⟩|⟨_,y,_,_,_,_,_,h1,h2,h3,h4,h5,h6,h7⟩
  ·exfalso
   rw [hwait.2 (by rw [if_neg ht,if_neg hf,if_neg (λ h=>h h0)])] at h1;refine h1 ?_;dsimp only;split
   ·rfl
   ·exact Zha
  ·exact ⟨y,h1,h2,h3,h4,h5,h6,h7⟩
 obtain ⟨nb,hnb⟩:∃ nb,nb=Zb4 b c:=⟨_,rfl⟩;obtain ⟨pl2,hp2⟩:∃ pl2,pl2=ZvP (Zc2 b c) pl:=⟨_,rfl⟩;rw [<-hnb] at hres hcore hyL;have hn2:pl2.n=c.flt:=by rw [hp2];exact hm.num
 have hm2:Zkw A C c.flt pl2:=⟨hn2,hm.a,hm.c⟩;have hMF2:MF=(A++(f,q,pl2)::C).map flV:=by rw [hMF];exact Ze4 hn2 hm.num
 have hl2:ZaQ nb (A++(f,q,pl2)::C) (xs++[(bx,ZbL b c)]):=by
  refine ⟨?_,?_⟩
  ·rw [hnb,hp2]
   exact hl.fset hm (ZvP (Zc2 b c))
  ·rw [hnb,List.map_append,hl.bk]
   rfl
 have hMB2:MB++[(b.next,Value.pointer (some ⟨bx,0,none⟩))]=(xs++[(bx,ZbL b c)]).map bkV:=by rw [hMB,List.map_append];rfl
 have hput:Zci b.next (.pointer (some ⟨bx,0,none⟩)) MB=MB++[(b.next,Value.pointer (some ⟨bx,0,none⟩))]:=by rw [hMB];exact Zon hl k _
 have hbget:ZD b.next (MB++[(b.next,Value.pointer (some ⟨bx,0,none⟩))])=some (.pointer (some ⟨bx,0,none⟩)):=by rw [hMB];exact Zm2 hl k _
 have hq22:q2=pl2.q:=by rw [hq2,hp2,(ZiH h0).2.2.2];rfl
 have hr22:pl.r=pl2.r:=by rw [hp2];rfl
 rw [hr22,hq22] at hw;have hat2:nb.at c.flt=some pl2:=(Zh7 hcore).2 ⟨hl2.fl.mem_iff.1 (List.mem_map.2 ⟨(f,q,pl2),by simp,rfl⟩),hn2⟩;refine Zu hw λ w hw=>Zd.mk rfl ⟨some m2,At.own (λ _ h=>h) (by exact ⟨rfl,trivial⟩),b.next,At.own (λ _ h=>h) (by exact ⟨rfl,trivial⟩),?_⟩;have hw:Sat R (MapAt m2 MB::pts bx (Zp (ZbL b c))::fqC b5 f q::Zf f pl2.r::ZF q pl2.q::Zi (A++C)::cmC b3 c sg sp::Zq b4::pts p (Zh b m1 m2)::MapAt m1 MF::Zk xs::Hs) w:=hw.arr;refine MapAt.put Zu7 hw b.next (.pointer (some ⟨bx,0,none⟩)) λ w hw=>?_;rw [hput] at hw;refine Zd.mk rfl ⟨b.next,oA hw,Zd.mk rfl ?_⟩;have hw:Sat R (pts p (Zh b m1 m2)::MapAt m2 (MB++[(b.next,Value.pointer (some ⟨bx,0,none⟩))])::pts bx (Zp (ZbL b c))::fqC b5 f q::Zf f pl2.r::ZF q pl2.q::Zi (A++C)::cmC b3 c sg sp::Zq b4::MapAt m1 MF::Zk xs::Hs) w:=hw.arr;rw [Zl (x:=b.next + 1) (by omega) (by omega)];refine Za hw (by kernel_rfl) rfl (by simp [Value.cells]) λ w hw=>?_;have hw:Sat R (pts p (Zh nb m1 m2)::MapAt m2 (MB++[(b.next,Value.pointer (some ⟨bx,0,none⟩))])::pts bx (Zp (ZbL b c))::fqC b5 f q::Zf f pl2.r::ZF q pl2.q::Zi (A++C)::cmC b3 c sg sp::Zq b4::MapAt m1 MF::Zk xs::Hs) w:=by
  rw [hnb];exact hw.re (pts p (Zh (Zb4 b c) m1 m2))
 refine ⟨c.kind,oA hw,Br.e (λ _=>?_) (λ h=>absurd hk h)⟩;refine ⟨c.flt,oA hw,?_⟩;have hw:Sat R (pts bx (Zp (ZbL b c))::Zk xs::Zf f pl2.r::ZF q pl2.q::Zi (A++C)::pts p (Zh nb m1 m2)::MapAt m1 MF::MapAt m2 (MB++[(b.next,Value.pointer (some ⟨bx,0,none⟩))])::fqC b5 f q::cmC b3 c sg sp::Zq b4::Hs) w:=hw.arr;have hw:=Zks hw;have hw:Sat R (Zf f pl2.r::ZF q pl2.q::Zi (A++C)::Zk (xs++[(bx,ZbL b c)])::pts p (Zh nb m1 m2)::MapAt m1 MF::MapAt m2 (MB++[(b.next,Value.pointer (some ⟨bx,0,none⟩))])::fqC b5 f q::cmC b3 c sg sp::Zq b4::Hs) w:=hw.arr;have hw:=Zba.2 hw;rw [hMF2,hMB2] at hw;have hw:Sat R (pts p (Zh nb m1 m2)::MapAt m1 ((A++(f,q,pl2)::C).map flV)::MapAt m2 ((xs++[(bx,ZbL b c)]).map bkV)::Zi (A++(f,q,pl2)::C)::Zk (xs++[(bx,ZbL b c)])::fqC b5 f q::cmC b3 c sg sp::Zq b4::Hs) w:=hw.arr;refine (ZdU hcore hl2 hat2 hw).use ?_;clear hw;rintro _ w ⟨rfl,fs3,xs3,hl3,hf3,hb3,hw⟩;refine .inl ⟨rfl,?_⟩;have hcore3:=(Zcp (n:=c.flt) hcore).1;obtain ⟨A3,a3,C3,rfl,hbm3⟩:=ZfL hl3 hcore3.ids hyL;have ha3:a3=bx:=by
  have h1:=ZlZ (a:=a3) hbm3;rw [hb3,<-hMB2,hyid,hbget] at h1;simpa using h1.symm
 subst ha3;obtain ⟨p3,hp3⟩:=hcore3.at_of hyL;obtain ⟨D3,f3,q3,E3,rfl,hm3⟩:=ZcZ hl3 hcore3.nums hp3;rw [<-hf3,<-hb3] at hw;have htell:Zdx (ZW c.flt nb) y=Zdw p3 y:=by unfold Zdx;rw [hp3]
 rw [htell] at hres;have hw:Sat R (Zi (D3++(f3,q3,p3)::E3)::Zk (A3++(a3,y)::C3)::pts p (Zh (ZW c.flt nb) m1 m2)::MapAt m1 ((D3++(f3,q3,p3)::E3).map flV)::MapAt m2 ((A3++(a3,y)::C3).map bkV)::fqC b5 f q::cmC b3 c sg sp::Zq b4::Hs) w:=hw.arr;have hw:=Zba.1 hw;have hw:Sat R (Zk (A3++(a3,y)::C3)::Zf f3 p3.r::ZF q3 p3.q::Zi (D3++E3)::pts p (Zh (ZW c.flt nb) m1 m2)::MapAt m1 ((D3++(f3,q3,p3)::E3).map flV)::MapAt m2 ((A3++(a3,y)::C3).map bkV)::fqC b5 f q::cmC b3 c sg sp::Zq b4::Hs) w:=hw.arr;have hw:=ZcK.1 hw;have hw:Sat R (pts p (Zh (ZW c.flt nb) m1 m2)::MapAt m1 ((D3++(f3,q3,p3)::E3).map flV)::pts a3 (Zp y)::Zf f3 p3.r::Zk (A3++C3)::ZF q3 p3.q::Zi (D3++E3)::MapAt m2 ((A3++(a3,y)::C3).map bkV)::fqC b5 f q::cmC b3 c sg sp::Zq b4::Hs) w:=hw.arr;refine (Zfa (x:=y) (by omega) hm3 hw).use ?_;clear hw;rintro _ w ⟨sl,sb,rfl,hw⟩;refine .inl ⟨_,_,_,_,_,_,_,sl,sb,rfl,?_⟩;have hw:Sat R (Zq b4::Own sl 3 (Zg (Zr p3.r))::Own sb 9 ((ZaT p3.r y.id).map Value.string)::pts a3 (Zp y)::Zk (A3++C3)::Zf f3 p3.r::ZF q3 p3.q::pts p (Zh (ZW c.flt nb) m1 m2)::MapAt m1 ((D3++(f3,q3,p3)::E3).map flV)::MapAt m2 ((A3++(a3,y)::C3).map bkV)::Zi (D3++E3)::fqC b5 f q::cmC b3 c sg sp::Hs) w:=hw.arr;refine Za hw (by kernel_rfl) rfl (by simp [Value.cells]) λ w hw=>?_;have hw:=hw.re (rpC b4 (Zdw p3 y) sl sb);refine ⟨_,_,_,_,_,_,_,sl,sb,At.own (eqS hw) (by exact ⟨rfl,rfl,rfl,rfl,rfl,rfl,rfl,rfl,rfl,trivial⟩),?_⟩;have hfin:=hK sl sb w;rw [hres] at hfin;refine hfin ?_;refine hw.drop.cons λ _ hw=>hw.cons λ _ hw=>?_;have hw:=ZcK.2 hw;have hw:Sat _ (Zf f3 p3.r::ZF q3 p3.q::pts p (Zh (ZW c.flt nb) m1 m2)::MapAt m1 ((D3++(f3,q3,p3)::E3).map flV)::MapAt m2 ((A3++(a3,y)::C3).map bkV)::Zi (D3++E3)::Zk (A3++(a3,y)::C3)::fqC b5 f q::cmC b3 c sg sp::Hs) w:=hw.arr;exact (Zbo hl3 rfl rfl hw).cons λ _ h=>h.drop.drop
end
section
open Go Go.VC Tryz
open Classical
variable {R:Cx} {Hs Rest:List HP} {w:World}
theorem Zeo {p m1 m2 f q a:Nat} {b:ZR} {A C:List FE} {A2 C2:List BE} {pl:Pl} {x:Bk} (hl:ZaQ b (A++(f,q,pl)::C) (A2++(a,x)::C2)) {MF MB:List (Int × Value)} (hF:MF=(A++(f,q,pl)::C).map flV) (hB:MB=(A2++(a,x)::C2).map bkV)
  (hw:Sat R (Zf f pl.r::ZF q pl.q::pts a (Zp x)::pts p (Zh b m1 m2)::MapAt m1 MF::MapAt m2 MB::Zi (A++C)::Zk (A2++C2)::Hs) w):Sat R (Zj p b::Hs) w:=by
 have hw:Sat R (pts a (Zp x)::Zk (A2++C2)::Zf f pl.r::ZF q pl.q::pts p (Zh b m1 m2)::MapAt m1 MF::MapAt m2 MB::Zi (A++C)::Hs) w:=hw.arr;have hw:=ZcK.2 hw;have hw:Sat R (Zf f pl.r::ZF q pl.q::pts p (Zh b m1 m2)::MapAt m1 MF::MapAt m2 MB::Zi (A++C)::Zk (A2++(a,x)::C2)::Hs) w:=hw.arr;exact Zbo hl hF hB hw
theorem Zg8 {p m1 m2 f q a b6:Nat} {b:ZR} {A C:List FE} {A2 C2:List BE} {pl:Pl} {x:Bk} {X:List PanicEntry->World->Prop} {K:Value->World->Prop} (hl:ZaQ b (A++(f,q,pl)::C) (A2++(a,x)::C2)) {MF MB:List (Int × Value)} (hF:MF=(A++(f,q,pl)::C).map flV) (hB:MB=(A2++(a,x)::C2).map bkV)
  (hid:0<=x.id/\x.id<28629151) (hm:Zkw A C x.flt pl)
  (hK:∀ sl sb w',Sat R (Own sl 3 (Zg (Zr pl.r))::Own sb 9 ((ZaT pl.r x.id).map Value.string)::Zj p b::Hs) w'->K (.agg (rpV (Zdw pl x) sl sb).toArray) w')
  (hw:Sat R (Zf f pl.r::ZF q pl.q::pts a (Zp x)::pts p (Zh b m1 m2)::MapAt m1 MF::MapAt m2 MB::Zi (A++C)::Zk (A2++C2)::Zq b6::Hs) w):
  Calls prog 53 #[.pointer (some ⟨p,0,none⟩),.pointer (some ⟨a,0,none⟩)] w λ e w_9=>
   (∃ t0:Int,∃ t1:ByteArray,∃ t2:Int,∃ t3:Int,∃ t4:Int,∃ t5:Int,∃ t6:Int,∃ t7:Sl,∃ t8:Sl,(e=.returned (.agg #[.int .i64 t0,.string t1,.int .i64 t2,.int .i64 t3,.int .i64 t4,.int .i64 t5,.int .i64 t6,.slice t7.a t7.len t7.cap,.slice t8.a t8.len t8.cap]))/\
    ∃ w_10:World,((Instr.storeAt 33 (.pointer ((some ⟨b6,0,none⟩))) (.agg #[.int .i64 t0,.string t1,.int .i64 t2,.int .i64 t3,.int .i64 t4,.int .i64 t5,.int .i64 t6,.slice t7.a t7.len t7.cap,.slice t8.a t8.len t8.cap])).run prog w_9=.ok () w_10)/\
    ∃ u0:Int,∃ u1:ByteArray,∃ u2:Int,∃ u3:Int,∃ u4:Int,∃ u5:Int,∃ u6:Int,∃ u7:Sl,∃ u8:Sl,(At (λ w'=>w'=w_10) ⟨b6,0,none⟩ [.int .i64 u0,.string u1,.int .i64 u2,.int .i64 u3,.int .i64 u4,.int .i64 u5,.int .i64 u6,.slice u7.a u7.len u7.cap,.slice u8.a u8.len u8.cap])/\
    K (.agg #[.int .i64 u0,.string u1,.int .i64 u2,.int .i64 u3,.int .i64 u4,.int .i64 u5,.int .i64 u6,.slice u7.a u7.len u7.cap,.slice u8.a u8.len u8.cap]) w_10)\/
   (∃ ch:List PanicEntry,(e=.panicked ch)/\X ch w_9):=by
 subst hF hB;have hw:Sat R (pts p (Zh b m1 m2)::MapAt m1 ((A++(f,q,pl)::C).map flV)::pts a (Zp x)::Zf f pl.r::ZF q pl.q::MapAt m2 ((A2++(a,x)::C2).map bkV)::Zi (A++C)::Zk (A2++C2)::Zq b6::Hs) w:=hw.arr;refine (Zfa hid hm hw).use ?_;clear hw;rintro _ w ⟨sl,sb,rfl,hw⟩;refine .inl ⟨_,_,_,_,_,_,_,sl,sb,rfl,?_⟩;have hw:Sat R (Zq b6::Own sl 3 (Zg (Zr pl.r))::Own sb 9 ((ZaT pl.r x.id).map Value.string)::Zf f pl.r::ZF q pl.q::pts a (Zp x)::pts p (Zh b m1 m2)::MapAt m1 ((A++(f,q,pl)::C).map flV)::MapAt m2 ((A2++(a,x)::C2).map bkV)::Zi (A++C)::Zk (A2++C2)::Hs) w:=hw.arr;refine Za hw (by kernel_rfl) rfl (by simp [Value.cells]) λ w hw=>?_;have hw:=hw.re (rpC b6 (Zdw pl x) sl sb);refine ⟨_,_,_,_,_,_,_,sl,sb,At.own (eqS hw) (by exact ⟨rfl,rfl,rfl,rfl,rfl,rfl,rfl,rfl,rfl,trivial⟩),hK sl sb w ?_⟩;exact hw.drop.cons λ _ hw=>hw.cons λ _ hw=>Zeo hl rfl rfl hw
theorem Zsy {id:Int}:∀ {l:List Wt},ZgA id l=false->ZhY id l=l
 |[],_=>rfl
 |w::l,h=>by
  have h1:¬ w.id=id/\ZgA id l=false:=by simpa [ZgA] using h
  show (if w.id=id then l else w::ZhY id l)=_
  rw [if_neg h1.1,Zsy h1.2]
theorem ZtR {id:Int} {l:List Wt}:(Zvg l id).1=ZhY id l:=by
 unfold Zvg;cases h:ZgA id l with
 |true=>rfl
 |false=>exact (Zsy h).symm
set_option maxHeartbeats 4000000 in
theorem Zua {p m1 m2 a:Nat} {b:ZR} {c:Cm} {x:Bk} {fs:List FE} {A2 C2:List BE} {sg sp:Sl} (hk:c.kind=3\/c.kind=4\/c.kind=5\/c.kind=6) (k:Core b) (hlab:c.lab.size<=16) (hl:ZaQ b fs (A2++(a,x)::C2)) (hbm:Ztp A2 C2 x)
  (hw:Sat R (pts p (Zh b m1 m2)::MapAt m1 (fs.map flV)::MapAt m2 ((A2++(a,x)::C2).map bkV)::Zi fs::Zk (A2++(a,x)::C2)::Hs) w):
  ZaV prog 42 #[.pointer (some ⟨p,0,none⟩),.pointer (some ⟨a,0,none⟩),.agg #[.int .i64 c.kind,.string c.pnr,.int .i64 c.flt,.int .i64 c.cls,.int .i64 c.many,.int .i64 c.time,.float .f64 c.sc,.string c.lab,.int .i64 c.rows,.slice sg.a sg.len sg.cap,.slice sp.a sp.len sp.cap]] w
   (λ ch w'=>∃ e,ch=ZgB e/\ZgT b x c=(b,Zbn e)/\Sat R (Zj p b::Hs) w')
   (λ v w'=>∃ sl sb:Sl,v=.agg (rpV (ZgT b x c).2 sl sb).toArray/\Sat R (Own sl 3 (Zg (ZgT b x c).2.left)::Own sb 9 ((ZgT b x c).2.labs.map Value.string)::Zj p (ZgT b x c).1::Hs) w'):=by
 apply ZAr
 suffices H:∀ (X:List PanicEntry->World->Prop) (K:Value->World->Prop),(∀ e w',ZgT b x c=(b,Zbn e)->Sat R (Zj p b::Hs) w'->X (ZgB e) w')->
   (∀ sl sb w',Sat R (Own sl 3 (Zg (ZgT b x c).2.left)::Own sb 9 ((ZgT b x c).2.labs.map Value.string)::Zj p (ZgT b x c).1::Hs) w'->K (.agg (rpV (ZgT b x c).2 sl sb).toArray) w')->B42 (some ⟨p,0,none⟩) (some ⟨a,0,none⟩) c.kind c.pnr c.flt c.cls c.many c.time c.sc c.lab c.rows sg sp X K w from
  H _ _ (λ e w' h1 h2=>⟨e,rfl,h1,h2⟩) (λ sl sb w' h2=>⟨sl,sb,rfl,h2⟩)
 intro X K hX hK;have hxL:x∈b.L:=by rw [<-hl.bk];exact List.mem_map.2 ⟨(a,x),by simp,rfl⟩
 have hbk:=k.each x hxL;have hnx:=k.next;have hid:0<=x.id/\x.id<28629151:=⟨by have:=hbk.id;omega,by have:=hbk.id;omega⟩;obtain ⟨pl,hat⟩:=k.at_of hxL;obtain ⟨A,f,q,C,rfl,hm⟩:=ZcZ hl k.nums hat;have hpl:=ZaA hat;have hg:=k.good pl hpl.1;have hqok:=k.qok pl hpl.1;obtain ⟨MF,hMF⟩:∃ M,M=(A++(f,q,pl)::C).map flV:=⟨_,rfl⟩;obtain ⟨MB,hMB⟩:∃ M,M=(A2++(a,x)::C2).map bkV:=⟨_,rfl⟩;have hget:ZD x.flt MF=some (.agg #[.pointer (some ⟨f,0,none⟩),.pointer (some ⟨q,0,none⟩)]):=by rw [hMF];exact ZhS hm
 rw [<-hMF,<-hMB] at hw;have hone:∀ {e},ZgT b x c=e↔(if c.kind=3 then (if x.state≠1 then (b,Zbn 7) else ({ b with L:=ZeK Bk.id x.id Zdc b.L },Zdw pl (Zdc x)))
  else if c.kind=4 then (ZW x.flt (ZkA b x),⟨0,c.pnr,0,0,0,0,0,[],[]⟩)
  else if x.state=3 then (b,Zbn 7)
  else if c.kind=5 then
   (if (Z6 pl.r x.id c.lab).2≠0 then (b,Zbn (Z6 pl.r x.id c.lab).2)
    else (b.put x.flt (ZcO (Z6 pl.r x.id c.lab).1) b.L,Zdw (ZcO (Z6 pl.r x.id c.lab).1 pl) x))
  else (if (Zam pl.r x.id).2.2≠0 then (b,Zbn (Zam pl.r x.id).2.2)
    else (b.put x.flt (ZcO (Zam pl.r x.id).1) b.L,Zdw (ZcO (Zam pl.r x.id).1 pl) x)))=e:=by
  intro e;unfold ZgT;rw [hat]
 refine Zb hw λ b5 w hw=>Zb hw λ b6 w hw=>?_;have hw:Sat R (Zi (A++(f,q,pl)::C)::Zk (A2++(a,x)::C2)::pts p (Zh b m1 m2)::MapAt m1 MF::MapAt m2 MB::cmC b5 c sg sp::Zq b6::Hs) w:=by
  have hw:Sat R (Zq b6::cmC b5 c sg sp::pts p (Zh b m1 m2)::MapAt m1 MF::MapAt m2 MB::Zi (A++(f,q,pl)::C)::Zk (A2++(a,x)::C2)::Hs) w:=hw;exact hw.arr
 have hw:=Zba.1 hw;have hw:Sat R (Zk (A2++(a,x)::C2)::Zf f pl.r::ZF q pl.q::Zi (A++C)::pts p (Zh b m1 m2)::MapAt m1 MF::MapAt m2 MB::cmC b5 c sg sp::Zq b6::Hs) w:=hw.arr;have hw:=ZcK.1 hw;refine Zbf hw λ w hw=>?_;refine Zd.mk rfl ⟨some m1,At.own (λ _ h=>h) (by exact ⟨rfl,trivial⟩),Zd.mk rfl ⟨x.flt,At.own (λ _ h=>h) (by exact ⟨rfl,trivial⟩),some ⟨f,0,none⟩,some ⟨q,0,none⟩,λ w' h=>?_,?_⟩⟩
 ·have hm1:Sat R (MapAt m1 MF::VC.tru::pts a (Zp x)::Zk (A2++C2)::Zf f pl.r::ZF q pl.q::Zi (A++C)::pts p (Zh b m1 m2)::MapAt m2 MB::cmC b5 c sg sp::Zq b6::Hs) w':=Sat.arr h
  have:=MapAt.look Ztq hm1 x.flt false;rw [hget] at this;exact this
 refine Zb hw λ b7 w hw=>⟨hw.absorb,?_⟩;refine Za hw (by kernel_rfl) rfl (by simp [Value.cells]) λ w hw=>?_;have hw:=hw.re (fqC b7 f q);have hw:Sat R (Zf f pl.r::ZF q pl.q::pts a (Zp x)::pts p (Zh b m1 m2)::MapAt m1 MF::MapAt m2 MB::Zi (A++C)::Zk (A2++C2)::Zq b6::fqC b7 f q::cmC b5 c sg sp::Hs) w:=by
  have hw:Sat R (fqC b7 f q::pts a (Zp x)::Zk (A2++C2)::Zf f pl.r::ZF q pl.q::Zi (A++C)::pts p (Zh b m1 m2)::MapAt m1 MF::MapAt m2 MB::cmC b5 c sg sp::Zq b6::Hs) w:=hw.cons λ _ h=>h.drop;exact hw.arr
 have close:∀ {w},Sat R (Zf f pl.r::ZF q pl.q::pts a (Zp x)::pts p (Zh b m1 m2)::MapAt m1 MF::MapAt m2 MB::Zi (A++C)::Zk (A2++C2)::Zq b6::fqC b7 f q::cmC b5 c sg sp::Hs) w->Sat R (Zj p b::Hs) w:=λ {w} hw=>
  (Zeo hl hMF hMB hw).cons λ _ h=>h.drop.drop.drop
 refine Zd.mk rfl ⟨x.state,oA hw,c.kind,oA hw,?_⟩;refine Br.e (λ h3=>?_) (λ h3=>Br.e (λ h4=>?_) (λ h4=>Br.e (λ h5=>?_) (λ h5=>Br.e (λ h6=>?_) (λ h6=>by omega))))
 ·-- confirmed
  refine Zd.mk rfl ⟨x.state,oA hw,?_⟩;refine ZbH (λ h=>.inl ⟨rfl,?_⟩) (λ h=>.inr ⟨_,rfl,hX 7 w (hone.2 ?_) (close hw)⟩)
  rotate_left
  ·have h1:¬ x.state=1:=by simpa using h
   rw [if_pos h3,if_pos h1]
  have h1:x.state=1:=by simpa using h
  have hres:=hone.2 (by rw [if_pos h3,if_neg (λ h=>h h1)]);refine Zd.mk rfl ?_;have hw:Sat R (pts a (Zp x)::Zf f pl.r::ZF q pl.q::pts p (Zh b m1 m2)::MapAt m1 MF::MapAt m2 MB::Zi (A++C)::Zk (A2++C2)::Zq b6::fqC b7 f q::cmC b5 c sg sp::Hs) w:=hw.arr;refine Za hw (by kernel_rfl) rfl (by simp [Value.cells]) λ w hw=>Zd.mk rfl ?_;refine Za hw (by kernel_rfl) rfl (by rw [Zbw];simp [Value.cells]) λ w hw=>?_;have hw:=hw.re (pts a (Zp (Zdc x)));have hw:Sat R (Zf f pl.r::ZF q pl.q::pts a (Zp (Zdc x))::pts p (Zh b m1 m2)::MapAt m1 MF::MapAt m2 MB::Zi (A++C)::Zk (A2++C2)::Zq b6::fqC b7 f q::cmC b5 c sg sp::Hs) w:=hw.arr;have hl2:ZaQ { b with L:=ZeK Bk.id x.id Zdc b.L } (A++(f,q,pl)::C) (A2++(a,Zdc x)::C2):=⟨hl.fl,hl.bset k.ids Zdc⟩;refine Zg8 (Hs:=fqC b7 f q::cmC b5 c sg sp::Hs) (b:={ b with L:=ZeK Bk.id x.id Zdc b.L }) (x:=Zdc x) (MB:=MB) hl2 hMF (by rw [hMB];exact (ZsZ (show (Zdc x).id=x.id from rfl)).symm) hid hm (λ sl sb w' hw=>?_) hw
  have hfin:=hK sl sb w';rw [hres] at hfin;exact hfin (hw.cons λ _ h=>h.cons λ _ h=>h.cons λ _ h=>h.drop.drop)
 ·-- cancelled
  have hres:=hone.2 (by rw [if_neg h3,if_pos h4]);have hcore:=ZlS k hxL;obtain ⟨pl2,hp2⟩:∃ pl2:Pl,pl2=if x.state=3 then Zv7 x.id pl else Zgd x.id pl:=⟨_,rfl⟩
  refine ⟨λ w=>Sat R (Zf f pl2.r::ZF q pl2.q::pts a (Zp x)::pts p (Zh b m1 m2)::MapAt m1 MF::MapAt m2 MB::Zi (A++C)::Zk (A2++C2)::Zq b6::fqC b7 f q::cmC b5 c sg sp::Hs) w,?_,?_⟩
  ·refine Br.e (λ hs=>?_) (λ hs=>?_)
   ·rw [if_pos hs] at hp2
    refine Zu hw λ w hw=>⟨some ⟨q,0,none⟩,At.own (λ _ h=>h) (by exact ⟨rfl,trivial⟩),Zd.mk rfl ⟨x.id,At.own (λ _ h=>h) (by exact ⟨rfl,trivial⟩),?_⟩⟩;refine (Zgy (by have:=hqok.len;omega) hw.swap).use ?_;clear hw;rintro _ w ⟨rfl,hw⟩;rw [ZtR] at hw;refine .inl ⟨_,rfl,?_⟩;rw [hp2];exact hw.swap
   ·rw [if_neg hs] at hp2
    refine Zu hw λ w hw=>⟨some ⟨f,0,none⟩,At.own (λ _ h=>h) (by exact ⟨rfl,trivial⟩),Zd.mk rfl ⟨x.id,At.own (λ _ h=>h) (by exact ⟨rfl,trivial⟩),?_⟩⟩;refine (Zlt hw).use ?_;clear hw;rintro _ w ⟨rfl,hw⟩;refine .inl ⟨_,rfl,?_⟩;rw [hp2];exact hw
  clear hw;rintro _ w hw;have hn2:pl2.n=x.flt:=by
   rw [hp2];split
   ·exact hm.num
   ·exact (Zer (r:=pl.r) (o:=x.id)).1.trans hm.num
  have hMF2:MF=(A++(f,q,pl2)::C).map flV:=by rw [hMF];exact Ze4 hn2 hm.num
  have hl2:ZaQ (ZkA b x) (A++(f,q,pl2)::C) (A2++C2):=by
   refine ⟨?_,?_⟩
   ·have h1:=hl.fset hm (Zv7 x.id)
    have h2:=hl.fset hm (Zgd x.id);unfold ZkA;rw [hp2];split
    ·exact h1
    ·exact h2
   ·have h1:=hl.bdel k.ids
    unfold ZkA;split
    ·exact h1
    ·exact h1
  have hat2:(ZkA b x).at x.flt=some pl2:=(Zh7 hcore).2 ⟨hl2.fl.mem_iff.1 (List.mem_map.2 ⟨(f,q,pl2),by simp,rfl⟩),hn2⟩;have hgc:Zh (ZkA b x) m1 m2=Zh b m1 m2:=by
   unfold ZkA;split<;>rfl
  refine Zu hw λ w hw=>Zd.mk rfl ⟨some m2,At.own (λ _ h=>h) (by exact ⟨rfl,trivial⟩),Zd.mk rfl ⟨x.id,At.own (λ _ h=>h) (by exact ⟨rfl,trivial⟩),?_⟩⟩;have hw:Sat R (MapAt m2 MB::Zf f pl2.r::ZF q pl2.q::pts a (Zp x)::pts p (Zh b m1 m2)::MapAt m1 MF::Zi (A++C)::Zk (A2++C2)::Zq b6::fqC b7 f q::cmC b5 c sg sp::Hs) w:=hw.arr;refine MapAt.del Zu7 hw x.id λ w hw=>?_;rw [hMB,ZsY hbm] at hw;refine Zd.mk rfl ⟨x.flt,oA hw,?_⟩;have hw:Sat R (Zf f pl2.r::ZF q pl2.q::Zi (A++C)::MapAt m2 ((A2++C2).map bkV)::pts a (Zp x)::pts p (Zh (ZkA b x) m1 m2)::MapAt m1 ((A++(f,q,pl2)::C).map flV)::Zk (A2++C2)::Zq b6::fqC b7 f q::cmC b5 c sg sp::Hs) w:=by
   rw [hgc,<-hMF2];exact hw.arr
  have hw:=Zba.2 hw;have hw:Sat R (pts p (Zh (ZkA b x) m1 m2)::MapAt m1 ((A++(f,q,pl2)::C).map flV)::MapAt m2 ((A2++C2).map bkV)::Zi (A++(f,q,pl2)::C)::Zk (A2++C2)::pts a (Zp x)::Zq b6::fqC b7 f q::cmC b5 c sg sp::Hs) w:=hw.arr;refine (ZdU hcore hl2 hat2 hw).use ?_;clear hw;rintro _ w ⟨rfl,fs3,xs3,hl3,hf3,hb3,hw⟩;refine .inl ⟨rfl,c.pnr,oA hw,?_⟩;have hw:Sat R (Zq b6::pts p (Zh (ZW x.flt (ZkA b x)) m1 m2)::MapAt m1 ((A++(f,q,pl2)::C).map flV)::MapAt m2 ((A2++C2).map bkV)::Zi fs3::Zk xs3::pts a (Zp x)::fqC b7 f q::cmC b5 c sg sp::Hs) w:=hw.arr;refine Za hw (by kernel_rfl) rfl (by simp [Value.cells]) λ w hw=>?_;have hw:=hw.re (rpC b6 ⟨0,c.pnr,0,0,0,0,0,[],[]⟩ ZE ZE);refine ⟨_,_,_,_,_,_,_,ZE,ZE,At.own (eqS hw) (by exact ⟨rfl,rfl,rfl,rfl,rfl,rfl,rfl,rfl,rfl,trivial⟩),?_⟩;have hfin:=hK ZE ZE w;rw [hres] at hfin;refine hfin (Own.nil (Own.nil ?_));rw [<-hf3,<-hb3] at hw;have hw:Sat R (pts p (Zh (ZW x.flt (ZkA b x)) m1 m2)::MapAt m1 (fs3.map flV)::MapAt m2 (xs3.map bkV)::Zi fs3::Zk xs3::pts a (Zp x)::fqC b7 f q::cmC b5 c sg sp::Hs) w:=hw.drop;exact (Sat.book.2 ⟨m1,m2,fs3,xs3,hl3,hw⟩).cons λ _ h=>h.drop.drop.drop
 ·-- a seat
  refine ZbH (λ h=>.inl ⟨rfl,?_⟩) (λ h=>.inr ⟨_,rfl,hX 7 w (hone.2 ?_) (close hw)⟩)
  rotate_left
  ·have h1:x.state=3:=by simpa using h
   rw [if_neg h3,if_neg h4,if_pos h1]
  have h1:¬ x.state=3:=by simpa using h
  refine ZA (Sat R [pts a (Zp x),fqC b7 f q,cmC b5 c sg sp,VC.tru]) hw (λ w hw=>?_) λ w hw=>?_
  ·exact (hw.arr (Hs':=pts a (Zp x)::fqC b7 f q::cmC b5 c sg sp::Zf f pl.r::ZF q pl.q::pts p (Zh b m1 m2)::MapAt m1 MF::MapAt m2 MB::Zi (A++C)::Zk (A2++C2)::Zq b6::Hs)).cons λ _ h=>h.cons λ _ h=>h.restTru2
  refine ⟨some ⟨f,0,none⟩,At.own (λ _ h=>h) (by exact ⟨rfl,trivial⟩),Zd.mk rfl ⟨x.id,At.own (λ _ h=>h) (by exact ⟨rfl,trivial⟩),c.lab,At.own (λ _ h=>h) (by exact ⟨rfl,trivial⟩),?_⟩⟩;refine (ZrF (by omega) hw).use ?_;clear hw;rintro _ w ⟨rfl,hw⟩;refine .inl ⟨_,rfl,?_⟩;refine Ze0 (λ h0=>.inl ⟨rfl,?_,?_⟩) (λ h0=>.inr ⟨_,rfl,hX _ w (hone.2 (by rw [if_neg h3,if_neg h4,if_neg h1,if_pos h5,if_pos h0])) ?_⟩)
  rotate_left 2
  ·rw [ZtM h0] at hw
   exact close hw
  ·exact (hw.arr (Hs':=pts a (Zp x)::fqC b7 f q::cmC b5 c sg sp::Zf f (Z6 pl.r x.id c.lab).1::ZF q pl.q::pts p (Zh b m1 m2)::MapAt m1 MF::MapAt m2 MB::Zi (A++C)::Zk (A2++C2)::Zq b6::Hs)).cons λ _ h=>h.cons λ _ h=>h.restTru2
  have hres:=hone.2 (by rw [if_neg h3,if_neg h4,if_neg h1,if_pos h5,if_neg (λ h=>h h0)]);have hn2:(ZcO (Z6 pl.r x.id c.lab).1 pl).n=x.flt:=(ZqE hg h0).num.trans hm.num;have hl2:ZaQ (b.put x.flt (ZcO (Z6 pl.r x.id c.lab).1) b.L) (A++(f,q,ZcO (Z6 pl.r x.id c.lab).1 pl)::C) (A2++(a,x)::C2):=⟨hl.fset hm (ZcO (Z6 pl.r x.id c.lab).1),hl.bk⟩;refine Zg8 (Hs:=fqC b7 f q::cmC b5 c sg sp::Hs) hl2 (by rw [hMF];exact (Ze4 hm.num hn2).symm) hMB hid ⟨hn2,hm.a,hm.c⟩ (λ sl sb w' hw=>?_) hw;have hfin:=hK sl sb w';rw [hres] at hfin;exact hfin (hw.cons λ _ h=>h.cons λ _ h=>h.cons λ _ h=>h.drop.drop)
 ·-- seats of themselves
  refine ZbH (λ h=>.inl ⟨rfl,?_⟩) (λ h=>.inr ⟨_,rfl,hX 7 w (hone.2 ?_) (close hw)⟩)
  rotate_left
  ·have h1:x.state=3:=by simpa using h
   rw [if_neg h3,if_neg h4,if_pos h1]
  have h1:¬ x.state=3:=by simpa using h
  refine Zu hw λ w hw=>⟨some ⟨f,0,none⟩,At.own (λ _ h=>h) (by exact ⟨rfl,trivial⟩),Zd.mk rfl ⟨x.id,At.own (λ _ h=>h) (by exact ⟨rfl,trivial⟩),?_⟩⟩;refine (ZrG hw).use ?_;clear hw;rintro _ w ⟨t,rfl,hw⟩;have hw:=hw.drop;refine .inl ⟨_,_,rfl,?_⟩;refine Ze0 (λ h0=>.inl ⟨rfl,?_⟩) (λ h0=>.inr ⟨_,rfl,hX _ w (hone.2 (by rw [if_neg h3,if_neg h4,if_neg h1,if_neg h5,if_pos h0])) ?_⟩)
  rotate_left
  ·rw [Zy3 h0] at hw
   exact close hw
  have hres:=hone.2 (by rw [if_neg h3,if_neg h4,if_neg h1,if_neg h5,if_neg (λ h=>h h0)]);have hn2:(ZcO (Zam pl.r x.id).1 pl).n=x.flt:=(Zte h0).num.trans hm.num;have hl2:ZaQ (b.put x.flt (ZcO (Zam pl.r x.id).1) b.L) (A++(f,q,ZcO (Zam pl.r x.id).1 pl)::C) (A2++(a,x)::C2):=⟨hl.fset hm (ZcO (Zam pl.r x.id).1),hl.bk⟩;refine Zg8 (Hs:=fqC b7 f q::cmC b5 c sg sp::Hs) hl2 (by rw [hMF];exact (Ze4 hm.num hn2).symm) hMB hid ⟨hn2,hm.a,hm.c⟩ (λ sl sb w' hw=>?_) hw;have hfin:=hK sl sb w';rw [hres] at hfin;exact hfin (hw.cons λ _ h=>h.cons λ _ h=>h.cons λ _ h=>h.drop.drop)
end
section
open Go Go.VC Tryz
open Classical
variable {R:Cx} {Hs Rest:List HP} {w:World}
theorem Zjm {l m:List Int} (hp:l.Perm m) (h:m.Pairwise λ a b=>a<b):ZgI l=m:=by
 have tr:∀ a b c:Int,decide (a<=b)=true->decide (b<=c)=true->decide (a<=c)=true:=λ a b c h1 h2=>by simp only [decide_eq_true_eq] at *;omega
 have to:∀ a b:Int,(decide (a<=b)||decide (b<=a))=true:=λ a b=>by simp only [Bool.or_eq_true,decide_eq_true_eq];omega
 exact List.Perm.eq_of_pairwise (λ a b _ _ h1 h2=>by simp only [decide_eq_true_eq] at h1 h2;omega) (List.pairwise_mergeSort tr to l) (h.imp λ hab=>by simp only [decide_eq_true_eq];omega) ((List.mergeSort_perm l _).trans hp)
theorem Zy0 {b:ZR} {fs:List FE} {xs:List BE} (hl:ZaQ b fs xs):(xs.map bkV).map (·.1)=b.L.map Bk.id:=by
 rw [<-hl.bk,List.map_map,List.map_map];rfl
theorem ZwO {b:ZR} {fs:List FE} {xs:List BE} (hl:ZaQ b fs xs):((fs.map flV).map (·.1)).Perm (b.fl.map Pl.n):=by
 have:=hl.fl.map Pl.n;rw [List.map_map] at this ⊢;exact this
theorem Znt {b:ZR} (k:Core b):(b.L.map Bk.id).Pairwise λ a b=>a<b:=List.pairwise_map.2 k.ids
theorem ZkY {b:ZR} (k:Core b):(b.fl.map Pl.n).Pairwise λ a b=>a<b:=List.pairwise_map.2 k.nums
theorem ZzF {l:List Int} (h:l.Pairwise λ a b=>a<b):l.Nodup:=h.imp λ hab=>by omega
theorem Ziv {m:Nat} {b:ZR} {fs:List FE} {xs:List BE} {K:Sl->World->Prop} (k:Core b) (hl:ZaQ b fs xs) (hw:Sat R (MapAt m (xs.map bkV)::Hs) w)
  (kk:∀ s w',Sat R (Own s 3 (Zg (b.L.map Bk.id))::MapAt m (xs.map bkV)::Hs) w'->K s w'):
  Calls prog 66 #[.map (some m)] w λ e w1=>∃ t:Value,e=.returned t/\Calls prog 61 #[t] w1 λ e w2=>∃ t:Sl,e=.returned (.slice t.a t.len t.cap)/\K t w2:=by
 have hk:=Zy0 hl;obtain ⟨l,c,hs,hst,hp⟩:=MapAt.iff.1 hw;obtain ⟨D0,hown,hsz,hperm⟩:=Zfy hs hst (by rw [hk];exact ZzF (Znt k)) (λ i hi=>by
  rw [hk] at hi;obtain ⟨x,hx,rfl⟩:=List.mem_map.1 hi;have:=(k.each x hx).id;have:=k.next;omega) (by rw [List.length_map,Zom hl];have:=k.many;omega) hp.at
 refine (callsIn_wide.1 (Tryz.maps_Keys_66 (some m) w)).mono ?_;rintro _ _ ⟨rfl,rfl⟩;refine ⟨_,rfl,?_⟩;refine (callsIn_wide.1 (Tryz.slices_Sorted_keys_61_66 m _ D0 _ w hown (by unfold maxLen;omega) (by omega))).mono ?_;rintro _ w' ⟨v,ss,rfl,hS,hrow,hnil,hb⟩;have hw1:Sat R (MapAt m (xs.map bkV)::Hs) (w.alloc (.cells #[.map (some m)] 78)):=(Sat.alloc _ hw).drop;obtain ⟨s,rfl,h3⟩:=Sat.ownsRow hw1 hb hrow;refine ⟨s,rfl,kk s _ ?_⟩;have e:=Zjm (List.Perm.of_eq hk) (Znt k);rw [<-Zdd (hperm ss hS)] at e;rw [<-e];exact h3
theorem Ziu {m:Nat} {b:ZR} {fs:List FE} {xs:List BE} {K:Sl->World->Prop} (k:Core b) (hl:ZaQ b fs xs) (hw:Sat R (MapAt m (fs.map flV)::Hs) w)
  (kk:∀ s w',Sat R (Own s 3 (Zg (b.fl.map Pl.n))::MapAt m (fs.map flV)::Hs) w'->K s w'):
  Calls prog 62 #[.map (some m)] w λ e w1=>∃ t:Value,e=.returned t/\Calls prog 61 #[t] w1 λ e w2=>∃ t:Sl,e=.returned (.slice t.a t.len t.cap)/\K t w2:=by
 have hk:=ZwO hl;obtain ⟨l,c,hs,hst,hp⟩:=MapAt.iff.1 hw;obtain ⟨D0,hown,hsz,hperm⟩:=Zfy hs hst (hk.nodup_iff.2 (ZzF (ZkY k))) (λ i hi=>by
  obtain ⟨x,hx,rfl⟩:=List.mem_map.1 (hk.mem_iff.1 hi);have:=(k.good x hx).num;show -1000000000<=x.r.num/\x.r.num<=1000000000;omega) (by rw [List.length_map,Zn6 hl];have:=k.few;omega) hp.at
 refine (callsIn_wide.1 (Tryz.maps_Keys_62 (some m) w)).mono ?_;rintro _ _ ⟨rfl,rfl⟩;refine ⟨_,rfl,?_⟩;refine (callsIn_wide.1 (Tryz.slices_Sorted_keys_61_62 m _ D0 _ w hown (by unfold maxLen;omega) (by omega))).mono ?_;rintro _ w' ⟨v,ss,rfl,hS,hrow,hnil,hb⟩;have hw1:Sat R (MapAt m (fs.map flV)::Hs) (w.alloc (.cells #[.map (some m)] 77)):=(Sat.alloc _ hw).drop;obtain ⟨s,rfl,h3⟩:=Sat.ownsRow hw1 hb hrow;refine ⟨s,rfl,kk s _ ?_⟩;have e:=Zjm hk (ZkY k);rw [<-Zdd (hperm ss hS)] at e;rw [<-e];exact h3
theorem Zvn {g1 g2:FuncId} {m:Nat} {K:Sl->World->Prop} {E1 E2:Ending->World->Prop}
  (h:Calls prog g1 #[.map (some m)] w λ e w1=>∃ t:Value,e=.returned t/\Calls prog g2 #[t] w1 λ e w2=>∃ t:Sl,e=.returned (.slice t.a t.len t.cap)/\K t w2):
  Calls prog g1 #[.map (some m)] w λ e w1=>(∃ t:Value,(e=.returned t)/\Calls prog g2 #[t] w1 λ e w2=>(∃ t:Sl,(e=.returned (.slice t.a t.len t.cap))/\K t w2)\/E2 e w2)\/E1 e w1:=by
 refine h.mono ?_;rintro _ w ⟨t,rfl,h⟩;refine .inl ⟨t,rfl,h.mono ?_⟩;rintro _ w ⟨t,rfl,h⟩;exact .inl ⟨t,rfl,h⟩
theorem Zre {p:Nat} {b:ZR} {n:Int} (k:Core b) (hn:n∈b.fl.map Pl.n) (hw:Sat R (Zj p b::Hs) w):
  Zo prog 103 #[.pointer (some ⟨p,0,none⟩),.int .i64 n] w λ v w'=>v=.tuple #[]/\Sat R (Zj p (ZW n b)::Hs) w':=by
 obtain ⟨pl,hpl,hpn⟩:=List.mem_map.1 hn;obtain ⟨m1,m2,fs,xs,hl,hw⟩:=Sat.book.1 hw;refine (ZdU k hl ((Zh7 k).2 ⟨hpl,hpn⟩) hw).use ?_;clear hw;rintro _ w ⟨rfl,fs',xs',hl',h1,h2,hw⟩;refine ⟨_,rfl,rfl,Sat.book.2 ⟨m1,m2,fs',xs',hl',?_⟩⟩;rw [h1,h2];exact hw
structure ExpI (b:ZR) (t:Int) (j:Nat) (b':ZR):Prop where
 res:ZdF b t=Zd4 (b.L.drop j) b'
 core:Core b'
 now:b'.now=t
 left:∀ x∈b.L.drop j,x∈b'.L
structure ZB2 (ns:List Int) (t:Int) (B:ZR) (j:Nat) (b':ZR):Prop where
 res:Zcz ns B=Zcz (ns.drop j) b'
 core:Core b'
 now:b'.now=t
 nums:b'.fl.map Pl.n=ns
set_option maxHeartbeats 4000000 in
theorem ZpA {p:Nat} {b:ZR} {c:Cm} {sg sp:Sl} (k:Core b) (hr:ZaJ c) (hw:Sat R (Zj p b::Hs) w):
  ZaV prog 41 #[.pointer (some ⟨p,0,none⟩),.agg #[.int .i64 c.kind,.string c.pnr,.int .i64 c.flt,.int .i64 c.cls,.int .i64 c.many,.int .i64 c.time,.float .f64 c.sc,.string c.lab,.int .i64 c.rows,.slice sg.a sg.len sg.cap,.slice sp.a sp.len sp.cap]] w
   (λ ch w'=>∃ e,ch=ZgB e/\ZbE b c=(b,Zbn e)/\Sat R (Zj p b::Hs) w')
   (λ v w'=>∃ sl sb:Sl,v=.agg (rpV (ZbE b c).2 sl sb).toArray/\Sat R (Own sl 3 (Zg (ZbE b c).2.left)::Own sb 9 ((ZbE b c).2.labs.map Value.string)::Zj p (ZbE b c).1::Hs) w'):=by
 apply ZAs
 suffices H:∀ (X:List PanicEntry->World->Prop) (K:Value->World->Prop),(∀ e w',ZbE b c=(b,Zbn e)->Sat R (Zj p b::Hs) w'->X (ZgB e) w')->
   (∀ w',¬ c.time<b.now->Sat R (Zj p (ZbE b c).1::Hs) w'->K (.agg (rpV ⟨0,emS,0,0,0,0,c.time,[],[]⟩ ZE ZE).toArray) w')->B41 (some ⟨p,0,none⟩) c.kind c.pnr c.flt c.cls c.many c.time c.sc c.lab c.rows sg sp X K w from
  H _ _ (λ e w' h1 h2=>⟨e,rfl,h1,h2⟩) (λ w' h1 h2=>by
   have e:(ZbE b c).2=⟨0,emS,0,0,0,0,c.time,[],[]⟩:=by unfold ZbE;rw [if_neg h1]
   rw [e];exact ⟨ZE,ZE,rfl,Own.nil (Own.nil h2)⟩)
 intro X K hX hK;have htm:=hr.time;obtain ⟨m1,m2,fs,xs,hl,hw⟩:=Sat.book.1 hw;refine Zb hw λ b3 w hw=>Zb hw λ b4 w hw=>?_;have hw:Sat R (pts p (Zh b m1 m2)::MapAt m1 (fs.map flV)::MapAt m2 (xs.map bkV)::Zi fs::Zk xs::Zq b4::cmC b3 c sg sp::Hs) w:=by
  have hw:Sat R (Zq b4::cmC b3 c sg sp::pts p (Zh b m1 m2)::MapAt m1 (fs.map flV)::MapAt m2 (xs.map bkV)::Zi fs::Zk xs::Hs) w:=hw;exact hw.arr
 refine Zu hw λ w hw=>⟨c.time,At.own (λ _ h=>h) (by exact ⟨rfl,trivial⟩),Zd.mk rfl ⟨b.now,At.own (λ _ h=>h) (by exact ⟨rfl,trivial⟩),?_⟩⟩;refine ZbH (λ h=>.inl ⟨rfl,hw,?_⟩) (λ h=>.inr ⟨_,rfl,hX 7 w ?_ ((Sat.book.2 ⟨m1,m2,fs,xs,hl,hw⟩).cons λ _ h=>h.drop.drop)⟩)
 rotate_left
 ·have:=of_decide_eq_false h
  unfold ZbE;rw [if_pos (by omega)]
 have ht:¬ c.time<b.now:=by have:=of_decide_eq_true h;omega
 have hclock:(ZbE b c).1=Zcz (b.fl.map Pl.n) (ZdF b c.time):=by unfold ZbE;rw [if_neg ht]
 refine ⟨c.time,oA hw,Zd.mk rfl ?_⟩;rw [Zz];refine Za hw (by kernel_rfl) rfl (by simp [Value.cells]) λ w hw=>?_;have k1:=Zoh k htm;obtain ⟨b1,hb1⟩:∃ b1,b1={ b with now:=c.time }:=⟨_,rfl⟩;have hw:Sat R (pts p (Zh b1 m1 m2)::MapAt m1 (fs.map flV)::MapAt m2 (xs.map bkV)::Zi fs::Zk xs::Zq b4::cmC b3 c sg sp::Hs) w:=by
  rw [hb1];exact hw.re (pts p (Zh { b with now:=c.time } m1 m2))
 have hl1:ZaQ b1 fs xs:=by rw [hb1];exact ⟨hl.fl,hl.bk⟩
 rw [<-hb1] at k1;have hL1:b1.L=b.L:=by rw [hb1]
 refine Zd.mk rfl ⟨some m2,oA hw,?_⟩;have hw:Sat R (MapAt m2 (xs.map bkV)::pts p (Zh b1 m1 m2)::MapAt m1 (fs.map flV)::Zi fs::Zk xs::Zq b4::cmC b3 c sg sp::Hs) w:=hw.arr;refine Zvn (Ziv k1 hl1 hw ?_);clear hw;intro s w hw;have hw:Sat R (Own s 3 (Zg (b.L.map Bk.id))::Zj p b1::Zq b4::cmC b3 c sg sp::Hs) w:=by
  rw [hL1] at hw;refine hw.cons λ _ hw=>Sat.book.2 ⟨m1,m2,fs,xs,hl1,?_⟩;exact hw.arr
 obtain ⟨ids,hids⟩:∃ ids,ids=b.L.map Bk.id:=⟨_,rfl⟩;have hil:ids.length=b.L.length:=by rw [hids,List.length_map]
 rw [<-hids] at hw;have hLm:=k.many;refine ⟨λ t w=>∃ (j:Nat) (b':ZR),t=j/\j<=b.L.length/\ExpI b c.time j b'/\Sat R (Own s 3 (Zg ids)::Zj p b'::Zq b4::cmC b3 c sg sp::Hs) w,λ t _=>b.L.length - t.toNat,⟨0,b1,rfl,Nat.zero_le _,⟨by rw [hb1];rfl,k1,by rw [hb1],λ x hx=>by rw [hL1];exact hx⟩,hw⟩,?_⟩;clear hw;rintro _ _ w ⟨j,b',rfl,hj,hi,hw⟩;have hsl:=Own.len hw;rw [List.length_map,hil] at hsl;refine Br.d (λ hlt=>?_) (λ hge=>?_)
 ·have hjl:j<b.L.length:=by omega
  obtain ⟨x,hx⟩:∃ x,x=b.L[j]:=⟨_,rfl⟩;have hdrop:b.L.drop j=x::b.L.drop (j + 1):=by rw [hx];exact List.drop_eq_getElem_cons hjl
  have hget:∀ h:j<ids.length,ids[j]=x.id:=λ h=>by subst hids;rw [List.getElem_map,hx]
  refine Own.ix hw (eqS hw) j rfl (by omega) ?_;rw [hget];obtain ⟨m1,m2,fs,xs,hl,hw⟩:=Sat.book.1 hw.swap;have hxL:x∈b'.L:=hi.left x (by rw [hdrop];simp);obtain ⟨pl,hat⟩:=hi.core.at_of hxL;obtain ⟨A,f,q,C,rfl,hm⟩:=ZcZ hl hi.core.nums hat;obtain ⟨A2,a,C2,rfl,hbm⟩:=ZfL hl hi.core.ids hxL;obtain ⟨MF,hMF⟩:∃ M,M=(A++(f,q,pl)::C).map flV:=⟨_,rfl⟩;obtain ⟨MB,hMB⟩:∃ M,M=(A2++(a,x)::C2).map bkV:=⟨_,rfl⟩;have hgetf:ZD x.flt MF=some (.agg #[.pointer (some ⟨f,0,none⟩),.pointer (some ⟨q,0,none⟩)]):=by rw [hMF];exact ZhS hm
  have hgetb:ZD x.id MB=some (.pointer (some ⟨a,0,none⟩)):=by rw [hMB];exact ZlZ hbm
  rw [<-hMF,<-hMB] at hw;have hw:Sat R (Zi (A++(f,q,pl)::C)::Zk (A2++(a,x)::C2)::pts p (Zh b' m1 m2)::MapAt m1 MF::MapAt m2 MB::Own s 3 (Zg ids)::Zq b4::cmC b3 c sg sp::Hs) w:=hw.arr;have hw:=Zba.1 hw;have hw:Sat R (Zk (A2++(a,x)::C2)::Zf f pl.r::ZF q pl.q::Zi (A++C)::pts p (Zh b' m1 m2)::MapAt m1 MF::MapAt m2 MB::Own s 3 (Zg ids)::Zq b4::cmC b3 c sg sp::Hs) w:=hw.arr;have hw:=ZcK.1 hw;have hw:Sat R (Zf f pl.r::ZF q pl.q::pts a (Zp x)::pts p (Zh b' m1 m2)::MapAt m1 MF::MapAt m2 MB::Zi (A++C)::Zk (A2++C2)::Own s 3 (Zg ids)::Zq b4::cmC b3 c sg sp::Hs) w:=hw.arr;refine Zd.mk rfl ⟨some m2,oA hw,some ⟨a,0,none⟩,λ w' e=>?_,?_⟩
  ·rw [show w'=w from e]
   have hm1:Sat R (MapAt m2 MB::Zf f pl.r::ZF q pl.q::pts a (Zp x)::pts p (Zh b' m1 m2)::MapAt m1 MF::Zi (A++C)::Zk (A2++C2)::Own s 3 (Zg ids)::Zq b4::cmC b3 c sg sp::Hs) w:=hw.arr;have:=MapAt.look Zu7 hm1 x.id false;rw [hgetb] at this;exact this
  refine ⟨λ t w=>t=old b'.now x/\Sat R (Zf f pl.r::ZF q pl.q::pts a (Zp x)::pts p (Zh b' m1 m2)::MapAt m1 MF::MapAt m2 MB::Zi (A++C)::Zk (A2++C2)::Own s 3 (Zg ids)::Zq b4::cmC b3 c sg sp::Hs) w,?_,?_⟩
  ·refine Zu hw λ w hw=>Zd.mk rfl ⟨x.state,At.own (λ _ h=>h) (by exact ⟨rfl,trivial⟩),Br.e (λ h1=>?_) (λ h1=>?_)⟩
   ·refine Zd.mk rfl ⟨x.till,At.own (λ _ h=>h) (by exact ⟨rfl,trivial⟩),Zd.mk rfl ⟨b'.now,At.own (λ _ h=>h) (by exact ⟨rfl,trivial⟩),?_,hw⟩⟩
    unfold old;rw [decide_eq_true h1,Bool.true_and]
   ·refine ⟨?_,hw⟩
    unfold old;rw [decide_eq_false h1,Bool.false_and]
  clear hw;rintro _ _ w ⟨rfl,hw⟩;have hexp:∀ b2,(if old b'.now x then ZfG b' x else b')=b2->ZdF b c.time=Zd4 (b.L.drop (j + 1)) b2:=λ b2 e=>by
   rw [hi.res,hdrop,<-e];rfl
  have hwr:IntKind.i64.wrap ((j:Int) + 1)=((j + 1:Nat):Int):=by rw [Zl (by omega) (by omega)];omega
  rw [hwr];cases hold:old b'.now x with
  |false=>
   rw [hold] at hexp;refine Br.f rfl ⟨⟨j + 1,b',rfl,hjl,⟨hexp _ rfl,hi.core,hi.now,λ y hy=>hi.left y (by rw [hdrop];exact List.mem_cons_of_mem _ hy)⟩,?_⟩,by dsimp only;omega⟩;have hw:=Zeo hl hMF hMB hw;exact hw.swap
  |true=>
   rw [hold] at hexp;have hst:x.state=1:=by
    unfold old at hold;simp only [Bool.and_eq_true,decide_eq_true_eq] at hold;exact hold.1
   refine Br.t rfl ?_;refine ZA (Sat R [pts p (Zh b' m1 m2),pts a (Zp x),MapAt m1 MF,VC.tru]) hw (λ w hw=>?_) λ w hw=>?_
   ·exact (hw.arr (Hs':=pts p (Zh b' m1 m2)::pts a (Zp x)::MapAt m1 MF::Zf f pl.r::ZF q pl.q::MapAt m2 MB::Zi (A++C)::Zk (A2++C2)::Own s 3 (Zg ids)::Zq b4::cmC b3 c sg sp::Hs)).cons λ _ h=>h.cons λ _ h=>h.restTru2
   refine Zd.mk rfl ⟨some m1,At.own (λ _ h=>h) (by exact ⟨rfl,trivial⟩),Zd.mk rfl ⟨x.flt,At.own (λ _ h=>h) (by exact ⟨rfl,trivial⟩),some ⟨f,0,none⟩,some ⟨q,0,none⟩,λ w' h=>?_,?_⟩⟩
   ·have hm1:Sat R (MapAt m1 MF::pts p (Zh b' m1 m2)::pts a (Zp x)::[VC.tru]) w':=Sat.arr h
    have:=MapAt.look Ztq hm1 x.flt false;rw [hgetf] at this;exact this
   refine (Zlt hw).use ?_;clear hw;rintro _ w ⟨rfl,hw⟩;refine .inl ⟨_,rfl,?_,Zd.mk rfl ⟨some m2,oA hw,?_⟩⟩
   ·exact (hw.arr (Hs':=pts p (Zh b' m1 m2)::pts a (Zp x)::MapAt m1 MF::Zf f (Zb1 pl.r x.id).1::ZF q pl.q::MapAt m2 MB::Zi (A++C)::Zk (A2++C2)::Own s 3 (Zg ids)::Zq b4::cmC b3 c sg sp::Hs)).cons λ _ h=>h.cons λ _ h=>h.restTru2
   have hw:Sat R (Zf f (Zgd x.id pl).r::ZF q (Zgd x.id pl).q::pts a (Zp x)::pts p (Zh (ZfG b' x) m1 m2)::MapAt m1 MF::MapAt m2 MB::Zi (A++C)::Zk (A2++C2)::Own s 3 (Zg ids)::Zq b4::cmC b3 c sg sp::Hs) w:=hw;have hw:Sat R (MapAt m2 MB::Zf f (Zgd x.id pl).r::ZF q (Zgd x.id pl).q::pts a (Zp x)::pts p (Zh (ZfG b' x) m1 m2)::MapAt m1 MF::Zi (A++C)::Zk (A2++C2)::Own s 3 (Zg ids)::Zq b4::cmC b3 c sg sp::Hs) w:=hw.arr;refine MapAt.del Zu7 hw x.id λ w hw=>?_;rw [hMB,ZsY hbm] at hw;have hn2:(Zgd x.id pl).n=x.flt:=(Zer (r:=pl.r) (o:=x.id)).1.trans hm.num;have hl2:ZaQ (ZfG b' x) (A++(f,q,Zgd x.id pl)::C) (A2++C2):=⟨hl.fset hm (Zgd x.id),hl.bdel hi.core.ids⟩;have hMF2:MF=(A++(f,q,Zgd x.id pl)::C).map flV:=by rw [hMF];exact Ze4 hn2 hm.num
   have hlater:∀ y∈b.L.drop (j + 1),y.id≠x.id:=λ y hy=>by
    have h1:=k.ids.sublist (List.drop_sublist j b.L);rw [hdrop] at h1;have:=(List.pairwise_cons.1 h1).1 y hy;omega
   refine ⟨⟨j + 1,ZfG b' x,rfl,hjl,⟨hexp _ rfl,Zh3 hi.core hxL (by omega),hi.now,λ y hy=>?_⟩,?_⟩,by dsimp only;omega⟩
   ·exact Zcl.2 ⟨hi.left y (by rw [hdrop];exact List.mem_cons_of_mem _ hy),hlater y hy⟩
   ·have hw:Sat R (Zf f (Zgd x.id pl).r::ZF q (Zgd x.id pl).q::pts p (Zh (ZfG b' x) m1 m2)::MapAt m1 MF::MapAt m2 ((A2++C2).map bkV)::Zi (A++C)::Zk (A2++C2)::Own s 3 (Zg ids)::pts a (Zp x)::Zq b4::cmC b3 c sg sp::Hs) w:=hw.arr
    have hw:=Zbo hl2 hMF2 rfl hw;exact hw.swap.cons λ _ h=>h.cons λ _ h=>h.drop
 ·have hje:j=b.L.length:=by omega
  subst hje;have htk:ZdF b c.time=b':=by rw [hi.res,List.drop_length];rfl
  obtain ⟨m1,m2,fs,xs,hl,hw⟩:=Sat.book.1 hw.swap;refine Zd.mk rfl ⟨some m1,oA hw,?_⟩;have hw:Sat R (MapAt m1 (fs.map flV)::pts p (Zh b' m1 m2)::MapAt m2 (xs.map bkV)::Zi fs::Zk xs::Own s 3 (Zg ids)::Zq b4::cmC b3 c sg sp::Hs) w:=hw.arr;refine Zvn (Ziu hi.core hl hw ?_);clear hw;intro s2 w hw;obtain ⟨ns,hns⟩:∃ ns,ns=b'.fl.map Pl.n:=⟨_,rfl⟩;rw [<-hns] at hw;have hnl:ns.length<=8:=by rw [hns,List.length_map];exact hi.core.few
  have hkeys:=(ZkJ k htm).2.2.2.2;rw [htk,<-hns] at hkeys;rw [<-hkeys,htk] at hclock;have hw:Sat R (Own s2 3 (Zg ns)::Zj p b'::Own s 3 (Zg ids)::Zq b4::cmC b3 c sg sp::Hs) w:=by
   refine hw.cons λ _ hw=>Sat.book.2 ⟨m1,m2,fs,xs,hl,?_⟩;exact hw.arr
  refine ⟨λ t w=>∃ (j:Nat) (b2:ZR),t=j/\j<=ns.length/\ZB2 ns c.time b' j b2/\Sat R (Own s2 3 (Zg ns)::Zj p b2::Own s 3 (Zg ids)::Zq b4::cmC b3 c sg sp::Hs) w,λ t _=>ns.length - t.toNat,⟨0,b',rfl,Nat.zero_le _,⟨rfl,hi.core,hi.now,hns.symm⟩,hw⟩,?_⟩;clear hw;rintro _ _ w ⟨j,b2,rfl,hj,hi2,hw⟩;have hsl2:=Own.len hw;rw [List.length_map] at hsl2;refine Br.d (λ hlt=>?_) (λ hge=>?_)
  ·have hjl:j<ns.length:=by omega
   obtain ⟨n,hn⟩:∃ n,n=ns[j]:=⟨_,rfl⟩;have hdrop:ns.drop j=n::ns.drop (j + 1):=by rw [hn];exact List.drop_eq_getElem_cons hjl
   refine Own.ix hw (eqS hw) j rfl hjl ?_;rw [<-hn];have hwr:IntKind.i64.wrap ((j:Int) + 1)=((j + 1:Nat):Int):=by rw [Zl (by omega) (by omega)];omega
   rw [hwr];refine (Zre hi2.core (by rw [hi2.nums,hn];exact List.getElem_mem hjl) hw.swap).use ?_;clear hw;rintro _ w ⟨rfl,hw⟩;have hok:=Zcp (n:=n) hi2.core;refine .inl ⟨rfl,⟨j + 1,ZW n b2,rfl,hjl,⟨?_,hok.1,hok.2.1.now.trans hi2.now,hok.2.1.keys.trans hi2.nums⟩,hw.swap⟩,by dsimp only;omega⟩;rw [hi2.res,hdrop];rfl
  ·have hje:j=ns.length:=by omega
   subst hje;have hfin:Zcz ns b'=b2:=by rw [hi2.res,List.drop_length];rfl
   rw [hfin] at hclock;obtain ⟨m1,m2,fs,xs,hl,hw⟩:=Sat.book.1 hw.swap;refine Zd.mk rfl ⟨b2.now,oA hw,?_⟩;rw [hi2.now];have hw:Sat R (Zq b4::pts p (Zh b2 m1 m2)::MapAt m1 (fs.map flV)::MapAt m2 (xs.map bkV)::Zi fs::Zk xs::Own s2 3 (Zg ns)::Own s 3 (Zg ids)::cmC b3 c sg sp::Hs) w:=hw.arr;refine Za hw (by kernel_rfl) rfl (by simp [Value.cells]) λ w hw=>?_;have hw:=hw.re (rpC b4 ⟨0,emS,0,0,0,0,c.time,[],[]⟩ ZE ZE);refine ⟨_,_,_,_,_,_,_,ZE,ZE,At.own (eqS hw) (by exact ⟨rfl,rfl,rfl,rfl,rfl,rfl,rfl,rfl,rfl,trivial⟩),hK w ht ?_⟩;rw [hclock];exact (Sat.book.2 ⟨m1,m2,fs,xs,hl,hw.drop⟩).cons λ _ h=>h.drop.drop.drop
end
section
open Go Go.VC Tryz
open Classical
variable {R:Cx} {Hs Rest:List HP} {w:World}
abbrev cmA (c:Cm) (sg sp:Sl):Value:=.agg #[.int .i64 c.kind,.string c.pnr,.int .i64 c.flt,.int .i64 c.cls,.int .i64 c.many,.int .i64 c.time,.float .f64 c.sc,.string c.lab,.int .i64 c.rows,.slice sg.a sg.len sg.cap,.slice sp.a sp.len sp.cap]
abbrev ZAN (b4:Nat) (K:Value->World->Prop) (w:World):Prop:=
 ∃ u:Int,∃ u1:ByteArray,∃ u2:Int,∃ u3:Int,∃ u4:Int,∃ u5:Int,∃ u6:Int,∃ u7:Sl,∃ u8:Sl,(At (λ w'=>w'=w) ⟨b4,0,none⟩ [.int .i64 u,.string u1,.int .i64 u2,.int .i64 u3,.int .i64 u4,.int .i64 u5,.int .i64 u6,.slice u7.a u7.len u7.cap,.slice u8.a u8.len u8.cap])/\
  K (.agg #[.int .i64 u,.string u1,.int .i64 u2,.int .i64 u3,.int .i64 u4,.int .i64 u5,.int .i64 u6,.slice u7.a u7.len u7.cap,.slice u8.a u8.len u8.cap]) w
theorem ZBJ {b4:Nat} {r:Rp} {sl sb:Sl} {K:Value->World->Prop} (hw:Sat R (rpC b4 r sl sb::Hs) w) (k:K (.agg (rpV r sl sb).toArray) w):ZAN b4 K w:=
 ⟨_,_,_,_,_,_,_,sl,sb,At.own (eqS hw) (by exact ⟨rfl,rfl,rfl,rfl,rfl,rfl,rfl,rfl,rfl,trivial⟩),k⟩
theorem Zjt {b4:Nat} {r r0:Rp} {sl sb l0 b0:Sl} {K:Value->World->Prop} (hw:Sat R (rpC b4 r0 l0 b0::Hs) w) (k:∀ w',Sat R Hs w'->K (.agg (rpV r sl sb).toArray) w'):
  ∃ t0:Int,∃ t1:ByteArray,∃ t2:Int,∃ t3:Int,∃ t4:Int,∃ t5:Int,∃ t6:Int,∃ t7:Sl,∃ t8:Sl,(Ending.returned (.agg (rpV r sl sb).toArray)=.returned (.agg #[.int .i64 t0,.string t1,.int .i64 t2,.int .i64 t3,.int .i64 t4,.int .i64 t5,.int .i64 t6,.slice t7.a t7.len t7.cap,.slice t8.a t8.len t8.cap]))/\
   ∃ w_6:World,((Instr.storeAt 33 (.pointer ((some ⟨b4,0,none⟩))) (.agg #[.int .i64 t0,.string t1,.int .i64 t2,.int .i64 t3,.int .i64 t4,.int .i64 t5,.int .i64 t6,.slice t7.a t7.len t7.cap,.slice t8.a t8.len t8.cap])).run prog w=.ok () w_6)/\
    Zs prog 36 [.pointer ((some ⟨b4,0,none⟩))] .returning (ZAN b4 K) w_6:=by
 refine ⟨_,_,_,_,_,_,_,sl,sb,rfl,?_⟩;refine Za hw (by kernel_rfl) rfl (by simp [Value.cells]) λ w hw=>?_;have hw:=hw.re (rpC b4 r sl sb);exact ZsN (ZBJ hw (k w hw.drop))
theorem Zb2 {b4:Nat} {r0:Rp} {l0 b0:Sl} {e:Int} {K:Value->World->Prop} (hw:Sat R (rpC b4 r0 l0 b0::Hs) w) (k:∀ w',Sat R Hs w'->K (.agg (rpV (Zbn e) ZE ZE).toArray) w'):
  Zs prog 36 [.pointer ((some ⟨b4,0,none⟩))] (.panicking (ZgB e)) (ZAN b4 K) w:=
 Zxf hw λ w hw=>ZBJ hw (k w hw.drop)
theorem Zct {b4:Nat} (hw:Sat R (Zq b4::Hs) w):Sat R (rpC b4 ⟨0,emS,0,0,0,0,0,[],[]⟩ ZE ZE::Hs) w:=hw
def Zoq (p a:Nat) (b:ZR) (x:Bk) (R:Cx) (Hs:List HP) (w:World):Prop:=∃ (m1 m2:Nat) (fs:List FE) (A2 C2:List BE),ZaQ b fs (A2++(a,x)::C2)/\Ztp A2 C2 x/\
 Sat R (pts p (Zh b m1 m2)::MapAt m1 (fs.map flV)::MapAt m2 ((A2++(a,x)::C2).map bkV)::Zi fs::Zk (A2++(a,x)::C2)::Hs) w
theorem ZiQ {p:Nat} {b:ZR} {s:ByteArray} (k:Core b) (hw:Sat R (Zj p b::Hs) w):
  ZaV prog 43 #[.pointer (some ⟨p,0,none⟩),.string s] w
   (λ ch w'=>∃ e,ch=ZgB e/\ZcV b s=(none,e)/\Sat R (Zj p b::Hs) w')
   (λ v w'=>∃ a x,v=.pointer (some ⟨a,0,none⟩)/\ZcV b s=(some x,0)/\x∈b.L/\Zoq p a b x R Hs w'):=by
 obtain ⟨m1,m2,fs,xs,hl,hw⟩:=Sat.book.1 hw;have hw:Sat R (pts p (Zh b m1 m2)::MapAt m2 (xs.map bkV)::MapAt m1 (fs.map flV)::Zi fs::Zk xs::Hs) w:=hw.arr;refine (Zm1 hw).use ?_ ?_
 ·clear hw
  rintro _ w ⟨⟨v1,h0,hg,rfl⟩,hw⟩;refine .inl ⟨_,rfl,?_⟩;cases hbk:b.bk (Zb9 (ZY s)).1 with
  |none=>rw [(Zm3 hl).2 hbk] at hg;cases hg
  |some x=>
   have hx:=(ZvH k).1 hbk;obtain ⟨A2,a,C2,rfl,hbm⟩:=ZfL hl k.ids hx.1;have:=ZlZ (a:=a) hbm;rw [hx.2,hg] at this;simp only [Option.some.injEq,Value.pointer.injEq] at this;subst this;refine ⟨a,x,rfl,?_,hx.1,m1,m2,fs,A2,C2,hl,hbm,?_⟩
   ·unfold ZcV
    rw [if_neg (λ h=>h h0),hbk]
   ·exact hw.arr
 ·clear hw
  rintro _ w ⟨⟨e,rfl,he⟩,hw⟩;refine .inr ⟨_,rfl,e,rfl,?_,Sat.book.2 ⟨m1,m2,fs,xs,hl,?_⟩⟩
  ·rcases he with ⟨h0,rfl⟩|⟨h0,rfl,hg⟩
   ·unfold ZcV
    rw [if_pos h0]
   ·unfold ZcV
    rw [if_neg (λ h=>h h0),(Zm3 hl).1 hg]
  ·exact hw.arr
theorem Zoq.close {p a:Nat} {b:ZR} {x:Bk} (h:Zoq p a b x R Hs w):Sat R (Zj p b::Hs) w:=by
 obtain ⟨m1,m2,fs,A2,C2,hl,_,hw⟩:=h;exact Sat.book.2 ⟨m1,m2,fs,_,hl,hw⟩
theorem Zqc {p a:Nat} {b:ZR} {x:Bk} (k:Core b) (h:Zoq p a b x R Hs w):
  Zo prog 53 #[.pointer (some ⟨p,0,none⟩),.pointer (some ⟨a,0,none⟩)] w λ v w'=>∃ sl sb:Sl,v=.agg (rpV (Zdx b x) sl sb).toArray/\
   Sat R (Own sl 3 (Zg (Zdx b x).left)::Own sb 9 ((Zdx b x).labs.map Value.string)::Zj p b::Hs) w':=by
 obtain ⟨m1,m2,fs,A2,C2,hl,hbm,hw⟩:=h;have hxL:x∈b.L:=by rw [<-hl.bk];exact List.mem_map.2 ⟨(a,x),by simp,rfl⟩
 have hnx:=k.next;have hbk:=(k.each x hxL).id;obtain ⟨pl,hat⟩:=k.at_of hxL;obtain ⟨A,f,q,C,rfl,hm⟩:=ZcZ hl k.nums hat;have htell:Zdx b x=Zdw pl x:=by unfold Zdx;rw [hat]
 rw [htell];obtain ⟨MF,hMF⟩:∃ M,M=(A++(f,q,pl)::C).map flV:=⟨_,rfl⟩;obtain ⟨MB,hMB⟩:∃ M,M=(A2++(a,x)::C2).map bkV:=⟨_,rfl⟩;rw [<-hMF,<-hMB] at hw;have hw:Sat R (Zi (A++(f,q,pl)::C)::Zk (A2++(a,x)::C2)::pts p (Zh b m1 m2)::MapAt m1 MF::MapAt m2 MB::Hs) w:=hw.arr;have hw:=Zba.1 hw;have hw:Sat R (Zk (A2++(a,x)::C2)::Zf f pl.r::ZF q pl.q::Zi (A++C)::pts p (Zh b m1 m2)::MapAt m1 MF::MapAt m2 MB::Hs) w:=hw.arr;have hw:=ZcK.1 hw;have hw:Sat R (pts p (Zh b m1 m2)::MapAt m1 MF::pts a (Zp x)::Zf f pl.r::ZF q pl.q::MapAt m2 MB::Zi (A++C)::Zk (A2++C2)::Hs) w:=hw.arr;rw [hMF] at hw;refine (Zfa (by omega) hm hw).use ?_;clear hw;rintro _ w ⟨sl,sb,rfl,hw⟩;refine ⟨_,rfl,sl,sb,rfl,?_⟩;refine hw.cons λ _ hw=>hw.cons λ _ hw=>?_;rw [<-hMF] at hw;have hw:Sat _ (Zf f pl.r::ZF q pl.q::pts a (Zp x)::pts p (Zh b m1 m2)::MapAt m1 MF::MapAt m2 MB::Zi (A++C)::Zk (A2++C2)::Hs) w:=hw.arr;exact Zeo hl hMF hMB hw
set_option maxHeartbeats 1000000 in
theorem Zqz {p:Nat} {b:ZR} {c:Cm} {sg sp:Sl} (k:Core b) (hg:RoI R sg c.grps) (hgl:c.grps.length<=17592186043904) (hp:sp.len=c.parts.length) (hw:Sat R (Zj p b::Hs) w):
  Zo prog 16 #[.pointer (some ⟨p,0,none⟩),cmA c sg sp] w
   λ v w'=>∃ sl sb:Sl,v=.agg (rpV (ZdJ b c) sl sb).toArray/\Sat R (Own sl 3 (Zg (ZdJ b c).left)::Own sb 9 ((ZdJ b c).labs.map Value.string)::Zj p b::Hs) w':=by
 apply ZAF
 suffices H:∀ K:Value->World->Prop,(∀ sl sb w',Sat R (Own sl 3 (Zg (ZdJ b c).left)::Own sb 9 ((ZdJ b c).labs.map Value.string)::Zj p b::Hs) w'->K (.agg (rpV (ZdJ b c) sl sb).toArray) w')->B16 (some ⟨p,0,none⟩) c.kind c.pnr c.flt c.cls c.many c.time c.sc c.lab c.rows sg sp K w from
  H _ (λ sl sb w' h=>⟨sl,sb,rfl,h⟩)
 intro K hK;have hKe:∀ e w',ZdJ b c=Zbn e->Sat R (Zj p b::Hs) w'->K (.agg (rpV (Zbn e) ZE ZE).toArray) w':=λ e w' he hw=>by
  have:=hK ZE ZE w';rw [he] at this;exact this (Own.nil (Own.nil hw))
 refine Zb hw λ b3 w hw=>Zb hw λ b4 w hw=>?_;have hw:Sat R (Zq b4::cmC b3 c sg sp::Zj p b::Hs) w:=hw;refine ⟨λ w=>(ZaJ c/\c.kind=9)/\Sat R (Zq b4::cmC b3 c sg sp::Zj p b::Hs) w,?_,?_⟩
 ·refine ⟨c.kind,c.pnr,c.flt,c.cls,c.many,c.time,c.sc,c.lab,c.rows,sg,sp,At.own (eqS hw) (by exact ⟨rfl,rfl,rfl,rfl,rfl,rfl,rfl,rfl,rfl,rfl,rfl,trivial⟩),?_⟩
  refine (Ze8 hg hgl hp hw).use ?_;clear hw;rintro _ w ⟨rfl,hw⟩;refine .inl ⟨_,rfl,Br.d (λ hr=>?_) (λ hr=>?_)⟩
  ·refine ⟨c.kind,oA hw,?_⟩
   refine ZbH (λ h=>.inl ⟨rfl,⟨hr,by simpa using h⟩,hw⟩) (λ h=>.inr ⟨_,rfl,Zb2 (Zct hw) λ w hw=>hKe 1 w ?_ hw.drop⟩);unfold ZdJ;rw [if_pos (.inr (by simpa using h))]
  ·refine ZbH (λ h=>by cases h) (λ h=>.inr ⟨_,rfl,Zb2 (Zct hw) λ w hw=>hKe 1 w ?_ hw.drop⟩)
   unfold ZdJ;rw [if_pos (.inl hr)]
 clear hw;rintro _ w ⟨hr,hw⟩;have hno:¬ (¬ ZaJ c\/c.kind≠9):=λ h=>h.elim (λ h=>h hr.1) (λ h=>h hr.2);refine ⟨c.pnr,oA hw,Br.sne (λ hs=>?_) (λ hs=>?_)⟩
 ·refine ⟨c.pnr,oA hw,?_⟩
  have hs':c.pnr≠emS:=hs;have hshow:∀ y,ZcV b c.pnr=y->ZdJ b c=(match y with|(none,e)=>Zbn e|(some x,_)=>Zdx b x):=λ y hy=>by
   unfold ZdJ;rw [if_neg hno,if_pos hs',hy];obtain ⟨o,e⟩:=y;cases o<;>rfl
  have hw:Sat R (Zj p b::Zq b4::cmC b3 c sg sp::Hs) w:=hw.arr;refine (ZiQ k hw).use ?_ ?_
  ·clear hw
   rintro _ w ⟨a,x,rfl,hn,hxL,hw⟩;have hsh:=hshow _ hn;refine .inl ⟨_,rfl,?_⟩;refine (Zqc k hw).use ?_;clear hw;rintro _ w ⟨sl,sb,rfl,hw⟩;refine .inl ?_;have hw:Sat R (Zq b4::Own sl 3 (Zg (Zdx b x).left)::Own sb 9 ((Zdx b x).labs.map Value.string)::Zj p b::cmC b3 c sg sp::Hs) w:=hw.arr;refine Zjt (Zct hw) λ w hw=>?_;have:=hK sl sb w;rw [hsh] at this;exact this (hw.cons λ _ h=>h.cons λ _ h=>h.cons λ _ h=>h.drop)
  ·clear hw
   rintro _ w ⟨e,rfl,hn,hw⟩;have hw:Sat R (Zq b4::Zj p b::cmC b3 c sg sp::Hs) w:=hw.swap;exact .inr ⟨_,rfl,Zb2 (Zct hw) λ w hw=>hKe e w (hshow _ hn) (hw.cons λ _ h=>h.drop)⟩
 ·have hs':¬ c.pnr≠emS:=λ h=>h hs
  have hshow:∀ y,b.at c.flt=y->ZdJ b c=(match y with|none=>Zbn 2|some p=>⟨0,emS,0,c.flt,0,(p.q.length:Int),0,Zr p.r,[]⟩):=λ y hy=>by
   unfold ZdJ;rw [if_neg hno,if_neg hs',hy];cases y<;>rfl
  refine ⟨c.flt,oA hw,?_⟩;have hw:Sat R (Zj p b::Zq b4::cmC b3 c sg sp::Hs) w:=hw.arr;obtain ⟨m1,m2,fs,xs,hl,hw⟩:=Sat.book.1 hw;refine (Zku hw).use ?_ ?_
  ·clear hw
   rintro _ w ⟨⟨v1,v2,hgm,rfl⟩,hw⟩;obtain ⟨A,f,q,C,pl,rfl,hm,hat,hv⟩:=Zka hl k hgm;simp only [Value.agg.injEq,Array.mk.injEq,List.cons.injEq,Value.pointer.injEq,and_true] at hv;obtain ⟨rfl,rfl⟩:=hv;have hsh:=hshow _ hat;have hpl:=ZaA hat;have hqok:=k.qok pl hpl.1;obtain ⟨MF,hMF⟩:∃ M,M=(A++(f,q,pl)::C).map flV:=⟨_,rfl⟩;obtain ⟨MB,hMB⟩:∃ M,M=xs.map bkV:=⟨_,rfl⟩;rw [<-hMF,<-hMB] at hw;have hw:Sat R (Zi (A++(f,q,pl)::C)::cmC b3 c sg sp::Zq b4::pts p (Zh b m1 m2)::MapAt m1 MF::MapAt m2 MB::Zk xs::Hs) w:=hw.arr;have hw:=Zba.1 hw;refine .inl ⟨_,_,rfl,?_⟩;refine Zb hw λ b5 w hw=>?_;refine Za hw (by kernel_rfl) rfl (by simp [Value.cells]) λ w hw=>?_;have hw:=hw.re (fqC b5 f q);have toS:∀ {A:List HP} {R:Cx} {w:World},Sat R (cmC b3 c sg sp::fqC b5 f q::A) w->Sat R [cmC b3 c sg sp,fqC b5 f q,VC.tru] w:=λ h=>h.cons λ _ h=>h.restTru2;refine ZA (Sat R [cmC b3 c sg sp,fqC b5 f q,VC.tru]) hw (λ w hw=>?_) λ w hw=>?_
   ·exact toS (hw.arr (Hs':=cmC b3 c sg sp::fqC b5 f q::Zf f pl.r::ZF q pl.q::Zi (A++C)::Zq b4::pts p (Zh b m1 m2)::MapAt m1 MF::MapAt m2 MB::Zk xs::Hs))
   refine ⟨c.flt,At.own (λ _ h=>h) (by exact ⟨rfl,trivial⟩),some ⟨f,0,none⟩,At.own (λ _ h=>h) (by exact ⟨rfl,trivial⟩),some ⟨q,0,none⟩,At.own (λ _ h=>h) (by exact ⟨rfl,trivial⟩),?_⟩;refine (Zb8 hw.swap).use ?_;clear hw;rintro _ w ⟨sl,rfl,hw⟩;refine .inl ⟨sl,rfl,?_,?_⟩
   ·exact toS (hw.arr (Hs':=cmC b3 c sg sp::fqC b5 f q::Own sl 3 (Zg (Zr pl.r))::Zf f pl.r::ZF q pl.q::Zi (A++C)::Zq b4::pts p (Zh b m1 m2)::MapAt m1 MF::MapAt m2 MB::Zk xs::Hs))
   have hw:Sat R (ZF q pl.q::Own sl 3 (Zg (Zr pl.r))::Zf f pl.r::Zi (A++C)::cmC b3 c sg sp::fqC b5 f q::Zq b4::pts p (Zh b m1 m2)::MapAt m1 MF::MapAt m2 MB::Zk xs::Hs) w:=hw.arr;refine (Zhu (by have:=hqok.len;omega) hw).use ?_;clear hw;rintro _ w ⟨t,rfl,hw⟩;have htl:=ZP.len hw;rw [List.length_map] at htl;have hw:=hw.drop;refine .inl ⟨t,rfl,?_,?_⟩
   ·exact toS (hw.arr (Hs':=cmC b3 c sg sp::fqC b5 f q::ZF q pl.q::Own sl 3 (Zg (Zr pl.r))::Zf f pl.r::Zi (A++C)::Zq b4::pts p (Zh b m1 m2)::MapAt m1 MF::MapAt m2 MB::Zk xs::Hs))
   rw [htl];have hw:Sat R (Zq b4::Own sl 3 (Zg (Zr pl.r))::Zf f pl.r::ZF q pl.q::pts p (Zh b m1 m2)::MapAt m1 MF::MapAt m2 MB::Zi (A++C)::Zk xs::cmC b3 c sg sp::fqC b5 f q::Hs) w:=hw.arr;refine Za hw (by kernel_rfl) rfl (by simp [Value.cells]) λ w hw=>?_;have hw:=hw.re (rpC b4 ⟨0,emS,0,c.flt,0,(pl.q.length:Int),0,Zr pl.r,[]⟩ sl ZE);refine ZsN (ZBJ hw ?_);have:=hK sl ZE w;rw [hsh] at this;refine this ?_;refine hw.drop.cons λ _ hw=>Own.nil ?_;exact (Zbo hl hMF hMB hw).cons λ _ h=>h.drop.drop
  ·clear hw
   rintro _ w ⟨rfl,hno2,hw⟩;have hw:Sat R (Zq b4::cmC b3 c sg sp::pts p (Zh b m1 m2)::MapAt m1 (fs.map flV)::MapAt m2 (xs.map bkV)::Zi fs::Zk xs::Hs) w:=hw.arr;refine .inr ⟨_,rfl,Zb2 (Zct hw) λ w hw=>hKe 2 w (hshow _ ((Zgg hl).1 hno2)) (Sat.book.2 ⟨m1,m2,fs,xs,hl,hw.drop⟩)⟩
theorem Zdq {g:FuncId} {ars:Array Value} {p b3 b4:Nat} {b nb:ZR} {c:Cm} {res:Rp} {sg sp:Sl} {K:Value->World->Prop}
  (h:ZaV prog g ars w (λ ch w'=>∃ e,ch=ZgB e/\(nb,res)=(b,Zbn e)/\Sat R (Zj p b::Zq b4::cmC b3 c sg sp::Hs) w')
   (λ v w'=>∃ sl sb:Sl,v=.agg (rpV res sl sb).toArray/\Sat R (Own sl 3 (Zg res.left)::Own sb 9 (res.labs.map Value.string)::Zj p nb::Zq b4::cmC b3 c sg sp::Hs) w'))
  (hK:∀ sl sb w',Sat R (Own sl 3 (Zg res.left)::Own sb 9 (res.labs.map Value.string)::Zj p nb::Hs) w'->K (.agg (rpV res sl sb).toArray) w'):
  Calls prog g ars w λ e w_5=>
   (∃ t0:Int,∃ t1:ByteArray,∃ t2:Int,∃ t3:Int,∃ t4:Int,∃ t5:Int,∃ t6:Int,∃ t7:Sl,∃ t8:Sl,(e=.returned (.agg #[.int .i64 t0,.string t1,.int .i64 t2,.int .i64 t3,.int .i64 t4,.int .i64 t5,.int .i64 t6,.slice t7.a t7.len t7.cap,.slice t8.a t8.len t8.cap]))/\
    ∃ w_6:World,((Instr.storeAt 33 (.pointer ((some ⟨b4,0,none⟩))) (.agg #[.int .i64 t0,.string t1,.int .i64 t2,.int .i64 t3,.int .i64 t4,.int .i64 t5,.int .i64 t6,.slice t7.a t7.len t7.cap,.slice t8.a t8.len t8.cap])).run prog w_5=.ok () w_6)/\
    Zs prog 36 [.pointer ((some ⟨b4,0,none⟩))] .returning (λ w_7=>ZAN b4 K w_7) w_6)\/
   (∃ ch:List PanicEntry,(e=.panicked ch)/\Zs prog 36 [.pointer ((some ⟨b4,0,none⟩))] (.panicking ch) (λ w_8=>ZAN b4 K w_8) w_5):=by
 refine h.use ?_ ?_
 ·rintro _ w ⟨sl,sb,rfl,hw⟩
  have hw:Sat R (Zq b4::Own sl 3 (Zg res.left)::Own sb 9 (res.labs.map Value.string)::Zj p nb::cmC b3 c sg sp::Hs) w:=hw.arr;exact .inl (Zjt (Zct hw) λ w hw=>hK sl sb w (hw.cons λ _ h=>h.cons λ _ h=>h.cons λ _ h=>h.drop))
 ·rintro _ w ⟨e,rfl,he,hw⟩
  have h1:=congrArg Prod.fst he;have h2:=congrArg Prod.snd he;dsimp only at h1 h2;subst h1 h2;exact .inr ⟨_,rfl,Zb2 (Zct hw.swap) λ w hw=>hK ZE ZE w (Own.nil (Own.nil (hw.cons λ _ h=>h.drop)))⟩
set_option maxHeartbeats 2000000 in
theorem ZpL {p:Nat} {b:ZR} {c:Cm} {sg sp:Sl} (k:Zaw b) (hsc:c.sc<18446744073709551616) (hg:RoI R sg c.grps) (hgl:c.grps.length<=17592186043904) (hp:SlR R.m sp (Zi3 c.parts)) (hw:Sat R (Zj p b::Hs) w):
  Zo prog 12 #[.pointer (some ⟨p,0,none⟩),cmA c sg sp] w
   λ v w'=>∃ sl sb:Sl,v=.agg (rpV (Zah b c).2 sl sb).toArray/\Sat R (Own sl 3 (Zg (Zah b c).2.left)::Own sb 9 ((Zah b c).2.labs.map Value.string)::Zj p (Zah b c).1::Hs) w':=by
 have hplen:sp.len=c.parts.length:=by have:=hp.len;simpa using this
 apply ZAG
 suffices H:∀ K:Value->World->Prop,(∀ sl sb w',Sat R (Own sl 3 (Zg (Zah b c).2.left)::Own sb 9 ((Zah b c).2.labs.map Value.string)::Zj p (Zah b c).1::Hs) w'->K (.agg (rpV (Zah b c).2 sl sb).toArray) w')->B12 (some ⟨p,0,none⟩) c.kind c.pnr c.flt c.cls c.many c.time c.sc c.lab c.rows sg sp K w from
  H _ (λ sl sb w' h=>⟨sl,sb,rfl,h⟩)
 intro K hK;refine Zb hw λ b3 w hw=>Zb hw λ b4 w hw=>?_;have hw:Sat R (Zq b4::cmC b3 c sg sp::Zj p b::Hs) w:=hw;refine ⟨c.kind,c.pnr,c.flt,c.cls,c.many,c.time,c.sc,c.lab,c.rows,sg,sp,At.own (eqS hw) (by exact ⟨rfl,rfl,rfl,rfl,rfl,rfl,rfl,rfl,rfl,rfl,rfl,trivial⟩),?_⟩;refine (Ze8 hg hgl hplen hw).use ?_;clear hw;rintro _ w ⟨rfl,hw⟩;refine .inl ⟨_,rfl,ZbH (λ h=>.inl ⟨rfl,?_⟩) (λ h=>.inr ⟨_,rfl,?_⟩)⟩
 rotate_left
 ·have hr:¬ ZaJ c:=of_decide_eq_false h
  have e:Zah b c=(b,Zbn 1):=by unfold Zah;rw [if_pos hr]
  rw [e] at hK;exact Zb2 (Zct hw) λ w hw=>hK ZE ZE w (Own.nil (Own.nil hw.drop))
 have hr:ZaJ c:=of_decide_eq_true h;have hrr:¬ ¬ ZaJ c:=λ h=>h hr;have hw:Sat R (Zj p b::Zq b4::cmC b3 c sg sp::Hs) w:=hw.arr;refine ⟨c.kind,oA hw,Br.e (λ h1=>?_) (λ h1=>?_)⟩
 ·refine ⟨c.kind,c.pnr,c.flt,c.cls,c.many,c.time,c.sc,c.lab,c.rows,sg,sp,At.own (eqS hw) (by exact ⟨rfl,rfl,rfl,rfl,rfl,rfl,rfl,rfl,rfl,rfl,rfl,trivial⟩),?_⟩
  have e:Zah b c=ZdK b c:=by unfold Zah;rw [if_neg hrr,if_pos h1]
  rw [e] at hK;refine Zdq (b:=b) (nb:=(ZdK b c).1) (res:=(ZdK b c).2) (c:=c) (p:=p) (b3:=b3) (sg:=sg) (sp:=sp) ?_ hK;refine (ZpG (by have:=k.core.few;omega) hg hp hw).use ?_ ?_
  ·rintro _ w ⟨he,sl,rfl,hw⟩
   refine .inl ⟨_,rfl,sl,ZE,?_⟩;rw [he];exact ⟨rfl,hw.cons λ _ h=>Own.nil h⟩
  ·rintro _ w ⟨e,rfl,he,hw⟩
   exact .inr ⟨_,rfl,e,rfl,he,hw⟩
 refine ⟨λ t w=>t=decide (c.kind=2\/c.kind=7)/\Sat R (Zj p b::Zq b4::cmC b3 c sg sp::Hs) w,?_,?_⟩
 ·refine Br.e (λ h2=>⟨?_,hw⟩) (λ h2=>⟨?_,hw⟩)
  ·rw [decide_eq_true (.inl h2),h2];rfl
  ·by_cases h7:c.kind=7
   ·rw [decide_eq_true (.inr h7),h7];rfl
   ·rw [decide_eq_false (by omega)]
    exact beq_eq_false_iff_ne.2 h7
 clear hw;rintro _ _ w ⟨rfl,hw⟩;refine Br.d (λ h27=>?_) (λ h27=>?_)
 ·refine ⟨c.kind,c.pnr,c.flt,c.cls,c.many,c.time,c.sc,c.lab,c.rows,sg,sp,At.own (eqS hw) (by exact ⟨rfl,rfl,rfl,rfl,rfl,rfl,rfl,rfl,rfl,rfl,rfl,trivial⟩),?_⟩
  rcases h27 with h2|h7
  ·have e:Zah b c=Zc8 b c:=by unfold Zah;rw [if_neg hrr,if_neg h1,if_pos h2]
   rw [e] at hK;exact Zdq (b:=b) (nb:=(Zc8 b c).1) (res:=(Zc8 b c).2) (c:=c) (p:=p) (Zti h2 k.core hr hw) hK
  ·have e:Zah b c=Zbs b c:=by unfold Zah;rw [if_neg hrr,if_neg h1,if_neg (by omega),if_pos h7]
   rw [e] at hK;exact Zdq (b:=b) (nb:=(Zbs b c).1) (res:=(Zbs b c).2) (c:=c) (p:=p) (Zth h7 k hr hsc hw) hK
 refine Br.e (λ h8=>?_) (λ h8=>Br.e (λ h9=>?_) (λ h9=>?_))
 ·refine ⟨c.kind,c.pnr,c.flt,c.cls,c.many,c.time,c.sc,c.lab,c.rows,sg,sp,At.own (eqS hw) (by exact ⟨rfl,rfl,rfl,rfl,rfl,rfl,rfl,rfl,rfl,rfl,rfl,trivial⟩),?_⟩
  have e:Zah b c=ZbE b c:=by unfold Zah;rw [if_neg hrr,if_neg h1,if_neg (by omega),if_neg (by omega),if_pos h8]
  rw [e] at hK;exact Zdq (b:=b) (nb:=(ZbE b c).1) (res:=(ZbE b c).2) (c:=c) (p:=p) (ZpA k.core hr hw) hK
 ·refine ⟨c.kind,c.pnr,c.flt,c.cls,c.many,c.time,c.sc,c.lab,c.rows,sg,sp,At.own (eqS hw) (by exact ⟨rfl,rfl,rfl,rfl,rfl,rfl,rfl,rfl,rfl,rfl,rfl,trivial⟩),?_⟩
  have e:Zah b c=(b,ZdJ b c):=by unfold Zah;rw [if_neg hrr,if_neg h1,if_neg (by omega),if_neg (by omega),if_neg h8,if_pos h9]
  rw [e] at hK;refine Zdq (b:=b) (nb:=b) (res:=ZdJ b c) (c:=c) (p:=p) (b3:=b3) (sg:=sg) (sp:=sp) ?_ hK;refine (Zqz k.core hg hgl hplen hw).use ?_;rintro _ w ⟨sl,sb,rfl,hw⟩;exact .inl ⟨_,rfl,sl,sb,rfl,hw⟩
 ·have hap:∀ y,ZcV b c.pnr=y->Zah b c=(match y with|(none,e)=>(b,Zbn e)|(some x,_)=>ZgT b x c):=λ y hy=>by
   unfold Zah;rw [if_neg hrr,if_neg h1,if_neg (by omega),if_neg (by omega),if_neg h8,if_neg h9,hy];obtain ⟨o,e⟩:=y;cases o<;>rfl
  have hk36:c.kind=3\/c.kind=4\/c.kind=5\/c.kind=6:=by have:=hr.kind;omega
  have toS:∀ {A:List HP} {R:Cx} {w:World},Sat R (cmC b3 c sg sp::A) w->Sat R [cmC b3 c sg sp,VC.tru] w:=λ h=>h.restTru2;refine ZA (Sat R [cmC b3 c sg sp,VC.tru]) hw (λ w hw=>?_) λ w hw=>?_
  ·exact toS (hw.arr (Hs':=cmC b3 c sg sp::Zj p b::Zq b4::Hs))
  refine ⟨c.pnr,At.own (λ _ h=>h) (by exact ⟨rfl,trivial⟩),c.kind,c.pnr,c.flt,c.cls,c.many,c.time,c.sc,c.lab,c.rows,sg,sp,At.own (λ _ h=>h) (by exact ⟨rfl,rfl,rfl,rfl,rfl,rfl,rfl,rfl,rfl,rfl,rfl,trivial⟩),?_⟩;refine (ZiQ k.core hw).use ?_ ?_
  ·clear hw
   rintro _ w ⟨a,x,rfl,hn,hxL,hop⟩;have e:=hap _ hn;rw [e] at hK;refine .inl ⟨_,rfl,?_,?_⟩
   ·exact toS (hop.close.arr (Hs':=cmC b3 c sg sp::Zj p b::Zq b4::Hs))
   obtain ⟨m1,m2,fs,A2,C2,hl,hbm,hw⟩:=hop;refine (Zua hk36 k.core (by have:=hr.lab;omega) hl hbm hw).use ?_ ?_
   ·clear hw
    rintro _ w ⟨sl,sb,rfl,hw⟩;have hS:=toS (hw.arr (Hs':=cmC b3 c sg sp::Own sl 3 (Zg (ZgT b x c).2.left)::Own sb 9 ((ZgT b x c).2.labs.map Value.string)::Zj p (ZgT b x c).1::Zq b4::Hs));have hw:Sat R (Zq b4::Own sl 3 (Zg (ZgT b x c).2.left)::Own sb 9 ((ZgT b x c).2.labs.map Value.string)::Zj p (ZgT b x c).1::cmC b3 c sg sp::Hs) w:=hw.arr;refine .inl ?_;obtain ⟨t0,t1,t2,t3,t4,t5,t6,t7,t8,he,h⟩:=Zjt (r:=(ZgT b x c).2) (sl:=sl) (sb:=sb) (K:=K) (Zct hw) λ w hw=>hK sl sb w (hw.cons λ _ h=>h.cons λ _ h=>h.cons λ _ h=>h.drop);exact ⟨t0,t1,t2,t3,t4,t5,t6,t7,t8,he,hS,h⟩
   ·clear hw
    rintro _ w ⟨e,rfl,he,hw⟩;dsimp only at hK;rw [he] at hK;exact .inr ⟨_,rfl,Zb2 (Zct hw.swap) λ w hw=>hK ZE ZE w (Own.nil (Own.nil (hw.cons λ _ h=>h.drop)))⟩
  ·clear hw
   rintro _ w ⟨e,rfl,hn,hw⟩;have e2:=hap _ hn;rw [e2] at hK;exact .inr ⟨_,rfl,Zb2 (Zct hw.swap) λ w hw=>hK ZE ZE w (Own.nil (Own.nil (hw.cons λ _ h=>h.drop)))⟩
end
end Go.Proofs.YtlplemdmegpoeaaGreatDoor




namespace Go.Proofs.YtlplemdmegpoeaaGreatDoor
section
open Go Go.VC Tryz
open Classical
variable {R:Cx} {Hs Rest:List HP} {w:World}
theorem Zx {a b:List Int} (h1:Zv a) (h2:Zv b):Zv (a++b):=λ x hx=>(List.mem_append.1 hx).elim (h1 x) (h2 x)
theorem Zdo {α:Type} {f:α->List Int} {l:List α} (h:∀ x∈l,Zv (f x)):Zv (l.map f).flatten:=λ y hy=>by
 obtain ⟨r,h1,h2⟩:=List.mem_flatten.1 hy;obtain ⟨x,hx,rfl⟩:=List.mem_map.1 h1;exact h x hx y h2
theorem ZI {x:Int} (h:0<=x/\x<18446744073709551616):Zv (Zm [x]):=ZbW λ y hy=>by rw [List.mem_singleton.1 hy];exact h
theorem Zdn {d:List Int} (h:Zv d) (hl:d.length<1000000):Zv (ZaX d):=Zx (ZjF (by omega)) h
theorem ZlU {s:ByteArray} (h:s.size<1000000):Zv (Zqr s):=Zdn (ZlW s) (by rw [Zaj];exact h)
theorem ZsV {x:Nat} (h:x<18446744073709551616):Zv (Zzd x):=ZjF (ZnT h)
theorem Zol {r:Rp} (h:Ztl r):Zv (rpB r):=by
 have r1:=h.code;have r2:=h.pnr;have r3:=h.state;have r4:=h.flt;have r5:=h.cls;have r6:=h.many;have r7:=h.time;have r8:=h.ll;have r9:=h.bl;unfold rpB;rw [Zcj r1.1,Zcj r3.1,Zcj r4.1,Zcj r5.1,Zcj r6.1,Zcj r7.1,ZzC λ n hn=>(h.left n hn).1];refine Zx (ZI (by omega)) (Zx (ZlU (by omega)) (Zx (ZI (by omega)) (Zx (ZI (by omega)) (Zx (ZI (by omega)) (Zx (ZI (by omega)) (Zx (ZI (by omega)) (Zx (ZI (by omega)) (Zx (ZbW λ x hx=>?_) (Zx (ZI (by omega)) (Zdo λ x hx=>ZlU ?_))))))))))
 ·have:=h.left x hx
  omega
 ·have:=h.labs x hx
  omega
theorem Zvd {r:Rp} (h:Ztl r):RpW r:=by
 refine ⟨λ x hx=>?_,by have:=h.pnr;omega,by have:=h.ll;omega,by have:=h.bl;omega,λ s hs=>by have:=h.labs s hs;omega⟩;have r1:=h.code;have r3:=h.state;have r4:=h.flt;have r5:=h.cls;have r6:=h.many;have r7:=h.time;rcases List.mem_append.1 hx with hx|hx
 ·simp only [List.mem_cons,List.not_mem_nil,or_false] at hx
  omega
 ·have:=h.left x hx
  omega
end
section
open Go Go.VC Tryz
open Classical
abbrev mI:Int:=1099511627776
structure Rq where
 kind:Int
 client:Int
 seq:Int
 token:Int
 cmd:List Int
def inI (n:Int):Prop:=0<=n/\n<=1099511627776
structure ZbJ (q:Rq):Prop where
 client:inI q.client
 seq:inI q.seq
 token:inI q.token
 cmd:q.cmd.length<=4000
 kind:(q.kind=1/\q.client=0/\q.seq=0/\q.cmd.length=0)\/(q.kind=2/\q.token=0)\/(q.kind=3/\q.token=0/\q.seq=0/\q.cmd.length=0)\/(q.kind=4/\q.client=0/\q.seq=0/\q.token=0)
def rqB (q:Rq):List Int:=Zm [q.kind,q.client,q.seq,q.token]++ZaX q.cmd
def Zv2 (m:Int) (r:Rd):Rq × Rd:=
 let k:=Zc m r
 let c:=Zc mI k.2
 let s:=Zc mI c.2
 let t:=Zc mI s.2
 let d:=ZL 4000 t.2
 (⟨k.1,c.1,s.1,t.1,d.1⟩,d.2)
def Zp1:Rq:=⟨0,0,0,0,[]⟩
noncomputable def Za8 (m:Int) (bs:List Int):Rq × Int:=if Z5 (Zv2 m ⟨bs,false⟩).2=true/\ZbJ (Zv2 m ⟨bs,false⟩).1 then ((Zv2 m ⟨bs,false⟩).1,0) else (Zp1,6)
noncomputable def Zvr (q:Rq):List Int × Int:=if ZbJ q then (rqB q,0) else ([],1)
theorem ZbJ.k4 {q:Rq} (h:ZbJ q):1<=q.kind/\q.kind<=4:=by
 have:=h.kind;omega
theorem Zv3 {q:Rq} (h:ZbJ q):(rqB q).length<=5000:=by
 have h1:=h.k4;obtain ⟨a1,a2⟩:=h.client;obtain ⟨a3,a4⟩:=h.seq;obtain ⟨a5,a6⟩:=h.token;have h2:=h.cmd;unfold rqB;have l1:=ZX (l:=[q.kind,q.client,q.seq,q.token]) λ x hx=>by
  simp only [List.mem_cons,List.not_mem_nil,or_false] at hx;rcases hx with rfl|rfl|rfl|rfl<;>omega
 have l2:=ZaO (d:=q.cmd) (by omega);rw [List.length_append];simp only [List.length_cons,List.length_nil] at l1;omega
theorem ZzB (a b c d:Int) (rest:List Int):Zm [a,b,c,d]++rest=Zm [a]++(Zm [b]++(Zm [c]++(Zm [d]++rest))):=by
 rw [show Zm [a,b,c,d]=Zm [a]++(Zm [b]++(Zm [c]++Zm [d])) by rw [Zb7 a,Zb7 b,Zb7 c]];simp only [List.append_assoc]
theorem Zv1 {q:Rq} (h:ZbJ q):Zv2 mI ⟨rqB q,false⟩=(q,⟨[],false⟩):=by
 have h1:=h.k4;obtain ⟨a1,a2⟩:=h.client;obtain ⟨a3,a4⟩:=h.seq;obtain ⟨a5,a6⟩:=h.token;have h2:=h.cmd;unfold Zv2 rqB;rw [ZzB];rw [Zt (by omega) (by show q.kind<=1099511627776;omega) (by omega)];dsimp only;rw [Zt (by omega) (by show q.client<=1099511627776;omega) (by omega)];dsimp only;rw [Zt (by omega) (by show q.seq<=1099511627776;omega) (by omega)];dsimp only;rw [Zt (by omega) (by show q.token<=1099511627776;omega) (by omega)];dsimp only;have:=Zcw (d:=q.cmd) (rest:=[]) (most:=4000) (by omega) (by omega);rw [List.append_nil] at this;rw [this]
theorem ZoM {q:Rq} (h:ZbJ q):Za8 mI (rqB q)=(q,0):=by
 unfold Za8;rw [Zv1 h,if_pos ⟨rfl,h⟩]
structure ZpZ where
 code:Int
 client:Int
 seq:Int
 reply:List Int
def ZA3:ZpZ:=⟨0,0,0,[]⟩
end
section
open Go Go.VC Tryz
set_option maxRecDepth 10000
def B140 (C:Int) (D:Int) (E:Int) (F:Int) (m:Sl) (K:Value->World->Prop) (w:World):Prop:=
 New (.cells #[.int .i64 C,.int .i64 D,.int .i64 E,.int .i64 F,m.v] 58 (0,0)) (λ d j=>
 ∃ (o:World->Prop),(∃ y,(Aw j ⟨d,0 + 1,none⟩ [.int .i64 y])/\
 ∃ A,(Aw j ⟨d,0 + 2,none⟩ [.int .i64 A])/\
 ∃ p,(Aw j ⟨d,0 + 3,none⟩ [.int .i64 p])/\
 New (.cells #[.int .i64 y,.int .i64 A,.int .i64 p] 3 (0,0)) (λ G I=>
 Calls prog 212 #[.slice ((some ⟨G,0,none⟩)) 3 3,.func (.func 211) #[] #[]] I λ H k=>
 ∃ q,(H=.returned (.bool q))/\
 Br q
 (K (.bool false) k)
 (∃ g:Sl,(Aw k ⟨d,0 + 4,none⟩ [g.v])/\
 Br (decide ((↑g.len:Int)>4000))
 (K (.bool false) k)
 (o  k))) j)/\
 ∀ (J:Env)  (f:World),o  f->
 ∃ (l:Bool->World->Prop),(∃ r,(Aw f ⟨d,0 + 2,none⟩ [.int .i64 r])/\
 Br (r==0)
 (∃ i:Sl,(Aw f ⟨d,0 + 4,none⟩ [i.v])/\
 l ((↑i.len:Int)==0) f)
 (l false f))/\
 ∀ (L:Env) (n:Bool) (c:World),l n c->
 ∃ e,(Aw c ⟨d,0,none⟩ [.int .i64 e])/\
 Br (e==1)
 (∃ s,(Aw c ⟨d,0 + 1,none⟩ [.int .i64 s])/\
 Br (s==0)
 (K (.bool n) c)
 (K (.bool false) c))
 (Br (e==2)
 (∃ t,(Aw c ⟨d,0 + 3,none⟩ [.int .i64 t])/\
 K (.bool (t==0)) c)
 (Br (e==3)
 (∃ u,(Aw c ⟨d,0 + 3,none⟩ [.int .i64 u])/\
 Br (u==0)
 (K (.bool n) c)
 (K (.bool false) c))
 (Br (e==4)
 (∃ v,(Aw c ⟨d,0 + 1,none⟩ [.int .i64 v])/\
 Br (v==0)
 (∃ x,(Aw c ⟨d,0 + 2,none⟩ [.int .i64 x])/\
 Br (x==0)
 (∃ z,(Aw c ⟨d,0 + 3,none⟩ [.int .i64 z])/\
 K (.bool (z==0)) c)
 (K (.bool false) c))
 (K (.bool false) c))
 (K (.bool false) c))))) w
def ZBx:Sk:=(.seq .leaf (.seq .leaf (.cut [] [] [2,5,6,7,8,9,10,11,12,13,14,15,16,17,18,19] .leaf (.cut [4] [.bool] [4,20,21,22,23,24,25,26,27,28] .leaf .leaf))))
theorem ZyH (c:Int) (d:Int) (e:Int) (f:Int) (b:Sl) (K:Value->World->Prop) (w:World) (h:B140 c d e f b K w):Zo prog 140 #[.agg #[.int .i64 c,.int .i64 d,.int .i64 e,.int .i64 f,b.v]] w K:=cq (sk:=ZBx) h func140
def B211 (a:Int) (K:Value->World->Prop) (w:World):Prop:=
 Br (decide (a<0))
 (K (.bool true) w)
 (K (.bool (decide (a>1099511627776))) w)
theorem Zx6 (a:Int) (K:Value->World->Prop) (w:World) (h:B211 a K w):Zo prog 211 #[.int .i64 a] w K:=cq (sk:=.leaf) h func211
def B81 (i:Sl) (K:Value->World->Prop) (w:World):Prop:=
 ∃ (g:Sl->Int->World->Prop) (l:Sl->Int->World->Nat),(g ⟨none,0,0⟩ 0 w)/\∀ (q:Env) (b:Sl) (c:Int) (f:World),g b c f->
 Br (decide (c<(↑i.len:Int)))
 (Rng c i.len (Zd i.a λ m=>
 ∃ j,(Aw f (Addr.add m c.toNat) [.int .i64 j])/\
 Calls prog 128 #[.int .u64 (IntKind.u64.wrap (if 0>j then 0 else j))] f λ n p=>
 ∃ d:Sl,(n=.returned (d.v))/\
 ∃ k:World,∃ e:Sl,((Builtin.append_ #[47,47] 47 #[b.v,d.v]).run prog p=.ok (e.v) k)/\
 (g e (IntKind.i64.wrap (c + 1)) k)/\l e (IntKind.i64.wrap (c + 1)) k<l b c f))
 (K (b.v) f)
def sk81:Sk:=(.seq .leaf (.seq .leaf (.seq (.seq .leaf (.block (.loop [3,8] [.sl,(.int .i64)] [3,5,8,9,10,11,12,13,14,15,16,17,18] .leaf))) .leaf)))
theorem ZAb (b:Sl) (K:Value->World->Prop) (w:World) (h:B81 b K w):Zo prog 81 #[b.v] w K:=cq (sk:=sk81) h func81
def B76 (A:Int) (C:Int) (D:Int) (E:Int) (j:Sl) (K:Value->World->Prop) (w:World):Prop:=
 New (.cells #[.int .i64 A,.int .i64 C,.int .i64 D,.int .i64 E,j.v] 58 (0,0)) (λ c u=>
 ∃ o p q r,∃ i:Sl,(Aw u ⟨c,0,none⟩ [.int .i64 o,.int .i64 p,.int .i64 q,.int .i64 r,i.v])/\
 Calls prog 140 #[.agg #[.int .i64 o,.int .i64 p,.int .i64 q,.int .i64 r,i.v]] u λ G v=>
 ∃ s,(G=.returned (.bool s))/\
 Br (!s)
 (K (.tuple #[.slice none 0 0,.int .i64 1]) v)
 (Drw v λ b L=>
 ∃ t,(At b ⟨c,0,none⟩ [.int .i64 t])/\
 ∃ l,(At b ⟨c,0 + 1,none⟩ [.int .i64 l])/\
 ∃ m,(At b ⟨c,0 + 2,none⟩ [.int .i64 m])/\
 ∃ n,(At b ⟨c,0 + 3,none⟩ [.int .i64 n])/\
 ∃ e:Sl,(At b ⟨c,0 + 4,none⟩ [e.v])/\
 New (.cells #[.int .i64 t,.int .i64 l,.int .i64 m,.int .i64 n] 3 (0,0)) (λ F x=>
 (b x)/\
 Calls prog 81 #[.slice ((some ⟨F,0,none⟩)) 4 4] x λ H y=>
 ∃ d:Sl,(H=.returned (d.v))/\
 (b y)/\
 Calls prog 83 #[e.v] y λ I z=>
 ∃ f:Sl,(I=.returned (f.v))/\
 (b z)/\
 ∃ k:World,∃ g:Sl,((Builtin.append_ #[47,47] 47 #[d.v,f.v]).run prog z=.ok (g.v) k)/\
 (b k)/\
 K (.tuple #[g.v,.int .i64 0]) k) L)) w
theorem ZAc (c:Int) (d:Int) (e:Int) (f:Int) (b:Sl) (K:Value->World->Prop) (w:World) (h:B76 c d e f b K w):Zo prog 76 #[.agg #[.int .i64 c,.int .i64 d,.int .i64 e,.int .i64 f,b.v]] w K:=cq (sk:=.leaf) h func76
def B92 (c:Option Addr) (K:Value->World->Prop) (w:World):Prop:=
 Calls prog 93 #[.pointer c,.int .u64 1099511627776] w λ b d=>
 ∃ a,(b=.returned (.int .u64 a))/\
 K (.int .i64 (IntKind.i64.wrap a)) d
theorem Zz8 (a:Option Addr) (K:Value->World->Prop) (w:World) (h:B92 a K w):Zo prog 92 #[.pointer a] w K:=cq (sk:=.leaf) h func92
def B71 (m:Sl) (K:Value->World->Prop) (w:World):Prop:=
 New (.cells #[.int .i64 0,.int .i64 0,.int .i64 0,.int .i64 0,.slice none 0 0] 58 (0,0)) (λ d aj=>
 Calls prog 91 #[m.v] aj λ ab ak=>
 ∃ c,(ab=.returned (.pointer c))/\
 Calls prog 92 #[.pointer c] ak λ ac al=>
 ∃ Y,(ac=.returned (.int .i64 Y))/\
 Calls prog 92 #[.pointer c] al λ ad am=>
 ∃ s,(ad=.returned (.int .i64 s))/\
 Calls prog 92 #[.pointer c] am λ ae an=>
 ∃ t,(ae=.returned (.int .i64 t))/\
 Calls prog 92 #[.pointer c] an λ af ao=>
 ∃ u,(af=.returned (.int .i64 u))/\
 New (.cells #[.int .i64 0,.int .i64 0,.int .i64 0,.int .i64 0,.slice none 0 0] 58 (0,0)) (λ l ap=>
 ∃ aa:World,(St 58 ⟨l,0,none⟩ (.agg #[.int .i64 Y,.int .i64 s,.int .i64 t,.int .i64 u,.slice none 0 0]) ap aa)/\
 Calls prog 94 #[.pointer c,.int .i64 4000] aa λ ag aq=>
 ∃ e:Sl,(ag=.returned (e.v))/\
 ∃ Z:World,(St 47 ⟨l,0 + 4,none⟩ (e.v) aq Z)/\
 Calls prog 96 #[.pointer c] Z λ ah n=>
 ∃ v,(ah=.returned (.bool v))/\
 Br (!v)
 (∃ o:World,(St 58 ⟨d,0,none⟩ (.agg #[.int .i64 0,.int .i64 0,.int .i64 0,.int .i64 0,.slice none 0 0]) n o)/\
 ∃ H I O Q,∃ j:Sl,(Aw o ⟨d,0,none⟩ [.int .i64 H,.int .i64 I,.int .i64 O,.int .i64 Q,j.v])/\
 K (.tuple #[.agg #[.int .i64 H,.int .i64 I,.int .i64 O,.int .i64 Q,j.v],.int .i64 6]) o)
 (∃ x y z A,∃ f:Sl,(Aw n ⟨l,0,none⟩ [.int .i64 x,.int .i64 y,.int .i64 z,.int .i64 A,f.v])/\
 Calls prog 140 #[.agg #[.int .i64 x,.int .i64 y,.int .i64 z,.int .i64 A,f.v]] n λ ai p=>
 ∃ C,(ai=.returned (.bool C))/\
 Br (!C)
 (∃ q:World,(St 58 ⟨d,0,none⟩ (.agg #[.int .i64 0,.int .i64 0,.int .i64 0,.int .i64 0,.slice none 0 0]) p q)/\
 ∃ T U V X,∃ k:Sl,(Aw q ⟨d,0,none⟩ [.int .i64 T,.int .i64 U,.int .i64 V,.int .i64 X,k.v])/\
 K (.tuple #[.agg #[.int .i64 T,.int .i64 U,.int .i64 V,.int .i64 X,k.v],.int .i64 6]) q)
 (∃ D E F G,∃ g:Sl,(Aw p ⟨l,0,none⟩ [.int .i64 D,.int .i64 E,.int .i64 F,.int .i64 G,g.v])/\
 ∃ r:World,(St 58 ⟨d,0,none⟩ (.agg #[.int .i64 D,.int .i64 E,.int .i64 F,.int .i64 G,g.v]) p r)/\
 ∃ J L M N,∃ i:Sl,(Aw r ⟨d,0,none⟩ [.int .i64 J,.int .i64 L,.int .i64 M,.int .i64 N,i.v])/\
 K (.tuple #[.agg #[.int .i64 J,.int .i64 L,.int .i64 M,.int .i64 N,i.v],.int .i64 0]) r))) ao) w
theorem ZAh (b:Sl) (K:Value->World->Prop) (w:World) (h:B71 b K w):Zo prog 71 #[b.v] w K:=cq (sk:=.leaf) h func71
def B22  (K:Value->World->Prop) (w:World):Prop:=
 Calls prog 10 #[] w λ d e=>
 ∃ a,(d=.returned (.pointer a))/\
 New (.map #[] 0) (λ b f=>
 New (.cells #[.pointer a,.int .i64 1,.map ((some b))] 128 (0,0)) (λ c g=>
 K (.pointer ((some ⟨c,0,none⟩))) g) f) e
theorem ZAB  (K:Value->World->Prop) (w:World) (h:B22  K w):Zo prog 22 #[] w K:=cq (sk:=.leaf) h func22
def B72 (i:Int) (K:Value->World->Prop) (w:World):Prop:=
 New (.cells #[.int .i64 0,.int .i64 0,.int .i64 0,.slice none 0 0] 54 (0,0)) (λ d k=>
 ∃ c:World,(St 54 ⟨d,0,none⟩ (.agg #[.int .i64 i,.int .i64 0,.int .i64 0,.slice none 0 0]) k c)/\
 ∃ e f g,∃ b:Sl,(Aw c ⟨d,0,none⟩ [.int .i64 e,.int .i64 f,.int .i64 g,b.v])/\
 K (.agg #[.int .i64 e,.int .i64 f,.int .i64 g,b.v]) c) w
theorem ZAg (a:Int) (K:Value->World->Prop) (w:World) (h:B72 a K w):Zo prog 72 #[.int .i64 a] w K:=cq (sk:=.leaf) h func72
def B23 (J:Option Addr) (V:Sl) (K:Value->World->Prop) (w:World):Prop:=
 New (.cells #[.int .i64 0,.int .i64 0,.int .i64 0,.slice none 0 0] 54 (0,0)) (λ d dx=>
 Calls prog 71 #[V.v] dx λ dl d2=>
 ∃ a7 ba bb bc,∃ j:Sl,∃ X,(dl=.returned (.tuple #[.agg #[.int .i64 a7,.int .i64 ba,.int .i64 bb,.int .i64 bc,j.v],.int .i64 X]))/\
 New (.cells #[.int .i64 0,.int .i64 0,.int .i64 0,.int .i64 0,.slice none 0 0] 58 (0,0)) (λ c d6=>
 ∃ f:World,(St 58 ⟨c,0,none⟩ (.agg #[.int .i64 a7,.int .i64 ba,.int .i64 bb,.int .i64 bc,j.v]) d6 f)/\
 Br (X !=0)
 (Calls prog 72 #[.int .i64 X] f λ dm d9=>
 ∃ bh bi bj,∃ p:Sl,(dm=.returned (.agg #[.int .i64 bh,.int .i64 bi,.int .i64 bj,p.v]))/\
 ∃ al:World,(St 54 ⟨d,0,none⟩ (.agg #[.int .i64 bh,.int .i64 bi,.int .i64 bj,p.v]) d9 al)/\
 ∃ cj ck cs,∃ C:Sl,(Aw al ⟨d,0,none⟩ [.int .i64 cj,.int .i64 ck,.int .i64 cs,C.v])/\
 K (.agg #[.int .i64 cj,.int .i64 ck,.int .i64 cs,C.v]) al)
 (∃ bk,(Aw f ⟨c,0,none⟩ [.int .i64 bk])/\
 Br (bk==4)
 (Calls prog 72 #[.int .i64 1] f λ dp ea=>
 ∃ bl bm bn,∃ q:Sl,(dp=.returned (.agg #[.int .i64 bl,.int .i64 bm,.int .i64 bn,q.v]))/\
 ∃ am:World,(St 54 ⟨d,0,none⟩ (.agg #[.int .i64 bl,.int .i64 bm,.int .i64 bn,q.v]) ea am)/\
 ∃ c8 c9 da,∃ G:Sl,(Aw am ⟨d,0,none⟩ [.int .i64 c8,.int .i64 c9,.int .i64 da,G.v])/\
 K (.agg #[.int .i64 c8,.int .i64 c9,.int .i64 da,G.v]) am)
 (∃ bo,(Aw f ⟨c,0,none⟩ [.int .i64 bo])/\
 Br (bo==1)
 (∃ bp,(Aw f ⟨c,0 + 3,none⟩ [.int .i64 bp])/\
 Calls prog 73 #[.pointer J,.int .i64 bp] f λ dq eb=>
 ∃ bq br bs,∃ r:Sl,(dq=.returned (.agg #[.int .i64 bq,.int .i64 br,.int .i64 bs,r.v]))/\
 ∃ Z:World,(St 54 ⟨d,0,none⟩ (.agg #[.int .i64 bq,.int .i64 br,.int .i64 bs,r.v]) eb Z)/\
 ∃ db dc cl,∃ v:Sl,(Aw Z ⟨d,0,none⟩ [.int .i64 db,.int .i64 dc,.int .i64 cl,v.v])/\
 K (.agg #[.int .i64 db,.int .i64 dc,.int .i64 cl,v.v]) Z)
 (Drw f λ Q dy=>
 Zd J λ ax=>
 ∃ bt:Option Nat,(At Q ⟨ax.block,ax.off + 2,none⟩ [.map bt])/\
 ∃ bu,(At Q ⟨c,0 + 1,none⟩ [.int .i64 bu])/\
 ∃ e:Option Addr,∃ Y:Bool,(∀ b,Q b->((Instr.lookup 126 (.map bt) (.int .i64 bu) true)).run prog b=.ok (.tuple #[.pointer e,.bool Y]) b)/\
 ∃ (L:Bool->World->Prop),(Drw dy λ T aa=>
 Br (!Y)
 (∃ bw,(At T ⟨c,0 + 1,none⟩ [.int .i64 bw])/\
 Br (decide (bw >= 1))
 (∃ bx,(At T ⟨c,0 + 1,none⟩ [.int .i64 bx])/\
 Zd J λ ay=>
 ∃ bz,(At T ⟨ay.block,ay.off + 1,none⟩ [.int .i64 bz])/\
 L (decide (bx<bz)) aa)
 (L false aa))
 (L false aa))/\
 ∀ (ec:Env) (bv:Bool) (H:World),L bv H->
 Br bv
 (Calls prog 72 #[.int .i64 10] H λ dr dz=>
 ∃ b0 b1 b2,∃ s:Sl,(dr=.returned (.agg #[.int .i64 b0,.int .i64 b1,.int .i64 b2,s.v]))/\
 ∃ ab:World,(St 54 ⟨d,0,none⟩ (.agg #[.int .i64 b0,.int .i64 b1,.int .i64 b2,s.v]) dz ab)/\
 ∃ cm cn co,∃ x:Sl,(Aw ab ⟨d,0,none⟩ [.int .i64 cm,.int .i64 cn,.int .i64 co,x.v])/\
 K (.agg #[.int .i64 cm,.int .i64 cn,.int .i64 co,x.v]) ab)
 (Br (!Y)
 (Calls prog 72 #[.int .i64 2] H λ ds d0=>
 ∃ b3 b4 b5,∃ t:Sl,(ds=.returned (.agg #[.int .i64 b3,.int .i64 b4,.int .i64 b5,t.v]))/\
 ∃ ac:World,(St 54 ⟨d,0,none⟩ (.agg #[.int .i64 b3,.int .i64 b4,.int .i64 b5,t.v]) d0 ac)/\
 ∃ cp cq cr,∃ y:Sl,(Aw ac ⟨d,0,none⟩ [.int .i64 cp,.int .i64 cq,.int .i64 cr,y.v])/\
 K (.agg #[.int .i64 cp,.int .i64 cq,.int .i64 cr,y.v]) ac)
 (∃ b6,(Aw H ⟨c,0,none⟩ [.int .i64 b6])/\
 Br (b6==3)
 (Drw H λ an d1=>
 Zd J λ az=>
 ∃ b7:Option Nat,(At an ⟨az.block,az.off + 2,none⟩ [.map b7])/\
 ∃ b8,(At an ⟨c,0 + 1,none⟩ [.int .i64 b8])/\
 ∃ ad:World,((Builtin.delete_ #[126,3] 0 #[.map b7,.int .i64 b8]).run prog d1=.ok (.tuple #[]) ad)/\
 ∃ b9,(Aw ad ⟨c,0 + 1,none⟩ [.int .i64 b9])/\
 ∃ ae:World,(St 54 ⟨d,0,none⟩ (.agg #[.int .i64 0,.int .i64 b9,.int .i64 0,.slice none 0 0]) ad ae)/\
 ∃ ct cu cv,∃ z:Sl,(Aw ae ⟨d,0,none⟩ [.int .i64 ct,.int .i64 cu,.int .i64 cv,z.v])/\
 K (.agg #[.int .i64 ct,.int .i64 cu,.int .i64 cv,z.v]) ae)
 (Drw H λ ao dd=>
 ∃ ca,(At ao ⟨c,0 + 2,none⟩ [.int .i64 ca])/\
 Zd e λ a0=>
 ∃ cb,(At ao ⟨a0.block,a0.off + 1,none⟩ [.int .i64 cb])/\
 Br (decide (ca>IntKind.i64.wrap (cb + 1)))
 (Calls prog 72 #[.int .i64 7] dd λ dt d3=>
 ∃ cc cd ce,∃ u:Sl,(dt=.returned (.agg #[.int .i64 cc,.int .i64 cd,.int .i64 ce,u.v]))/\
 ∃ af:World,(St 54 ⟨d,0,none⟩ (.agg #[.int .i64 cc,.int .i64 cd,.int .i64 ce,u.v]) d3 af)/\
 ∃ cw cx cy,∃ A:Sl,(Aw af ⟨d,0,none⟩ [.int .i64 cw,.int .i64 cx,.int .i64 cy,A.v])/\
 K (.agg #[.int .i64 cw,.int .i64 cx,.int .i64 cy,A.v]) af)
 (∃ (O:Bool->World->Prop),(Drw dd λ U de=>
 ∃ cg,(At U ⟨c,0 + 2,none⟩ [.int .i64 cg])/\
 Zd e λ a1=>
 ∃ ch,(At U ⟨a1.block,a1.off + 1,none⟩ [.int .i64 ch])/\
 Br (decide (cg<ch))
 (O true de)
 (∃ ci,(At U ⟨c,0 + 2,none⟩ [.int .i64 ci])/\
 O (ci==0) de))/\
 ∀ (ed:Env) (cf:Bool) (ag:World),O cf ag->
 Br cf
 (Calls prog 72 #[.int .i64 11] ag λ du d4=>
 ∃ a2 a3 a4,∃ g:Sl,(du=.returned (.agg #[.int .i64 a2,.int .i64 a3,.int .i64 a4,g.v]))/\
 ∃ ah:World,(St 54 ⟨d,0,none⟩ (.agg #[.int .i64 a2,.int .i64 a3,.int .i64 a4,g.v]) d4 ah)/\
 ∃ cz c0 c1,∃ D:Sl,(Aw ah ⟨d,0,none⟩ [.int .i64 cz,.int .i64 c0,.int .i64 c1,D.v])/\
 K (.agg #[.int .i64 cz,.int .i64 c0,.int .i64 c1,D.v]) ah)
 (Drw ag λ ap df=>
 ∃ a5,(At ap ⟨c,0 + 2,none⟩ [.int .i64 a5])/\
 Zd e λ aq=>
 ∃ a6,(At ap ⟨aq.block,aq.off + 1,none⟩ [.int .i64 a6])/\
 Br (decide (a5>a6))
 (Drw df λ I d5=>
 ∃ a8,(At I ⟨c,0 + 2,none⟩ [.int .i64 a8])/\
 ∃ i:Sl,(At I ⟨c,0 + 4,none⟩ [i.v])/\
 Zd J λ dk=>
 ∃ a9,(At I (Addr.add dk 0) [.pointer a9])/\
 Calls prog 74 #[i.v,.func (.func 12) #[.pointer a9] #[]] d5 λ dv dg=>
 ∃ k:Sl,(dv=.returned (k.v))/\
 (I dg)/\
 Zd e λ ar=>
 ∃ ai:World,(St 3 ⟨ar.block,ar.off + 1,none⟩ (.int .i64 a8) dg ai)/\
 (I ai)/\
 Zd e λ au=>
 ∃ dh:World,(St 47 ⟨au.block,au.off + 2,none⟩ (k.v) ai dh)/\
 Drw dh λ M d7=>
 ∃ bd,(At M ⟨c,0 + 1,none⟩ [.int .i64 bd])/\
 ∃ bf,(At M ⟨c,0 + 2,none⟩ [.int .i64 bf])/\
 Zd e λ av=>
 ∃ l:Sl,(At M ⟨av.block,av.off + 2,none⟩ [l.v])/\
 Calls prog 75 #[l.v] d7 λ dw di=>
 ∃ n:Sl,(dw=.returned (n.v))/\
 (M di)/\
 ∃ aj:World,(St 54 ⟨d,0,none⟩ (.agg #[.int .i64 0,.int .i64 bd,.int .i64 bf,n.v]) di aj)/\
 ∃ c2 c3 c4,∃ E:Sl,(Aw aj ⟨d,0,none⟩ [.int .i64 c2,.int .i64 c3,.int .i64 c4,E.v])/\
 K (.agg #[.int .i64 c2,.int .i64 c3,.int .i64 c4,E.v]) aj)
 (Drw df λ N d8=>
 ∃ be,(At N ⟨c,0 + 1,none⟩ [.int .i64 be])/\
 ∃ bg,(At N ⟨c,0 + 2,none⟩ [.int .i64 bg])/\
 Zd e λ aw=>
 ∃ m:Sl,(At N ⟨aw.block,aw.off + 2,none⟩ [m.v])/\
 Calls prog 75 #[m.v] d8 λ dn dj=>
 ∃ o:Sl,(dn=.returned (o.v))/\
 (N dj)/\
 ∃ ak:World,(St 54 ⟨d,0,none⟩ (.agg #[.int .i64 0,.int .i64 be,.int .i64 bg,o.v]) dj ak)/\
 ∃ c5 c6 c7,∃ F:Sl,(Aw ak ⟨d,0,none⟩ [.int .i64 c5,.int .i64 c6,.int .i64 c7,F.v])/\
 K (.agg #[.int .i64 c5,.int .i64 c6,.int .i64 c7,F.v]) ak)))))))))) d2) w
def sk23:Sk:=(.seq .leaf (.seq .leaf (.seq .leaf (.seq .leaf (.seq (.block (.cut [42] [.bool] [42,43,44,45,46,47,48,49,50,51,52,53,54,55,56,57,58] .leaf (.cond .leaf (.seq .leaf (.cond .leaf (.seq .leaf (.cond .leaf (.seq .leaf (.cond .leaf (.cut [87] [.bool] [87,88,89,90,91,92,93,94,95,96,97,98,99] .leaf .leaf)))))))))) .leaf)))))
theorem ZAA (c:Option Addr) (b:Sl) (K:Value->World->Prop) (w:World) (h:B23 c b K w):Zo prog 23 #[.pointer c,b.v] w K:=cq (sk:=sk23) h func23
def B73 (d:Option Addr) (T:Int) (K:Value->World->Prop) (w:World):Prop:=
 New (.cells #[.int .i64 0,.int .i64 0,.int .i64 0,.slice none 0 0] 54 (0,0)) (λ e ae=>
 Zd d λ A=>
 ∃ C:Option Nat,(Aw ae ⟨A.block,A.off + 2,none⟩ [.map C])/\
 ∃ af:World,∃ k:Option Addr,((Instr.range 126 (.map C)).run prog ae=.ok (.pointer k) af)/\
 ∃ (m:World->Prop) (ah:World->Nat),(m  af)/\∀ (ap:Env)  (l:World),m  l->
 ∃ c:World,(((Instr.next (.pointer k) false 0).run prog l=.ok (.tuple #[.bool false]) c)/\
 Zd d λ t=>
 ∃ G:Option Nat,(Aw c ⟨t.block,t.off + 2,none⟩ [.map G])/\
 ∃ H:Int,(∀ b,(λ b=>b=c) b->((Builtin.len_ #[126] 3 #[.map G])).run prog b=.ok (.int .i64 H) b)/\
 Br (decide (H >= 64))
 (Calls prog 72 #[.int .i64 3] c λ ak an=>
 ∃ I J L,∃ f:Sl,(ak=.returned (.agg #[.int .i64 I,.int .i64 J,.int .i64 L,f.v]))/\
 ∃ r:World,(St 54 ⟨e,0,none⟩ (.agg #[.int .i64 I,.int .i64 J,.int .i64 L,f.v]) an r)/\
 ∃ U V aa,∃ i:Sl,(Aw r ⟨e,0,none⟩ [.int .i64 U,.int .i64 V,.int .i64 aa,i.v])/\
 K (.agg #[.int .i64 U,.int .i64 V,.int .i64 aa,i.v]) r)
 (Drw c λ n ao=>
 Zd d λ u=>
 ∃ M:Option Nat,(At n ⟨u.block,u.off + 2,none⟩ [.map M])/\
 Zd d λ v=>
 ∃ N,(At n ⟨v.block,v.off + 1,none⟩ [.int .i64 N])/\
 New (.cells #[.int .i64 T,.int .i64 0,.slice none 0 0] 134 (0,0)) (λ aj ag=>
 (n ag)/\
 ∃ s:World,((Instr.mapUpdate 126 (.map M) (.int .i64 N) (.pointer ((some ⟨aj,0,none⟩)))).run prog ag=.ok () s)/\
 Zd d λ x=>
 ∃ O,(Aw s ⟨x.block,x.off + 1,none⟩ [.int .i64 O])/\
 Zd d λ y=>
 ∃ o:World,(St 3 ⟨y.block,y.off + 1,none⟩ (.int .i64 (IntKind.i64.wrap (O + 1))) s o)/\
 Zd d λ z=>
 ∃ Q,(Aw o ⟨z.block,z.off + 1,none⟩ [.int .i64 Q])/\
 ∃ p:World,(St 54 ⟨e,0,none⟩ (.agg #[.int .i64 0,.int .i64 (IntKind.i64.wrap (Q - 1)),.int .i64 0,.slice none 0 0]) o p)/\
 ∃ ab ac ad,∃ j:Sl,(Aw p ⟨e,0,none⟩ [.int .i64 ab,.int .i64 ac,.int .i64 ad,j.v])/\
 K (.agg #[.int .i64 ab,.int .i64 ac,.int .i64 ad,j.v]) p) ao))\/
 (∃ al:Value,∃ am:Value,((Instr.next (.pointer k) false 0).run prog l=.ok (.tuple #[.bool true,al,am]) c)/\
 ∃ D:Int,∃ E:Option Addr,(∀ b,(λ b=>b=c) b->((Instr.entry (.pointer k))).run prog b=.ok (.tuple #[.int .i64 D,.pointer E]) b)/\
 Zd E λ ai=>
 ∃ F,(Aw c (Addr.add ai 0) [.int .i64 F])/\
 Br (F==T)
 (∃ q:World,(St 54 ⟨e,0,none⟩ (.agg #[.int .i64 0,.int .i64 D,.int .i64 0,.slice none 0 0]) c q)/\
 ∃ X Y Z,∃ g:Sl,(Aw q ⟨e,0,none⟩ [.int .i64 X,.int .i64 Y,.int .i64 Z,g.v])/\
 K (.agg #[.int .i64 X,.int .i64 Y,.int .i64 Z,g.v]) q)
 ((m  c)/\ah  c<ah  l))) w
def sk73:Sk:=(.seq .leaf (.seq (.seq .leaf (.block (.loop [] [] [5,6,12,13,14,15,16,17,18,19,20,21,22,23,24] .leaf))) .leaf))
theorem ZAf (a:Option Addr) (b:Int) (K:Value->World->Prop) (w:World) (h:B73 a b K w):Zo prog 73 #[.pointer a,.int .i64 b] w K:=cq (sk:=sk73) h func73
def B74 (l:Sl) (T:Value) (K:Value->World->Prop) (w:World):Prop:=
 Calls prog 141 #[l.v] w λ U aa=>
 ∃ G H I J L M N O Q,∃ j i:Sl,∃ m,(U=.returned (.tuple #[.agg #[.int .i64 G,.string H,.int .i64 I,.int .i64 J,.int .i64 L,.int .i64 M,.float .f64 N,.string O,.int .i64 Q,j.v,i.v],.int .i64 m]))/\
 New (.cells #[.int .i64 0,.string (ByteArray.mk #[]),.int .i64 0,.int .i64 0,.int .i64 0,.int .i64 0,.float .f64 0,.string (ByteArray.mk #[]),.int .i64 0,.slice none 0 0,.slice none 0 0] 40 (0,0)) (λ n ab=>
 ∃ k:World,(St 40 ⟨n,0,none⟩ (.agg #[.int .i64 G,.string H,.int .i64 I,.int .i64 J,.int .i64 L,.int .i64 M,.float .f64 N,.string O,.int .i64 Q,j.v,i.v]) ab k)/\
 Br (m !=0)
 (Calls prog 142 #[.agg #[.int .i64 m,.string (ByteArray.mk #[]),.int .i64 0,.int .i64 0,.int .i64 0,.int .i64 0,.int .i64 0,.slice none 0 0,.slice none 0 0]] k λ V ac=>
 ∃ b:Sl,(V=.returned (b.v))/\
 K (b.v) ac)
 (∃ o p q r s t u v x,∃ d c:Sl,(Aw k ⟨n,0,none⟩ [.int .i64 o,.string p,.int .i64 q,.int .i64 r,.int .i64 s,.int .i64 t,.float .f64 u,.string v,.int .i64 x,d.v,c.v])/\
 Zak prog cl T [.agg #[.int .i64 o,.string p,.int .i64 q,.int .i64 r,.int .i64 s,.int .i64 t,.float .f64 u,.string v,.int .i64 x,d.v,c.v]] k λ X ad=>
 ∃ y z A C D E F,∃ e f:Sl,(X=.returned (.agg #[.int .i64 y,.string z,.int .i64 A,.int .i64 C,.int .i64 D,.int .i64 E,.int .i64 F,e.v,f.v]))/\
 Calls prog 142 #[.agg #[.int .i64 y,.string z,.int .i64 A,.int .i64 C,.int .i64 D,.int .i64 E,.int .i64 F,e.v,f.v]] ad λ Y ae=>
 ∃ g:Sl,(Y=.returned (g.v))/\
 K (g.v) ae)) aa
theorem ZAe (b:Sl) (c:Value) (K:Value->World->Prop) (w:World) (h:B74 b c K w):Zo prog 74 #[b.v,c] w K:=cq (sk:=.leaf) h func74
def B28 (s:Int) (t:Int) (u:Int) (i:Sl) (v:Int) (x:Int) (y:Int) (j:Sl) (K:Value->World->Prop) (w:World):Prop:=
 New (.cells #[.int .i64 s,.int .i64 t,.int .i64 u,i.v] 54 (0,0)) (λ f z=>
 New (.cells #[.int .i64 v,.int .i64 x,.int .i64 y,j.v] 54 (0,0)) (λ g c=>
 ∃ q,(Aw c ⟨f,0,none⟩ [.int .i64 q])/\
 ∃ r,(Aw c ⟨g,0,none⟩ [.int .i64 r])/\
 Br (q==r)
 (∃ k,(Aw c ⟨f,0 + 1,none⟩ [.int .i64 k])/\
 ∃ l,(Aw c ⟨g,0 + 1,none⟩ [.int .i64 l])/\
 Br (k==l)
 (∃ m,(Aw c ⟨f,0 + 2,none⟩ [.int .i64 m])/\
 ∃ n,(Aw c ⟨g,0 + 2,none⟩ [.int .i64 n])/\
 Br (m==n)
 (∃ d:Sl,(Aw c ⟨f,0 + 3,none⟩ [d.v])/\
 ∃ o:ByteArray,(∀ b,(λ b=>b=c) b->((convert 47 9 (d.v))).run prog b=.ok (.string o) b)/\
 ∃ e:Sl,(Aw c ⟨g,0 + 3,none⟩ [e.v])/\
 ∃ p:ByteArray,(∀ b,(λ b=>b=c) b->((convert 47 9 (e.v))).run prog b=.ok (.string p) b)/\
 K (.bool (o.toList==p.toList)) c)
 (K (.bool false) c))
 (K (.bool false) c))
 (K (.bool false) c)) z) w
theorem ZAx (d:Int) (e:Int) (f:Int) (b:Sl) (g:Int) (i:Int) (j:Int) (c:Sl) (K:Value->World->Prop) (w:World) (h:B28 d e f b g i j c K w):Zo prog 28 #[.agg #[.int .i64 d,.int .i64 e,.int .i64 f,b.v],.agg #[.int .i64 g,.int .i64 i,.int .i64 j,c.v]] w K:=cq (sk:=.leaf) h func28
def B24 (k:Int) (l:Int) (m:Int) (n:Int) (d:Sl) (K:Value->World->Prop) (w:World):Prop:=
 New (.cells #[.int .i64 k,.int .i64 l,.int .i64 m,.int .i64 n,d.v] 58 (0,0)) (λ o j=>
 ∃ e f g i,∃ b:Sl,(Aw j ⟨o,0,none⟩ [.int .i64 e,.int .i64 f,.int .i64 g,.int .i64 i,b.v])/\
 Calls prog 76 #[.agg #[.int .i64 e,.int .i64 f,.int .i64 g,.int .i64 i,b.v]] j λ p s=>
 ∃ c:Sl,∃ q,(p=.returned (.tuple #[c.v,.int .i64 q]))/\
 K (c.v) s) w
theorem ZAz (c:Int) (d:Int) (e:Int) (f:Int) (b:Sl) (K:Value->World->Prop) (w:World) (h:B24 c d e f b K w):Zo prog 24 #[.agg #[.int .i64 c,.int .i64 d,.int .i64 e,.int .i64 f,b.v]] w K:=cq (sk:=.leaf) h func24
def B20  (K:Value->World->Prop) (w:World):Prop:=
 Calls prog 22 #[] w λ o n=>
 ∃ f,(o=.returned (.pointer f))/\
 Br f.isNone
 (K (.bool false) n)
 (Calls prog 24 #[.agg #[.int .i64 1,.int .i64 0,.int .i64 0,.int .i64 9,.slice none 0 0]] n λ p r=>
 ∃ b:Sl,(p=.returned (b.v))/\
 Calls prog 23 #[.pointer f,b.v] r λ q s=>
 ∃ k l m,∃ c:Sl,(q=.returned (.agg #[.int .i64 k,.int .i64 l,.int .i64 m,c.v]))/\
 New (.cells #[.int .i64 0,.int .i64 0,.int .i64 0,.slice none 0 0] 54 (0,0)) (λ e t=>
 ∃ d:World,(St 54 ⟨e,0,none⟩ (.agg #[.int .i64 k,.int .i64 l,.int .i64 m,c.v]) t d)/\
 ∃ i,(Aw d ⟨e,0,none⟩ [.int .i64 i])/\
 Br (i==0)
 (∃ j,(Aw d ⟨e,0 + 1,none⟩ [.int .i64 j])/\
 K (.bool (j==1)) d)
 (K (.bool false) d)) s)
theorem ZAD  (K:Value->World->Prop) (w:World) (h:B20  K w):Zo prog 20 #[] w K:=cq (sk:=.leaf) h func20
def B21 (f:Sl) (K:Value->World->Prop) (w:World):Prop:=
 ∃ (e:Int->World->Prop) (g:Int->World->Nat),(e 0 w)/\∀ (k:Env) (b:Int) (c:World),e b c->
 Br (decide (b<(↑f.len:Int)))
 (Br (decide (b<200))
 (Rng b f.len (Zd f.a λ i=>
 ∃ d:Sl,(Aw c (Addr.add i b.toNat) [d.v])/\
 Br (decide ((↑d.len:Int)>10000))
 (K (.bool true) c)
 ((e (IntKind.i64.wrap (b + 1)) c)/\g (IntKind.i64.wrap (b + 1)) c<g b c)))
 (K (.bool false) c))
 (K (.bool false) c)
def sk21:Sk:=(.seq .leaf (.seq (.seq .leaf (.block (.loop [3] [(.int .i64)] [2,3,4,5,6,7,8,9,10,11,12,13,14,15,16,17,18,19] .leaf))) .leaf))
theorem ZAC (b:Sl) (K:Value->World->Prop) (w:World) (h:B21 b K w):Zo prog 21 #[b.v] w K:=cq (sk:=sk21) h func21
end
section
open Go Go.VC Tryz
open Classical
variable {R:Cx} {Hs Rest:List HP} {w:World}
abbrev rqV (q:Rq) (s:Sl):List Value:=[.int .i64 q.kind,.int .i64 q.client,.int .i64 q.seq,.int .i64 q.token,.slice s.a s.len s.cap]
abbrev rqC (b:Nat) (q:Rq) (s:Sl):HP:=pts b (.cells (rqV q s).toArray 58 (0,0))
abbrev tdV (t:ZpZ) (s:Sl):List Value:=[.int .i64 t.code,.int .i64 t.client,.int .i64 t.seq,.slice s.a s.len s.cap]
abbrev tdC (b:Nat) (t:ZpZ) (s:Sl):HP:=pts b (.cells (tdV t s).toArray 54 (0,0))
abbrev Zc9:Sl:=⟨none,0,0⟩
theorem ZoD {s:Sl} {xs:List Int} (hxs:∀ x∈xs,x<9223372036854775808) (hl:9 * xs.length<=1099511627776) (hs:RoI R s xs) (hw:Sat R Hs w):
  Zo prog 81 #[.slice s.a s.len s.cap] w λ v w'=>∃ t:Sl,v=.slice t.a t.len t.cap/\Sat R (Own t 5 (b8 (Zm (xs.map nn)))::Hs) w':=by
 have hlen:=hs.len;apply ZAb;refine ⟨λ out i w=>∃ k:Nat,i=k/\k<=xs.length/\Sat R (Own out 5 (b8 (Zm ((xs.take k).map nn)))::Hs) w,λ _ i _=>xs.length - i.toNat,⟨0,rfl,by omega,Own.nil hw⟩,?_⟩;clear hw;rintro _ out _ w ⟨k,rfl,hk,hw⟩;refine Br.d (λ h=>?_) (λ h=>?_)
 ·have hkx:k<xs.length:=by omega
  have hx:=Zo4 (hxs xs[k] (List.getElem_mem _));have hxt:∀ x∈(xs.take k).map nn,0<=x/\x<18446744073709551616:=λ x hx=>by
   obtain ⟨y,hy,rfl⟩:=List.mem_map.1 hx;have:=Zo4 (hxs y (List.mem_of_mem_take hy));omega
  have hnl:=ZX hxt;rw [List.length_map,List.length_take] at hnl;refine Ro.ix hs (eqS hw) k rfl hkx ?_;rw [ZzD];obtain ⟨n,hn⟩:=Int.eq_ofNat_of_zero_le hx.1;rw [hn,Zax (by omega) (by omega)];refine (ZbR (by omega) hw).use ?_;rintro _ w ⟨t,rfl,hw⟩;refine ⟨t,rfl,?_⟩;have hnb:=Zbx (n:=n) (by omega);refine ZAL (by omega) hw λ s2 w hw=>?_;rw [Zl (by omega) (by omega)];refine ⟨⟨k + 1,by omega,by omega,?_⟩,by dsimp only;omega⟩;have e:(xs.take (k + 1)).map nn=(xs.take k).map nn++[nn xs[k]]:=by rw [List.take_add_one,List.getElem?_eq_getElem hkx,List.map_append];rfl
  rw [e,Zhv,show Zm [nn xs[k]]=Zf4 (nn xs[k]).toNat by simp [Zm],hn,Int.toNat_natCast];exact hw
 ·rw [List.take_of_length_le (l:=xs) (by omega)] at hw
  exact ⟨out,rfl,hw⟩
theorem Zhf {b n:Nat} {xs:List Int} (hn:n=xs.length) (hxs:∀ x∈xs,x<9223372036854775808) (hl:9 * xs.length<=1099511627776) (hw:Sat R (pts b (.cells (Zg xs).toArray 3 (0,0))::Hs) w):
  Zo prog 81 #[.slice (some ⟨b,0,none⟩) n n] w λ v w'=>∃ t:Sl,v=.slice t.a t.len t.cap/\Sat R (Own t 5 (b8 (Zm (xs.map nn)))::Hs) w':=by
 have hw:Sat R (Own ⟨some ⟨b,0,none⟩,n,n⟩ 3 (Zg xs)::Hs) w:=Zc4 hw (by rw [List.length_map];exact hn);obtain ⟨R',hr,_,hw,back⟩:=Own.lendI hw (by omega);refine (ZoD hxs hl hr hw).use ?_;rintro _ w ⟨t,rfl,hw⟩;exact ⟨_,rfl,t,rfl,(back hw).swap.cons λ _ h=>h.drop⟩
theorem Zqv {n:Int} (hw:Sat R Hs w):Zo prog 211 #[.int .i64 n] w λ v w'=>v=.bool (!decide (inI n))/\Sat R Hs w':=by
 apply Zx6;refine Br.d (λ h=>⟨?_,hw⟩) (λ h=>⟨?_,hw⟩)
 ·rw [decide_eq_false (p:=inI n) (λ h2=>by unfold inI at h2;omega)];rfl
 ·by_cases h2:n>1099511627776
  ·rw [decide_eq_true h2,decide_eq_false (p:=inI n) (λ h3=>by unfold inI at h3;omega)];rfl
  ·rw [decide_eq_false h2,decide_eq_true (p:=inI n) ⟨by omega,by omega⟩];rfl
theorem Zgt {q:Rq} {s:Sl} (hs:s.len=q.cmd.length) (hw:Sat R Hs w):
  Zo prog 140 #[.agg #[.int .i64 q.kind,.int .i64 q.client,.int .i64 q.seq,.int .i64 q.token,.slice s.a s.len s.cap]] w λ v w'=>v=.bool (decide (ZbJ q))/\Sat R Hs w':=by
 apply ZyH;refine Zb hw λ b w hw=>?_;have hw:Sat R (rqC b q s::Hs) w:=hw;have no:¬ ZbJ q->∀ {w},Sat R (rqC b q s::Hs) w->(Value.bool false=.bool (decide (ZbJ q))/\Sat R Hs w):=λ h w hw=>⟨by rw [decide_eq_false h],hw.drop⟩;refine ⟨λ w=>((inI q.client/\inI q.seq/\inI q.token)/\q.cmd.length<=4000)/\Sat R (rqC b q s::Hs) w,?_,?_⟩
 ·refine ⟨q.client,oA hw,q.seq,oA hw,q.token,oA hw,?_⟩
  refine Zb hw λ b2 w hw=>?_;have hw:Sat R (Own ⟨some ⟨b2,0,none⟩,3,3⟩ 3 (Zg [q.client,q.seq,q.token])::rqC b q s::Hs) w:=Zc4 hw;obtain ⟨R',hr,_,hw,back⟩:=Own.lendI hw (by simp);refine (Zjd (p:=λ n=>!decide (inI n)) (s:=⟨some ⟨b2,0,none⟩,3,3⟩) hr (λ x w hw=>Zak.mk (by kernel_rfl) ((Zqv hw).use λ v w h=>⟨by rw [h.1],h.2⟩)) hw).use ?_;clear hw;rintro _ w ⟨rfl,hw⟩;have hw:=(back hw).drop;refine ⟨_,rfl,Br.mk (λ h=>no (λ hq=>?_) hw) (λ h=>?_)⟩
  ·have h1:=hq.client
   have h2:=hq.seq;have h3:=hq.token;simp [h1,h2,h3] at h
  ·have hI:inI q.client/\inI q.seq/\inI q.token:=by simpa using h
   refine ⟨s,oA hw,Br.d (λ h2=>no (λ hq=>by have:=hq.cmd;omega) hw) (λ h2=>⟨⟨hI,by omega⟩,hw⟩)⟩
 clear hw;rintro _ w ⟨⟨⟨h1,h2,h3⟩,h4⟩,hw⟩;refine ⟨λ t w=>t=decide (q.seq=0/\q.cmd.length=0)/\Sat R (rqC b q s::Hs) w,?_,?_⟩
 ·refine ⟨q.seq,oA hw,Br.e (λ h5=>?_) (λ h5=>⟨by rw [decide_eq_false (by omega)],hw⟩)⟩
  refine ⟨s,oA hw,?_,hw⟩;show decide ((s.len:Int)=0)=_;exact decide_eq_decide.2 (by omega)
 clear hw;rintro _ _ w ⟨rfl,hw⟩;have fin:∀ {p:Prop} {i:Decidable p},(p↔ZbJ q)->(Value.bool (@decide p i)=.bool (decide (ZbJ q))/\Sat R Hs w):=λ h=>⟨by congr 1;exact decide_eq_decide.2 h,hw.drop⟩;have mk:∀ (hk:(q.kind=1/\q.client=0/\q.seq=0/\q.cmd.length=0)\/(q.kind=2/\q.token=0)\/(q.kind=3/\q.token=0/\q.seq=0/\q.cmd.length=0)\/(q.kind=4/\q.client=0/\q.seq=0/\q.token=0)),ZbJ q:=λ hk=>⟨h1,h2,h3,h4,hk⟩;refine ⟨q.kind,oA hw,Br.e (λ k=>?_) (λ k1=>?_)⟩
 ·refine ⟨q.client,oA hw,Br.e (λ h5=>fin ?_) (λ h5=>no (λ hq=>by have:=hq.kind;omega) hw)⟩
  exact ⟨λ h6=>mk (by omega),λ hq=>by have:=hq.kind;omega⟩
 refine Br.e (λ k=>?_) (λ k2=>?_)
 ·refine ⟨q.token,oA hw,fin (p:=q.token=0) ?_⟩
  exact ⟨λ h6=>mk (by omega),λ hq=>by have:=hq.kind;omega⟩
 refine Br.e (λ k=>?_) (λ k3=>?_)
 ·refine ⟨q.token,oA hw,Br.e (λ h5=>fin ?_) (λ h5=>no (λ hq=>by have:=hq.kind;omega) hw)⟩
  exact ⟨λ h6=>mk (by omega),λ hq=>by have:=hq.kind;omega⟩
 refine Br.e (λ k=>?_) (λ k4=>no (λ hq=>by have:=hq.kind;omega) hw);refine ⟨q.client,oA hw,Br.e (λ h5=>?_) (λ h5=>no (λ hq=>by have:=hq.kind;omega) hw)⟩;refine ⟨q.seq,oA hw,Br.e (λ h6=>?_) (λ h6=>no (λ hq=>by have:=hq.kind;omega) hw)⟩;refine ⟨q.token,oA hw,fin (p:=q.token=0) ?_⟩;exact ⟨λ h7=>mk (by omega),λ hq=>by have:=hq.kind;omega⟩
theorem nnq {q:Rq} (h:ZbJ q):[q.kind,q.client,q.seq,q.token].map nn=[q.kind,q.client,q.seq,q.token]:=by
 have h1:=h.k4;obtain ⟨a1,a2⟩:=h.client;obtain ⟨a3,a4⟩:=h.seq;obtain ⟨a5,a6⟩:=h.token;show [nn q.kind,nn q.client,nn q.seq,nn q.token]=_;rw [Zcj (by omega),Zcj a1,Zcj a3,Zcj a5]
theorem ZqB {q:Rq} {s:Sl} (hs:Ro R s (b8 q.cmd)) (hw:Sat R Hs w):
  Zo prog 76 #[.agg #[.int .i64 q.kind,.int .i64 q.client,.int .i64 q.seq,.int .i64 q.token,.slice s.a s.len s.cap]] w λ v w'=>
   ∃ t:Sl,v=.tuple #[.slice t.a t.len t.cap,.int .i64 (Zvr q).2]/\Sat R (Own t 5 (b8 (Zvr q).1)::Hs) w':=by
 have hslen:s.len=q.cmd.length:=by have:=hs.len;simpa using this
 apply ZAc;refine Zb hw λ b w hw=>?_;have hw:Sat R (rqC b q s::Hs) w:=hw;refine ⟨q.kind,q.client,q.seq,q.token,s,At.own (eqS hw) (by exact ⟨rfl,rfl,rfl,rfl,rfl,trivial⟩),?_⟩;refine (Zgt hslen hw).use ?_;clear hw;rintro _ w ⟨rfl,hw⟩;refine ⟨_,rfl,Br.nd (λ h=>?_) (λ h=>?_)⟩
 ·unfold Zvr
  rw [if_neg h];exact ⟨Zc9,rfl,Own.nil hw.drop⟩
 have h1:=h.k4;obtain ⟨a1,a2⟩:=h.client;obtain ⟨a3,a4⟩:=h.seq;obtain ⟨a5,a6⟩:=h.token;have h2:=h.cmd;refine ZA (Sat R [rqC b q s,VC.tru]) hw (λ w hw=>hw.restTru2) λ w hw=>?_;refine ⟨q.kind,At.own (λ _ h=>h) (by exact ⟨rfl,trivial⟩),q.client,At.own (λ _ h=>h) (by exact ⟨rfl,trivial⟩),q.seq,At.own (λ _ h=>h) (by exact ⟨rfl,trivial⟩),q.token,At.own (λ _ h=>h) (by exact ⟨rfl,trivial⟩),s,At.own (λ _ h=>h) (by exact ⟨rfl,trivial⟩),?_⟩;refine Zb hw λ b2 w hw=>⟨hw.swap.restTru2,?_⟩;refine (Zhf (xs:=[q.kind,q.client,q.seq,q.token]) rfl (λ x hx=>by
  simp only [List.mem_cons,List.not_mem_nil,or_false] at hx;omega) (by simp) hw).use ?_
 clear hw;rintro _ w ⟨t1,rfl,hw⟩;rw [nnq h] at hw;refine ⟨t1,rfl,hw.swap.restTru2,?_⟩;refine (Zeu hs (by omega) hw).use ?_;clear hw;rintro _ w ⟨t2,rfl,hw⟩;refine ⟨t2,rfl,(hw.arr (Hs':=rqC b q s::Own t2 5 (b8 (ZaX q.cmd))::Own t1 5 (b8 (Zm [q.kind,q.client,q.seq,q.token]))::Hs)).restTru2,?_⟩;have l1:=ZX (l:=[q.kind,q.client,q.seq,q.token]) λ x hx=>by
  simp only [List.mem_cons,List.not_mem_nil,or_false] at hx;rcases hx with rfl|rfl|rfl|rfl<;>omega
 have l2:=ZaO (d:=q.cmd) (by omega);simp only [List.length_cons,List.length_nil] at l1;refine ZAL (by omega) hw λ t w hw=>⟨hw.swap.restTru2,t,?_,?_⟩
 ·unfold Zvr;rw [if_pos h]
 ·unfold Zvr;rw [if_pos h]
  exact hw.cons λ _ h=>h.drop
end
section
open Go Go.VC Tryz
open Classical
variable {R:Cx} {Hs Rest:List HP} {w:World}
theorem Zb0 {r:Nat} {rd:Rd} (hb:Zv rd.bs) (hw:Sat R (ZC r rd::Hs) w):
  Zo prog 92 #[.pointer (some ⟨r,0,none⟩)] w λ v w'=>v=.int .i64 (Zc mI rd).1/\Sat R (ZC r (Zc mI rd).2::Hs) w':=by
 have hv:=Zy (most:=mI) hb (by decide);apply Zz8;refine (Zcu (most:=mI) hb hw).use ?_;rintro _ w ⟨rfl,hw⟩;refine ⟨_,rfl,?_,hw⟩;have:(Zc mI rd).1<=1099511627776:=hv.2;rw [Zl (by omega) (by omega)]
abbrev Zhl (b:Nat):HP:=rqC b Zp1 Zc9
set_option maxHeartbeats 1000000 in
theorem ZqG {s:Sl} {bs:List Int} (hb:Zv bs) (hl:bs.length<=1099511627776) (hs:Ro R s (b8 bs)) (hw:Sat R Hs w):
  Zo prog 71 #[.slice s.a s.len s.cap] w λ v w'=>∃ t:Sl,v=.tuple #[.agg (rqV (Za8 mI bs).1 t).toArray,.int .i64 (Za8 mI bs).2]/\Sat R (Own t 5 (b8 (Za8 mI bs).1.cmd)::Hs) w':=by
 apply ZAh;have b0:Zv (⟨bs,false⟩:Rd).bs:=hb;have l0:(⟨bs,false⟩:Rd).bs.length<=1099511627776:=hl;obtain ⟨rd0,e0⟩:∃ rd:Rd,rd=⟨bs,false⟩:=⟨_,rfl⟩;rw [<-e0] at b0 l0;refine Zb hw λ b2 w hw=>?_;have hw:Sat R (Zhl b2::Hs) w:=hw;refine (Zdj hs hl hw).use ?_;clear hw;rintro _ w ⟨r,rfl,hw⟩;refine ⟨_,rfl,?_⟩;rw [<-e0] at hw;have b1:=Ze (most:=mI) b0;have l1:(Zc mI rd0).2.bs.length<=1099511627776:=Nat.le_trans Z4 l0;obtain ⟨k,rd1,e1⟩:∃ y rd,Zc mI rd0=(y,rd):=⟨_,_,rfl⟩;refine (Zb0 b0 hw).use ?_;clear hw;rintro _ w ⟨rfl,hw⟩;rw [e1] at b1 l1 hw ⊢;dsimp only at b1 l1 hw ⊢;refine ⟨_,rfl,?_⟩;have b2':=Ze (most:=mI) b1;have l2:(Zc mI rd1).2.bs.length<=1099511627776:=Nat.le_trans Z4 l1;obtain ⟨c,rd2,e2⟩:∃ y rd,Zc mI rd1=(y,rd):=⟨_,_,rfl⟩;refine (Zb0 b1 hw).use ?_;clear hw;rintro _ w ⟨rfl,hw⟩;rw [e2] at b2' l2 hw ⊢;dsimp only at b2' l2 hw ⊢;refine ⟨_,rfl,?_⟩;have b3:=Ze (most:=mI) b2';have l3:(Zc mI rd2).2.bs.length<=1099511627776:=Nat.le_trans Z4 l2;obtain ⟨q,rd3,e3⟩:∃ y rd,Zc mI rd2=(y,rd):=⟨_,_,rfl⟩;refine (Zb0 b2' hw).use ?_;clear hw;rintro _ w ⟨rfl,hw⟩;rw [e3] at b3 l3 hw ⊢;dsimp only at b3 l3 hw ⊢;refine ⟨_,rfl,?_⟩;have b4:=Ze (most:=mI) b3;have l4:(Zc mI rd3).2.bs.length<=1099511627776:=Nat.le_trans Z4 l3;obtain ⟨t,rd4,e4⟩:∃ y rd,Zc mI rd3=(y,rd):=⟨_,_,rfl⟩;refine (Zb0 b3 hw).use ?_;clear hw;rintro _ w ⟨rfl,hw⟩;rw [e4] at b4 l4 hw ⊢;dsimp only at b4 l4 hw ⊢;refine ⟨_,rfl,?_⟩;refine Zb hw λ b w hw=>?_;refine Za hw (by kernel_rfl) rfl (by simp [Value.cells]) λ w hw=>?_;have hw:Sat R (ZC r rd4::rqC b ⟨k,c,q,t,[]⟩ Zc9::Zhl b2::Hs) w:=(hw.re (rqC b ⟨k,c,q,t,[]⟩ Zc9)).swap;have htl:=ZbP (most:=4000) (rd:=rd4);obtain ⟨d,rd5,e5⟩:∃ y rd,ZL 4000 rd4=(y,rd):=⟨_,_,rfl⟩;refine (ZbO (most:=4000) (by omega) l4 b4 hw).use ?_;clear hw;rintro _ w ⟨sd,rfl,hw⟩;rw [e5] at hw htl;dsimp only at hw htl;refine ⟨sd,rfl,?_⟩;refine Za hw (by kernel_rfl) rfl (by simp [Value.cells]) λ w hw=>?_;have hC:Zv2 mI ⟨bs,false⟩=(⟨k,c,q,t,d⟩,rd5):=by
  rw [<-e0];unfold Zv2;simp only [e1,e2,e3,e4,e5]
 obtain ⟨C,eC⟩:∃ C:Rq,C=⟨k,c,q,t,d⟩:=⟨_,rfl⟩;have hw:Sat R (rqC b C sd::Own sd 5 (b8 C.cmd)::ZC r rd5::Zhl b2::Hs) w:=by rw [eC];exact hw.re (rqC b ⟨k,c,q,t,d⟩ sd)
 rw [<-eC] at hC;have hdec:Za8 mI bs=if Z5 rd5=true/\ZbJ C then (C,0) else (Zp1,6):=by unfold Za8;rw [hC]
 clear hC eC e0 e1 e2 e3 e4 e5 b0 b1 b2' b3 b4 l0 l1 l2 l3;have hw:Sat R (ZC r rd5::rqC b C sd::Own sd 5 (b8 C.cmd)::Zhl b2::Hs) w:=hw.arr;refine (ZbK hw).use ?_;clear hw;rintro _ w ⟨rfl,hw⟩;have no:Za8 mI bs=(Zp1,6)->∀ {w},Sat R (Zhl b2::Hs) w->∃ t:Sl,Value.tuple #[.agg (rqV Zp1 Zc9).toArray,.int .i64 6]=.tuple #[.agg (rqV (Za8 mI bs).1 t).toArray,.int .i64 (Za8 mI bs).2]/\Sat R (Own t 5 (b8 (Za8 mI bs).1.cmd)::Hs) w:=λ e {w} hw=>by
  rw [e];exact ⟨Zc9,rfl,Own.nil hw.drop⟩
 refine ⟨_,rfl,Br.nb (λ h=>?_) (λ h=>?_)⟩
 ·have hw:Sat R (Zhl b2::Hs) w:=hw.drop.drop.drop
  refine Za hw (by kernel_rfl) rfl (by simp [Value.cells]) λ w hw=>?_;have hw:=hw.re (Zhl b2);refine ⟨_,_,_,_,Zc9,At.own (eqS hw) (by exact ⟨rfl,rfl,rfl,rfl,rfl,trivial⟩),no ?_ hw⟩;rw [hdec,if_neg (by rintro ⟨h1,_⟩;rw [h1] at h;cases h)]
 refine ⟨C.kind,C.client,C.seq,C.token,sd,At.own (eqS hw) (by exact ⟨rfl,rfl,rfl,rfl,rfl,trivial⟩),?_⟩;have hsl:sd.len=C.cmd.length:=by
  have:=Own.len (hw.arr (Hs':=Own sd 5 (b8 C.cmd)::ZC r rd5::rqC b C sd::Zhl b2::Hs));simpa using this
 refine (Zgt hsl hw).use ?_;clear hw;rintro _ w ⟨rfl,hw⟩;refine ⟨_,rfl,Br.nb (λ h2=>?_) (λ h2=>?_)⟩
 ·have hw:Sat R (Zhl b2::Hs) w:=hw.drop.drop.drop
  refine Za hw (by kernel_rfl) rfl (by simp [Value.cells]) λ w hw=>?_;have hw:=hw.re (Zhl b2);refine ⟨_,_,_,_,Zc9,At.own (eqS hw) (by exact ⟨rfl,rfl,rfl,rfl,rfl,trivial⟩),no ?_ hw⟩;rw [hdec,if_neg (by rintro ⟨_,h1⟩;rw [decide_eq_true h1] at h2;cases h2)]
 refine ⟨C.kind,C.client,C.seq,C.token,sd,At.own (eqS hw) (by exact ⟨rfl,rfl,rfl,rfl,rfl,trivial⟩),?_⟩;have hw:Sat R (Zhl b2::Own sd 5 (b8 C.cmd)::ZC r rd5::rqC b C sd::Hs) w:=hw.arr;refine Za hw (by kernel_rfl) rfl (by simp [Value.cells]) λ w hw=>?_;have hw:=hw.re (rqC b2 C sd);refine ⟨C.kind,C.client,C.seq,C.token,sd,At.own (eqS hw) (by exact ⟨rfl,rfl,rfl,rfl,rfl,trivial⟩),?_⟩;rw [hdec,if_pos ⟨h,of_decide_eq_true h2⟩];exact ⟨sd,rfl,hw.drop.cons λ _ h=>h.drop.drop⟩
abbrev ZaY (b:Nat):HP:=tdC b ZA3 Zc9
end
section
open Go Go.VC Tryz
open Classical
structure Cl where
 id:Int
 tok:Int
 last:Int
 rep:List Int
structure Tb where
 next:Int
 cl:List Cl
 bk:ZR
def Zho (e:Int):ZpZ:=⟨e,0,0,[]⟩
noncomputable def Zcf (b:ZR) (cmd:List Int):List Int × ZR:=
 if (Zcc cmd).2≠0 then (rpB (Zbn (Zcc cmd).2),b) else (rpB (Zah b (Zcc cmd).1).2,(Zah b (Zcc cmd).1).1)
def Tb.beginT (t:Tb) (tok:Int):ZpZ × Tb:=
 match t.cl.find? (λ c=>c.tok==tok) with
 |some c=>(⟨0,c.id,0,[]⟩,t)
 |none=>if t.cl.length >= 64 then (Zho 3,t) else (⟨0,t.next,0,[]⟩,{ t with next:=t.next + 1,cl:=t.cl++[⟨t.next,tok,0,[]⟩] })
def Ze6 (c:Cl) (l:List Cl):List Cl:=l.map λ d=>if d.id==c.id then c else d
noncomputable def Tb.doT (t:Tb) (c:Cl) (q:Rq):ZpZ × Tb:=
 if q.seq>c.last + 1 then (Zho 7,t)
 else if q.seq<c.last\/q.seq=0 then (Zho 11,t)
 else if q.seq>c.last then (⟨0,q.client,q.seq,(Zcf t.bk q.cmd).1⟩,{ t with bk:=(Zcf t.bk q.cmd).2,cl:=Ze6 { c with last:=q.seq,rep:=(Zcf t.bk q.cmd).1 } t.cl })
 else (⟨0,q.client,q.seq,c.rep⟩,t)
noncomputable def Tb.askT (t:Tb) (q:Rq):ZpZ × Tb:=
 if q.kind=4 then (Zho 1,t)
 else if q.kind=1 then t.beginT q.token
 else match t.cl.find? (λ c=>c.id==q.client) with
  |none=>(if 1<=q.client/\q.client<t.next then Zho 10 else Zho 2,t)
  |some c=>if q.kind=3 then (⟨0,q.client,0,[]⟩,{ t with cl:=t.cl.filter λ d=>d.id !=q.client }) else t.doT c q
noncomputable def Tb.applyT (t:Tb) (bs:List Int):ZpZ × Tb:=if (Za8 mI bs).2≠0 then (Zho (Za8 mI bs).2,t) else t.askT (Za8 mI bs).1
structure ZA0 (t:ZpZ):Prop where
 code:0<=t.code/\t.code<=1099511627776
 client:0<=t.client/\t.client<=1099511627776
 seq:0<=t.seq/\t.seq<=1099511627776
 rep:t.reply.length<=65536
 by':Zv t.reply
structure Zzk (next:Int) (c:Cl):Prop where
 id:1<=c.id/\c.id<next
 tok:0<=c.tok/\c.tok<=1099511627776
 last:0<=c.last/\c.last<=1099511627776
 rep:c.rep.length<=65536
 by':Zv c.rep
structure Zm9 (t:Tb):Prop where
 nx:1<=t.next
 each:∀ c∈t.cl,Zzk t.next c
 ids:(t.cl.map Cl.id).Nodup
 toks:(t.cl.map Cl.tok).Nodup
 few:t.cl.length<=64
 bk:Zaw t.bk
theorem Zve {r:Rp} (h:Ztl r):(rpB r).length<=65536:=by
 have h1:=h.code;have h2:=h.pnr;have h3:=h.state;have h4:=h.flt;have h5:=h.cls;have h6:=h.many;have h7:=h.time;have h8:=h.ll;have h9:=h.left;have h10:=h.bl;have hn:∀ {x:Int},0<=x/\x<=1099511627776->0<=nn x/\nn x<18446744073709551616:=λ {x} hx=>by
  rw [Zcj hx.1];omega
 have l1:=Zw (hn h1);have l2:=ZaO (d:=ZY r.pnr) (by rw [Zaj];omega);have l3:=Zw (hn h3);have l4:=Zw (hn h4);have l5:=Zw (hn h5);have l6:=Zw (hn h6);have l7:=Zw (hn h7);have l8:=Zw (x:=(r.left.length:Int)) (by omega);have l9:=ZX (l:=r.left.map nn) λ y hy=>by
  obtain ⟨x,hx,rfl⟩:=List.mem_map.1 hy;exact hn (h9 x hx)
 have l10:=Zw (x:=(r.labs.length:Int)) (by omega);have l11:∀ l:List ByteArray,(∀ s∈l,s.size<=16)->((l.map Zqr).flatten).length<=25 * l.length:=λ l=>by
  induction l with
  |nil=>intro _;exact Nat.le_refl _
  |cons s l ih=>
   intro hs;have i1:=ih λ x hx=>hs x (List.mem_cons_of_mem _ hx);have i2:=hs s List.mem_cons_self;have i3:=ZaO (d:=ZY s) (by rw [Zaj];omega);rw [Zaj] at i3;rw [List.map_cons,List.flatten_cons,List.length_append,List.length_cons];unfold Zqr at *;omega
 have l12:=l11 r.labs h.labs;rw [Zaj] at l2;rw [List.length_map] at l9;unfold rpB;simp only [List.length_append];unfold Zqr at *;omega
theorem Zv5 {e:Int} (h0:0<=e) (h1:e<=1099511627776):ZA0 (Zho e):=⟨⟨h0,h1⟩,⟨Int.le_refl 0,by show (0:Int)<=1099511627776;decide⟩,⟨Int.le_refl 0,by show (0:Int)<=1099511627776;decide⟩,Nat.zero_le _,λ y hy=>by cases hy⟩
theorem Zsu {b:ZR} {cmd:List Int} (k:Zaw b) (hb:Zv cmd):(Zcf b cmd).1.length<=65536/\Zv (Zcf b cmd).1/\Zaw (Zcf b cmd).2:=by
 obtain ⟨hf,_⟩:=Zoj hb;unfold Zcf;split
 ·rename_i h
  have he:(Zcc cmd).2=6:=by
   unfold Zcc at h ⊢;split
   ·rename_i h2
    rw [if_pos h2] at h;exact absurd rfl h
   ·rfl
  have hr:Ztl (Zbn (Zcc cmd).2):=Zab (by rw [he];decide);exact ⟨Zve hr,Zol hr,k⟩
 ·have hr:=ZiB (c:=(Zcc cmd).1) k hf.sc
  exact ⟨Zve hr,Zol hr,ZnF k hf.sc⟩
theorem Zkc {l:List Cl} {P:Cl->Bool} {c:Cl} (h:l.find? P=some c):c∈l/\P c=true:=⟨List.mem_of_find?_eq_some h,List.find?_some h⟩
theorem Znr {bs:List Int} (hb:Zv bs) (h:(Za8 mI bs).2=0):ZbJ (Za8 mI bs).1:=by
 unfold Za8 at *;split
 ·rename_i h1;exact h1.2
 ·rename_i h1
  rw [if_neg h1] at h;exact absurd h (by show ¬ (6:Int)=0;decide)
theorem ZlT (c:Cl) (l:List Cl):(Ze6 c l).map Cl.id=l.map Cl.id:=by
 unfold Ze6;rw [List.map_map];refine List.map_congr_left λ d _=>?_;show Cl.id (if d.id==c.id then c else d)=d.id
 split
 ·rename_i h;exact (beq_iff_eq.1 h).symm
 ·rfl
theorem ZpB {c d:Cl} {l:List Cl} (hd:d∈l) (hid:d.id=c.id) (htok:d.tok=c.tok) (hn:(l.map Cl.id).Nodup):(Ze6 c l).map Cl.tok=l.map Cl.tok:=by
 unfold Ze6;rw [List.map_map];refine List.map_congr_left λ x hx=>?_;show Cl.tok (if x.id==c.id then c else x)=x.tok
 split
 ·rename_i h
  have h:=beq_iff_eq.1 h;have:x=d:=by
   obtain ⟨i,hi,rfl⟩:=List.getElem_of_mem hx;obtain ⟨j,hj,rfl⟩:=List.getElem_of_mem hd;have h2:(l.map Cl.id)[i]'(by simpa using hi)=(l.map Cl.id)[j]'(by simpa using hj):=by simp only [List.getElem_map];omega
   have:=(List.getElem_inj hn).1 h2;subst this;rfl
  rw [this,htok]
 ·rfl
theorem Zm9.apply {t:Tb} (k:Zm9 t) (hn:t.next<1000000) {bs:List Int} (hb:Zv bs) (hc:∀ q,(Za8 mI bs).1=q->Zv q.cmd):Zm9 (t.applyT bs).2/\ZA0 (t.applyT bs).1/\(t.applyT bs).2.next<=t.next + 1/\t.next<=(t.applyT bs).2.next:=by
 have hnx:=k.nx;have same:∀ {e:Int},0<=e->e<=1099511627776->Zm9 t/\ZA0 (Zho e)/\t.next<=t.next + 1/\t.next<=t.next:=λ h0 h1=>⟨k,Zv5 h0 h1,by omega,Int.le_refl _⟩;unfold Tb.applyT;split
 ·rename_i h
  have he:(Za8 mI bs).2=6:=by
   unfold Za8 at h ⊢;split
   ·rename_i h2
    rw [if_pos h2] at h;exact absurd rfl h
   ·rfl
  rw [he];exact same (by decide) (by decide)
 ·rename_i h
  have hq:=Znr hb (by simpa using h);have hcb:=hc _ rfl;generalize (Za8 mI bs).1=q at hq hcb;obtain ⟨q1,q2⟩:=hq.client;obtain ⟨q3,q4⟩:=hq.seq;obtain ⟨q5,q6⟩:=hq.token;unfold Tb.askT;split
  ·exact same (by decide) (by decide)
  ·split
   ·unfold Tb.beginT
    split
    ·rename_i c hc
     obtain ⟨hm,_⟩:=Zkc hc;have:=(k.each c hm).id;exact ⟨k,⟨⟨Int.le_refl 0,by show (0:Int)<=1099511627776;decide⟩,⟨by show 0<=c.id;omega,by show c.id<=1099511627776;omega⟩,⟨Int.le_refl 0,by show (0:Int)<=1099511627776;decide⟩,Nat.zero_le _,λ y hy=>by cases hy⟩,by show t.next<=t.next + 1;omega,Int.le_refl _⟩
    ·rename_i hno
     split
     ·exact same (by decide) (by decide)
     ·rename_i hfew
      have hno2:∀ c∈t.cl,c.tok≠q.token:=λ c hc e=>by
       have:=List.find?_eq_none.1 hno c hc;exact this (beq_iff_eq.2 e)
      refine ⟨⟨by show 1<=t.next + 1;omega,λ c hc=>?_,?_,?_,?_,k.bk⟩,⟨⟨Int.le_refl 0,by show (0:Int)<=1099511627776;decide⟩,⟨by show 0<=t.next;omega,by show t.next<=1099511627776;omega⟩,⟨Int.le_refl 0,by show (0:Int)<=1099511627776;decide⟩,Nat.zero_le _,λ y hy=>by cases hy⟩,Int.le_refl _,by show t.next<=t.next + 1;omega⟩
      ·rcases List.mem_append.1 hc with hc|hc
       ·have a:=k.each c hc
        exact ⟨⟨a.id.1,by have:=a.id.2;show c.id<t.next + 1;omega⟩,a.tok,a.last,a.rep,a.by'⟩
       ·rw [List.mem_singleton] at hc
        subst hc;exact ⟨⟨hnx,by show t.next<t.next + 1;omega⟩,⟨q5,q6⟩,⟨Int.le_refl 0,by show (0:Int)<=1099511627776;decide⟩,Nat.zero_le _,λ y hy=>by cases hy⟩
      ·show ((t.cl++[_]).map Cl.id).Nodup
       rw [List.map_append,List.nodup_append];refine ⟨k.ids,by simp,λ x hx y hy e=>?_⟩;obtain ⟨c,hc,rfl⟩:=List.mem_map.1 hx;have:=(k.each c hc).id.2;simp only [List.map_cons,List.map_nil,List.mem_singleton] at hy;omega
      ·show ((t.cl++[_]).map Cl.tok).Nodup
       rw [List.map_append,List.nodup_append];refine ⟨k.toks,by simp,λ x hx y hy e=>?_⟩;obtain ⟨c,hc,rfl⟩:=List.mem_map.1 hx;simp only [List.map_cons,List.map_nil,List.mem_singleton] at hy;exact hno2 c hc (by omega)
      ·show (t.cl++[_]).length<=64
       rw [List.length_append];simp only [List.length_cons,List.length_nil];omega
   ·split
    ·split
     ·exact same (by decide) (by decide)
     ·exact same (by decide) (by decide)
    ·rename_i c hc
     obtain ⟨hm,hid⟩:=Zkc hc;have hid:=beq_iff_eq.1 hid;have a:=k.each c hm;split
     ·refine ⟨⟨hnx,λ d hd=>k.each d (List.mem_filter.1 hd).1,?_,?_,Nat.le_trans (List.length_filter_le _ _) k.few,k.bk⟩,⟨⟨Int.le_refl 0,by show (0:Int)<=1099511627776;decide⟩,⟨q1,q2⟩,⟨Int.le_refl 0,by show (0:Int)<=1099511627776;decide⟩,Nat.zero_le _,λ y hy=>by cases hy⟩,by show t.next<=t.next + 1;omega,Int.le_refl _⟩
      ·exact (List.filter_sublist.map Cl.id).nodup k.ids
      ·exact (List.filter_sublist.map Cl.tok).nodup k.toks
     ·unfold Tb.doT
      split
      ·exact same (by decide) (by decide)
      ·split
       ·exact same (by decide) (by decide)
       ·split
        ·obtain ⟨d1,d2,d3⟩:=Zsu k.bk hcb
         refine ⟨⟨hnx,λ d hd=>?_,?_,?_,?_,d3⟩,⟨⟨Int.le_refl 0,by show (0:Int)<=1099511627776;decide⟩,⟨q1,q2⟩,⟨q3,q4⟩,d1,d2⟩,by show t.next<=t.next + 1;omega,Int.le_refl _⟩
         ·obtain ⟨x,hx,rfl⟩:=List.mem_map.1 hd
          dsimp only;split
          ·exact ⟨a.id,a.tok,⟨q3,q4⟩,d1,d2⟩
          ·exact k.each x hx
         ·show ((Ze6 _ t.cl).map Cl.id).Nodup
          rw [ZlT];exact k.ids
         ·show ((Ze6 _ t.cl).map Cl.tok).Nodup
          rw [ZpB (c:={ c with last:=q.seq,rep:=(Zcf t.bk q.cmd).1 }) hm rfl rfl k.ids];exact k.toks
         ·show (Ze6 _ t.cl).length<=64
          unfold Ze6;rw [List.length_map];exact k.few
        ·exact ⟨k,⟨⟨Int.le_refl 0,by show (0:Int)<=1099511627776;decide⟩,⟨q1,q2⟩,⟨q3,q4⟩,a.rep,a.by'⟩,by show t.next<=t.next + 1;omega,Int.le_refl _⟩
end
section
open Go Go.VC Tryz
open Classical
variable {R:Cx} {Hs Rest:List HP} {w:World}
abbrev SE:=Nat × Cl
abbrev ZU (c:Cl) (s:Sl):Obj:=.cells [.int .i64 c.tok,.int .i64 c.last,.slice s.a s.len s.cap].toArray 134 (0,0)
def ZH (e:SE):HP:=exs λ s:Sl=>ZaI [pts e.1 (ZU e.2 s),Own s 5 (b8 e.2.rep)]
def Za4 (e:SE):Int × Value:=(e.2.id,.pointer (some ⟨e.1,0,none⟩))
abbrev ZaR (bk:Nat) (next:Int) (m:Nat):Obj:=.cells [.pointer (some ⟨bk,0,none⟩),.int .i64 next,.map (some m)].toArray 128 (0,0)
def Zds (p:Nat) (t:Tb):HP:=exs λ m:Nat=>exs λ bk:Nat=>exs λ E:List SE=>ZaI [pur (E.map Prod.snd=t.cl),pts p (ZaR bk t.next m),MapAt m (E.map Za4),ZaI (E.map ZH),Zj bk t.bk]
theorem Sat.tb {p:Nat} {t:Tb}:Sat R (Zds p t::Hs) w↔∃ m bk,∃ E:List SE,E.map Prod.snd=t.cl/\Sat R (pts p (ZaR bk t.next m)::MapAt m (E.map Za4)::ZaI (E.map ZH)::Zj bk t.bk::Hs) w:=by
 unfold Zds;simp only [Sat.exs];constructor
 ·rintro ⟨m,b,E,h⟩
  obtain ⟨h1,h2⟩:=Sat.pur.1 (Sat.star.1 h);exact ⟨m,b,E,h1,h2⟩
 ·rintro ⟨m,b,E,h1,h2⟩
  exact ⟨m,b,E,Sat.star.2 (Sat.pur.2 ⟨h1,h2⟩)⟩
theorem Sat.cli {e:SE}:Sat R (ZH e::Hs) w↔∃ s:Sl,Sat R (pts e.1 (ZU e.2 s)::Own s 5 (b8 e.2.rep)::Hs) w:=by
 unfold ZH;simp only [Sat.exs];exact ⟨λ⟨s,h⟩=>⟨s,Sat.star.1 h⟩,λ⟨s,h⟩=>⟨s,Sat.star.2 h⟩⟩
theorem ZvD {A:HP} {B C:List HP}:Sat R (ZaI (B++A::C)::Hs) w↔Sat R (A::ZaI (B++C)::Hs) w:=by
 have key:∀ (B:List HP) {R:Cx} {Hs:List HP},Sat R (B++A::Hs) w↔Sat R (A::(B++Hs)) w:=λ B=>by
  induction B with
  |nil=>exact λ {R Hs}=>Iff.rfl
  |cons X B ih=>
   intro R Hs;constructor
   ·intro h
    have h:Sat R (X::(B++A::Hs)) w:=h;exact (h.cons λ _ h=>ih.1 h).swap
   ·intro h
    have h:Sat R (A::X::(B++Hs)) w:=h;exact (h.swap.cons λ _ h=>ih.2 h)
 rw [Sat.star,List.append_assoc,List.cons_append,key B];constructor
 ·intro h
  exact h.cons λ _ h=>Sat.star.2 (by rw [List.append_assoc];exact h)
 ·intro h
  refine h.cons λ _ h=>?_;have:=Sat.star.1 h;rwa [List.append_assoc] at this
theorem Zd9 {A C:List SE} {e:SE}:Sat R (ZaI ((A++e::C).map ZH)::Hs) w↔∃ s:Sl,Sat R (pts e.1 (ZU e.2 s)::Own s 5 (b8 e.2.rep)::ZaI (A.map ZH++C.map ZH)::Hs) w:=by
 rw [List.map_append,List.map_cons,ZvD,Sat.cli]
abbrev Zzf:Ztv prog 126 Int 3 131 (.pointer none):=⟨underlying126,underlying3,zeroValue131⟩
theorem ZsJ {k:Int}:∀ {E:List SE},ZD k (E.map Za4)=(E.find? λ e=>e.2.id==k).map λ e=>.pointer (some ⟨e.1,0,none⟩)
 |[]=>rfl
 |e::E=>by
  rw [List.map_cons,ZD,List.find?_cons];show (if k==e.2.id then some (Value.pointer (some ⟨e.1,0,none⟩)) else _)=_
  by_cases h:e.2.id=k
  ·rw [if_pos (by rw [h];simp),show (e.2.id==k)=true by simpa using h]
   rfl
  ·rw [if_neg (by simpa using λ h2=>h h2.symm),show (e.2.id==k)=false by simpa using h,ZsJ]
theorem Zxa {E:List SE} {P:Cl->Bool}:(E.map Prod.snd).find? P=(E.find? λ e=>P e.2).map Prod.snd:=by
 rw [List.find?_map];rfl
theorem Zkd {l:List Cl} {f:Cl->Int} (h:(l.map f).Nodup) {c:Cl} (hc:c∈l):l.find? (λ d=>f d==f c)=some c:=by
 induction l with
 |nil=>cases hc
 |cons x l ih=>
  rw [List.map_cons,List.nodup_cons] at h;rw [List.find?_cons];rcases List.mem_cons.1 hc with h1|h1
  ·subst h1
   simp
  ·have:f x≠f c:=λ e=>h.1 (List.mem_map.2 ⟨c,h1,e.symm⟩)
   rw [show (f x==f c)=false by simpa using this];exact ih h.2 h1
theorem ZcU {b4:Nat} {t4 τ:ZpZ} {s0 s:Sl} {K:Int->Int->Int->Sl->World->Prop} (hw:Sat R (tdC b4 t4 s0::Hs) w) (k:∀ w',Sat R Hs w'->K τ.code τ.client τ.seq s w'):
  ∃ w_6:World,((Instr.storeAt 54 (.pointer ((some ⟨b4,0,none⟩))) (.agg #[.int .i64 τ.code,.int .i64 τ.client,.int .i64 τ.seq,.slice s.a s.len s.cap])).run prog w=.ok () w_6)/\
  ∃ u:Int,∃ u_1:Int,∃ u_2:Int,∃ u_3:Sl,(At (λ w'=>w'=w_6) ⟨b4,0,none⟩ [.int .i64 u,.int .i64 u_1,.int .i64 u_2,.slice u_3.a u_3.len u_3.cap])/\
  K u u_1 u_2 u_3 w_6:=by
 refine Za hw (by kernel_rfl) rfl (by simp [Value.cells]) λ w hw=>?_;have hw:=hw.re (tdC b4 τ s);exact ⟨τ.code,τ.client,τ.seq,s,At.own (eqS hw) (by exact ⟨rfl,rfl,rfl,rfl,trivial⟩),k _ hw.drop⟩
theorem ZaZ {e:Int} (hw:Sat R Hs w):Zo prog 72 #[.int .i64 e] w λ v w'=>v=.agg (tdV (Zho e) Zc9).toArray/\Sat R Hs w':=by
 apply ZAg;refine Zb hw λ b w hw=>?_;have hw:Sat R (ZaY b::Hs) w:=hw;exact ZcU (τ:=Zho e) (s:=Zc9) hw λ w hw=>⟨rfl,hw⟩
theorem Zak.mk2 {g:FuncId} {x y:Value} {Q:Ending->World->Prop} (hc:cl g=true) (h:Calls prog g #[x,y] w Q):Zak prog cl (.func (.func g) #[x] #[]) [y] w Q:=Zak.mkB hc (by
 have e:((#[x]:Array Value).toList++(([y]:List Value)++(#[]:Array Value).toList)).toArray=#[x,y]:=rfl;rw [e];exact h)
set_option maxHeartbeats 1000000 in
theorem Zst {p:Nat} {b:ZR} {s:Sl} {cmd:List Int} (k:Zaw b) (hb:Zv cmd) (hl:cmd.length<=1099511627776) (hs:Ro R s (b8 cmd)) (hw:Sat R (Zj p b::Hs) w):
  Zo prog 74 #[.slice s.a s.len s.cap,.func (.func 12) #[.pointer (some ⟨p,0,none⟩)] #[]] w λ v w'=>
   ∃ t:Sl,v=.slice t.a t.len t.cap/\Sat R (Own t 5 (b8 (Zcf b cmd).1)::Zj p (Zcf b cmd).2::Hs) w':=by
 apply ZAe;obtain ⟨hf,hgl,hpl⟩:=Zoj hb;refine (Ztb hb hl hs hw).use ?_;clear hw;rintro _ w ⟨sg,sp,rfl,hw⟩;obtain ⟨c,hc⟩:∃ c,c=(Zcc cmd).1:=⟨_,rfl⟩;obtain ⟨e,he⟩:∃ e,e=(Zcc cmd).2:=⟨_,rfl⟩;have hd:Zcf b cmd=if e≠0 then (rpB (Zbn e),b) else (rpB (Zah b c).2,(Zah b c).1):=by unfold Zcf;rw [<-hc,<-he]
 have he6:e=0\/e=6:=by
  rw [he];unfold Zcc;split
  ·exact .inl rfl
  ·exact .inr rfl
 rw [hd];rw [<-hc] at hw hf hgl hpl;rw [<-hc,<-he];refine ⟨c.kind,c.pnr,c.flt,c.cls,c.many,c.time,c.sc,c.lab,c.rows,sg,sp,e,rfl,?_⟩;refine Zb hw λ b5 w hw=>?_;refine Za hw (by kernel_rfl) rfl (by simp [Value.cells]) λ w hw=>?_;have hw:=hw.re (cmC b5 c sg sp);refine Br.ne (λ h=>?_) (λ h=>?_)
 ·rw [if_pos h]
  have hin:Ztl (Zbn e):=Zab (by omega);refine (ZgD (r:=Zbn e) (sl:=ZE) (sb:=ZE) (Zvd hin) ⟨rfl,by show 0<=9223372036854775807;omega,λ h=>absurd rfl h⟩ ⟨rfl,Nat.le_refl _,λ h=>absurd rfl h⟩ hw).use ?_;clear hw;rintro _ w ⟨t,rfl,hw⟩;exact ⟨t,rfl,t,rfl,hw.cons λ _ h=>h.drop.drop.drop⟩
 ·rw [if_neg (by simpa using h)]
  have hw:Sat R (Own sg 3 (Zg c.grps)::Own sp 35 (Zi3 c.parts)::Zj p b::cmC b5 c sg sp::Hs) w:=hw.arr;obtain ⟨R1,e1,g1,hw⟩:=Own.leak hw;obtain ⟨R2,e2,g2,hw⟩:=Own.leak hw;refine ⟨c.kind,c.pnr,c.flt,c.cls,c.many,c.time,c.sc,c.lab,c.rows,sg,sp,At.own (eqS hw) (by exact ⟨rfl,rfl,rfl,rfl,rfl,rfl,rfl,rfl,rfl,rfl,rfl,trivial⟩),?_⟩;have hin:=ZiB (c:=c) k hf.sc;refine Zak.mk2 (by kernel_rfl) ((ZpL k hf.sc (e2.ro (g1.ro (by rw [List.length_map];omega))) (by omega) g2 hw).use ?_);clear hw;rintro _ w ⟨sl,sb,rfl,hw⟩;obtain ⟨rp,hrp⟩:∃ x,x=(Zah b c).2:=⟨_,rfl⟩;obtain ⟨nb,hnb⟩:∃ x,x=(Zah b c).1:=⟨_,rfl⟩;rw [<-hrp] at hin hw ⊢;rw [<-hnb] at hw ⊢;have hll:=hin.ll;have hbl:=hin.bl;obtain ⟨R3,e3,r3,hw⟩:=Own.leak hw;obtain ⟨R4,e4,r4,hw⟩:=Own.leak hw;refine ⟨rp.code,rp.pnr,rp.state,rp.flt,rp.cls,rp.many,rp.time,sl,sb,rfl,?_⟩;refine (ZgD (Zvd hin) (e4.ro (r3.ro (by rw [List.length_map];omega))) r4 hw).use ?_;clear hw;rintro _ w ⟨t,rfl,hw⟩;exact ⟨t,rfl,t,rfl,e1.back (e2.back (e3.back (e4.back (hw.cons λ _ h=>h.cons λ _ h=>h.drop))))⟩
set_option maxHeartbeats 1000000 in
theorem Zmm {p:Nat} {t:Tb} {tok:Int} (ok:Zm9 t) (hn:t.next<1000000) (hw:Sat R (Zds p t::Hs) w):
  Zo prog 73 #[.pointer (some ⟨p,0,none⟩),.int .i64 tok] w λ v w'=>v=.agg (tdV (t.beginT tok).1 Zc9).toArray/\Sat R (Zds p (t.beginT tok).2::Hs) w':=by
 obtain ⟨m,bk,E,hE,hw⟩:=Sat.tb.1 hw;have hnx:=ok.nx;have hlE:E.length=t.cl.length:=by rw [<-hE,List.length_map]
 apply ZAf;refine Zb hw λ b4 w hw=>?_;have hw:Sat R (MapAt m (E.map Za4)::pts p (ZaR bk t.next m)::ZaI (E.map ZH)::Zj bk t.bk::ZaY b4::Hs) w:=by
  have hw:Sat R (ZaY b4::pts p (ZaR bk t.next m)::MapAt m (E.map Za4)::ZaI (E.map ZH)::Zj bk t.bk::Hs) w:=hw;exact hw.arr
 refine Zd.mk rfl ⟨some m,oA hw,?_⟩;refine ZoQ underlying126 hw λ r w hw=>?_;refine ⟨λ w=>∃ left:List (Int × Value),(∀ e∈E,e.2.tok=tok->Za4 e∈left)/\(∀ x∈left,x∈E.map Za4)/\Sat R (Zje r m (E.map Za4) left::pts p (ZaR bk t.next m)::ZaI (E.map ZH)::Zj bk t.bk::ZaY b4::Hs) w,Zr2 r m,⟨_,λ e he _=>List.mem_map.2 ⟨e,he,rfl⟩,λ x hx=>hx,hw⟩,?_⟩;clear hw;rintro _ w ⟨left,hall,hin,hw⟩;have hlen:=ZlA hw;rcases Zo5 (P:=prog) (T:=0) hw with ⟨rfl,hrun⟩|⟨a,k,v,b,w',rfl,hrun,hent,hw'⟩
 ·refine ⟨w,.inl ⟨hrun,?_⟩⟩
  have hno:t.cl.find? (λ c=>c.tok==tok)=none:=List.find?_eq_none.2 λ c hc h=>by
   rw [<-hE] at hc;obtain ⟨e,he,rfl⟩:=List.mem_map.1 hc;have:=hall e he (beq_iff_eq.1 h);cases this
  unfold Tb.beginT;rw [hno];dsimp only;have hw:=Zje.map hw;refine Zd.mk rfl ⟨some m,oA hw,((E.map Za4).length:Int),λ w' e=>?_,?_⟩
  ·rw [show w'=w from e]
   exact MapAt.len (by kernel_rfl) hw
  rw [List.length_map];refine Br.d (λ h=>?_) (λ h=>?_)
  ·rw [if_pos (by omega)]
   refine (ZaZ (e:=3) hw).use ?_;clear hw;rintro _ w ⟨rfl,hw⟩;refine ⟨3,0,0,Zc9,rfl,?_⟩;have hw:Sat R (ZaY b4::pts p (ZaR bk t.next m)::MapAt m (E.map Za4)::ZaI (E.map ZH)::Zj bk t.bk::Hs) w:=hw.arr;exact ZcU (τ:=Zho 3) (s:=Zc9) hw λ w hw=>⟨rfl,Sat.tb.2 ⟨m,bk,E,hE,hw⟩⟩
  rw [if_neg (by omega)];refine Zu hw λ w hw=>?_;refine Zd.mk rfl ⟨some m,oS,Zd.mk rfl ⟨t.next,oS,?_⟩⟩;refine Zb hw λ c w hw=>⟨hw.drop,?_⟩;obtain ⟨n,hnc⟩:∃ n:Cl,n=⟨t.next,tok,0,[]⟩:=⟨_,rfl⟩;have hw:Sat R (pts c (ZU n Zc9)::MapAt m (E.map Za4)::pts p (ZaR bk t.next m)::ZaI (E.map ZH)::Zj bk t.bk::ZaY b4::Hs) w:=by rw [hnc];exact hw
  refine MapAt.put Zzf hw.swap t.next (.pointer (some ⟨c,0,none⟩)) λ w hw=>?_;have hput:Zci t.next (.pointer (some ⟨c,0,none⟩)) (E.map Za4)=(E++[(c,n)]).map Za4:=by
   unfold Zci;have:ZD t.next (E.map Za4)=none:=Zd0.2 λ x hx=>by
    obtain ⟨e,he,rfl⟩:=List.mem_map.1 hx;have:=(ok.each e.2 (by rw [<-hE];exact List.mem_map.2 ⟨e,he,rfl⟩)).id;show e.2.id≠t.next;omega
   rw [this];simp [Za4,hnc]
  rw [hput] at hw;have hw:Sat R (pts p (ZaR bk t.next m)::MapAt m ((E++[(c,n)]).map Za4)::pts c (ZU n Zc9)::ZaI (E.map ZH)::Zj bk t.bk::ZaY b4::Hs) w:=hw.arr;refine Zd.mk rfl ⟨t.next,oA hw,Zd.mk rfl ?_⟩;rw [Zl (by omega) (by omega)];refine Za hw (by kernel_rfl) rfl (by simp [Value.cells]) λ w hw=>?_;have hw:=hw.re (pts p (ZaR bk (t.next + 1) m));refine Zd.mk rfl ⟨t.next + 1,oA hw,?_⟩;rw [Zl (by omega) (by omega),show t.next + 1 - 1=t.next by omega];have hw:Sat R (ZaY b4::pts p (ZaR bk (t.next + 1) m)::MapAt m ((E++[(c,n)]).map Za4)::pts c (ZU n Zc9)::ZaI (E.map ZH)::Zj bk t.bk::Hs) w:=hw.arr;refine ZcU (τ:=⟨0,t.next,0,[]⟩) (s:=Zc9) hw λ w hw=>⟨rfl,?_⟩;refine Sat.tb.2 ⟨m,bk,E++[(c,n)],by rw [List.map_append,hE,hnc];rfl,?_⟩;refine hw.cons λ _ h=>h.cons λ _ h=>?_;refine Zd9 (A:=E) (C:=[])|>.2 ⟨Zc9,?_⟩
  refine h.cons λ _ h=>?_;rw [show b8 (c,n).2.rep=[] by rw [hnc];rfl];refine Own.nil ?_;rw [List.map_nil,List.append_nil];exact h
 ·obtain ⟨e,he,hkv⟩:=List.mem_map.1 (hin (k,v) (by simp))
  have hk:e.2.id=k:=congrArg Prod.fst hkv;have hv:Value.pointer (some ⟨e.1,0,none⟩)=v:=congrArg Prod.snd hkv;subst hk hv;have hec:e.2∈t.cl:=by rw [<-hE];exact List.mem_map.2 ⟨e,he,rfl⟩
  refine ⟨w',.inr ⟨_,_,hrun,e.2.id,some ⟨e.1,0,none⟩,λ w2 h2=>by rw [show w2=w' from h2];exact hent,Zd.mk rfl ?_⟩⟩
  obtain ⟨A,C,hAC⟩:=List.append_of_mem he;obtain ⟨s,hp⟩:∃ s:Sl,Sat R (pts e.1 (ZU e.2 s)::Own s 5 (b8 e.2.rep)::ZaI (A.map ZH++C.map ZH)::Zje r m (E.map Za4) (a++b)::pts p (ZaR bk t.next m)::Zj bk t.bk::ZaY b4::Hs) w':=by
   have h3:Sat R (ZaI (E.map ZH)::Zje r m (E.map Za4) (a++b)::pts p (ZaR bk t.next m)::Zj bk t.bk::ZaY b4::Hs) w':=hw'.arr;rw [hAC] at h3;rw [hAC];exact Zd9.1 h3
  refine ⟨e.2.tok,At.own (b:=e.1) (eqS hp) (by exact ⟨rfl,trivial⟩),Br.e (λ ht=>?_) (λ ht=>?_)⟩
  ·have hw':Sat R (ZaY b4::Zje r m (E.map Za4) (a++b)::pts p (ZaR bk t.next m)::ZaI (E.map ZH)::Zj bk t.bk::Hs) w':=hw'.arr
   have hfd:t.cl.find? (λ c=>c.tok==tok)=some e.2:=by rw [<-ht];exact Zkd (f:=Cl.tok) ok.toks hec
   unfold Tb.beginT;rw [hfd];refine ZcU (τ:=⟨0,e.2.id,0,[]⟩) (s:=Zc9) hw' λ w hw=>⟨rfl,?_⟩;exact Sat.tb.2 ⟨m,bk,E,hE,(Zje.map hw).swap⟩
  ·have hlen':=ZlA hw'
   refine ⟨⟨a++b,λ e0 he0 h0=>?_,λ x hx=>hin x ?_,hw'⟩,?_⟩
   ·have h1:=hall e0 he0 h0
    rcases List.mem_append.1 h1 with h1|h1
    ·exact List.mem_append.2 (.inl h1)
    ·rcases List.mem_cons.1 h1 with h1|h1
     ·have hid:e0.2.id=e.2.id:=show (Za4 e0).1=(Za4 e).1 from congrArg Prod.fst h1
      have:e0.2=e.2:=by
       have k1:=Zkd (f:=Cl.id) ok.ids hec;have k2:=Zkd (f:=Cl.id) ok.ids (c:=e0.2) (by rw [<-hE];exact List.mem_map.2 ⟨e0,he0,rfl⟩);rw [hid,k1] at k2;exact (Option.some.inj k2).symm
      rw [this] at h0;exact absurd h0 ht
     ·exact List.mem_append.2 (.inr h1)
   ·rcases List.mem_append.1 hx with h1|h1
    ·exact List.mem_append.2 (.inl h1)
    ·exact List.mem_append.2 (.inr (List.mem_cons_of_mem _ h1))
   ·rw [hlen,hlen']
    simp
def ZzE:Tb:=⟨1,[],Z3⟩
theorem Zrz:Zm9 ZzE:=⟨Int.le_refl 1,λ _ h=>(by cases h),List.nodup_nil,List.nodup_nil,Nat.zero_le _,Zzz⟩
theorem Zhd (hw:Sat R Hs w):Zo prog 22 #[] w λ v w'=>∃ p,v=.pointer (some ⟨p,0,none⟩)/\Sat R (Zds p ZzE::Hs) w':=by
 apply ZAB;refine (ZlY hw).use ?_;clear hw;rintro _ w ⟨p0,rfl,hw⟩;refine ⟨_,rfl,Zb hw λ m w hw=>?_⟩;have hw:=MapAt.new (α:=Int) rfl hw;refine Zb hw λ p w hw=>⟨p,rfl,Sat.tb.2 ⟨m,p0,[],rfl,?_⟩⟩;exact hw.cons λ _ h=>h.cons λ _ h=>Sat.star.2 h
end
end Go.Proofs.YtlplemdmegpoeaaGreatDoor
