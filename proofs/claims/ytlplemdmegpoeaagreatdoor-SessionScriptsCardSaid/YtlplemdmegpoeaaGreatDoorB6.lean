/- Package booking: Decode, the whole. Condition: bounds on lengths. -/
import Derived.Test.YtlplemdmegpoeaaGreatDoorB5
import Derived.Test.YtlplemdmegpoeaaGreatDoorB3
import Derived.Test.YtlplemdmegpoeaaGreatDoorB2
import Derived.Lib.Overlaps
import Derived.Lib.Bytealg
import Derived.Test.YtlplemdmegpoeaaGreatDoorB4
import Derived.SizedLaws
set_option linter.unusedVariables false
set_option linter.defProp false
set_option linter.unusedSimpArgs false
set_option maxHeartbeats 8000000
namespace Go.Proofs.YtlplemdmegpoeaaGreatDoor
section
open Go Go.VC Tryz
open Classical
variable {R:Cx} {Hs Rest:List HP} {w:World}
def XP.mkB {g:FuncId} {first a:Array Value} {args:List Value} {Q:Ending->xE} (d:cl g=true) (h:Calls prog g (first.toList++(args++a.toList)).toArray w Q):XP prog cl (.func (.func g) first a) args w Q:=by
 unfold XP;simp only [d];exact h
def XP.mk1 {g:FuncId} {x:Value} {Q:Ending->xE} (a:cl g=true) (h:Calls prog g #[x] w Q):XP prog cl (.func (.func g) #[x] #[]) [] w Q:=XP.mkB a (by
 have e:((#[x]:Array Value).toList++(([]:List Value)++(#[]:Array Value).toList)).toArray=#[x]:=rfl;rw [e];exact h)
def ZhO:Cm:=ZC 0 (ByteArray.mk #[]) 0 0 0 0
noncomputable def Z5 (bs:List Int):Cm × Int:=if Xw (Zsi ⟨bs,false⟩).2=true/\Z9 (Zsi ⟨bs,false⟩).1 then ((Zsi ⟨bs,false⟩).1,0) else (ZhO,6)
def Zgb {most:Int} {rd:Rd}:(Xq most rd).2.bs.length<=rd.bs.length:=UW.2
def ZnX {rd:Rd}:(Xm rd).2.bs.length<=rd.bs.length:=Xh
def Zqz {rd:Rd} (h:ZV rd.bs):ZV (hd2 rd).2.bs:=Zo (Zo (Zo (Zo h)))
def ZrQ {rd:Rd}:(hd2 rd).2.bs.length<=rd.bs.length:=jf Xh (jf Xh (jf Xh Xh))
def Zon (r:Rd):Zsi r=
 let k:=Zh 9 r
 let p:=Xq 16 k.2
 let h:=hd2 p.2
 let s:=Xm h.2
 let l:=Xq 16 s.2
 let w:=Zh 9999 l.2
 let n:=Zh 16 w.2
 let g:=ZW (Zh 9999) n.1.toNat n.2
 let q:=Zh 16 g.2
 let x:=ZW Xm q.1.toNat q.2
 (⟨k.1,p.1,h.1.1,h.1.2.1,h.1.2.2.1,h.1.2.2.2,s.1,l.1,w.1,g.1,x.1⟩,x.2):=rfl
def ZhK {s:Sl} {bs:List Int} (hb:ZV bs) (hl:bs.length<=1099511627776) (hs:Ro R s (b8 bs)) (d:Sat R Hs w):
  Zg prog 141 #[.slice s.a s.len s.cap] w λ v w'=>∃ sg sp:Sl,v=.tuple #[.agg (cmV (Z5 bs).1 sg sp).toArray,nI (Z5 bs).2]/\Sat R (Own sg 3 (Zd (Z5 bs).1.grps)::Own sp 35 (GM (Z5 bs).1.parts)::Hs) w':=by
 apply ZtU;have b0:ZV (⟨bs,false⟩:Rd).bs:=hb;have l0:(⟨bs,false⟩:Rd).bs.length<=1099511627776:=hl;have l:=Zon ⟨bs,false⟩;obtain ⟨o,L⟩:=xx (⟨bs,false⟩:Rd);rw [<-L] at b0 l0 l;have b1:=Zo (most:=9) b0;have l1:(Zh 9 o).2.bs.length<=1099511627776:=jf Xh l0;refine Za d λ b2 w d=>?_;have d:Sat R (Z2 b2::Hs) w:=d;refine (Zhp hs hl d).use ?_;clear d;rintro _ w ⟨r,rfl,d⟩;refine ⟨_,rfl,?_⟩;rw [<-L] at d;refine Za d λ b4 w d=>?_;refine sRu d λ w d=>?_;have d:Sat R (Xl r o::brC b4 r::Z2 b2::Hs) w:=d.re (brC b4 r)|>.swap
 refine ⟨JD R (Z2 b2::Hs) b4 r (Zh 9 o).1 (Xq 16 (Zh 9 o).2).1 (hd2 (Xq 16 (Zh 9 o).2).2),?_,?_⟩
 ·refine Zj (Sat R [brC b4 r,VC.tru]) d (λ w d=>Zdr d) λ w d=>?_
  clear l;refine ⟨_,oS,_,oS,_,oS,?_⟩;refine ⟨?_,Za d λ b w d=>⟨Zq5 d,Zvf b0 l0 (λ d=>⟨b,rfl,d⟩) (d.arr (Hs':=Xl r o::brC b4 r::Z2 b::Z2 b2::Hs))⟩⟩;refine (Vl (most:=9) b0 (by omega) (by omega) d).use ?_;clear d;rintro _ w ⟨rfl,d⟩;refine ⟨_,rfl,Zdr d,?_⟩;generalize (Zh 9 o).1=k at *;generalize (Zh 9 o).2=z at *;refine ⟨?_,Za d λ b w d=>⟨Zq5 d,ZqK b1 l1 (λ d=>⟨b,rfl,d⟩) (d.arr (Hs':=Xl r z::brC b4 r::Z2 b::Z2 b2::Hs))⟩⟩;have b2':=Vu (most:=16) b1;refine (Zdg (most:=16) b1 l1 (by omega) d).use ?_;clear d;rintro _ w ⟨rfl,d⟩;refine ⟨_,rfl,Zdr d,?_⟩;generalize (Xq 16 z).1=p at *;generalize (Xq 16 z).2=g at *;refine ⟨?_,Za d λ b w d=>⟨Zq5 d,ZqJ b2' (λ d=>⟨b,rfl,d⟩) (d.arr (Hs':=Xl r g::brC b4 r::Z2 b::Z2 b2::Hs))⟩⟩;have b3:=Zo (most:=9999) b2';refine (VE b2' d).use ?_;clear d;rintro _ w ⟨rfl,d⟩;refine ⟨_,rfl,Zdr d,?_⟩;refine ⟨?_,Za d λ b w d=>⟨Zq5 d,ZqI b3 (λ d=>⟨b,rfl,d⟩) (d.arr (Hs':=Xl r _::brC b4 r::Z2 b::Z2 b2::Hs))⟩⟩;have b4':=Zo (most:=9999) b3;refine (VE b3 d).use ?_;clear d;rintro _ w ⟨rfl,d⟩;refine ⟨_,rfl,Zdr d,?_⟩;refine ⟨?_,Za d λ b w d=>⟨Zq5 d,ZqH b4' (λ d=>⟨b,rfl,d⟩) (d.arr (Hs':=Xl r _::brC b4 r::Z2 b::Z2 b2::Hs))⟩⟩;have b5:=Zo (most:=9999) b4';refine (VE b4' d).use ?_;clear d;rintro _ w ⟨rfl,d⟩;refine ⟨_,rfl,Zdr d,?_⟩;refine ⟨?_,Za d λ b w d=>⟨Zq5 d,ZqG b5 (λ d=>⟨b,rfl,d⟩) (d.arr (Hs':=Xl r _::brC b4 r::Z2 b::Z2 b2::Hs))⟩⟩;refine (Vl (most:=1099511627776) b5 (by omega) (by omega) d).use ?_;clear d;rintro _ w ⟨rfl,d⟩;have d:Sat R (Xl r (hd2 g).2::brC b4 r::Z2 b2::Hs) w:=d;refine ⟨_,rfl,Zdr d,Za d λ b w d=>⟨Zq5 d,ZqF (λ d=>⟨b,rfl,d⟩) (d.arr (Hs':=Xl r _::brC b4 r::Z2 b::Z2 b2::Hs))⟩⟩
 clear d;obtain ⟨k,z,M⟩:∃ y rd,Zh 9 o=(y,rd):=⟨_,_,rfl⟩;rw [M] at b1 l1 ⊢;dsimp only at b1 l1 ⊢;have b2':=Vu (most:=16) b1;have l2:(Xq 16 z).2.bs.length<=1099511627776:=jf Zgb l1;obtain ⟨p,g,N⟩:∃ y rd,Xq 16 z=(y,rd):=⟨_,_,rfl⟩;rw [N] at b2' l2 ⊢;dsimp only at b2' l2 ⊢;have b3:=Zqz b2';have l3:(hd2 g).2.bs.length<=1099511627776:=jf ZrQ l2;obtain ⟨⟨f,c,m,t⟩,rd3,e3⟩:∃ y rd,hd2 g=(y,rd):=⟨_,_,rfl⟩;rw [e3] at b3 l3 ⊢;dsimp only at b3 l3 ⊢;rintro _ _ w ⟨b,rfl,d⟩;have b4':=U7 b3;have l4:(Xm rd3).2.bs.length<=1099511627776:=jf ZnX l3;obtain ⟨sc,q,O⟩:∃ y rd,Xm rd3=(y,rd):=⟨_,_,rfl⟩;have d:=d.b2;refine ⟨some ⟨r,0,none⟩,oA d,?_⟩;refine (ZhF b3 d).use ?_;clear d;rintro _ w ⟨rfl,d⟩;rw [O] at b4' l4 d ⊢;dsimp only at b4' l4 d ⊢;refine ⟨_,rfl,Zb.mk rfl ?_⟩;refine sRu d λ w d=>?_;have d:Sat R (Xl r q::brC b4 r::cmC b { ZC k p f c m t with sc:=sc } Ze Ze::Z2 b2::Hs) w:=(d.re (cmC b { ZC k p f c m t with sc:=sc } Ze Ze)).arr;have b5:=Vu (most:=16) b4';have l5:(Xq 16 q).2.bs.length<=1099511627776:=jf Zgb l4;obtain ⟨lab,x,U⟩:∃ y rd,Xq 16 q=(y,rd):=⟨_,_,rfl⟩;refine ⟨some ⟨r,0,none⟩,oA d,?_⟩;refine (Zdg (most:=16) b4' l4 (by omega) d).use ?_;clear d;rintro _ w ⟨rfl,d⟩;rw [U] at b5 l5 d ⊢;dsimp only at b5 l5 d ⊢;refine ⟨_,rfl,Zb.mk rfl ?_⟩;refine sRu d λ w d=>?_;have d:Sat R (Xl r x::brC b4 r::cmC b { ZC k p f c m t with sc:=sc,lab:=lab } Ze Ze::Z2 b2::Hs) w:=(d.re (cmC b { ZC k p f c m t with sc:=sc,lab:=lab } Ze Ze)).arr;have b6:=Zo (most:=9999) b5;have l6:(Zh 9999 x).2.bs.length<=1099511627776:=jf Xh l5;obtain ⟨rows,E,V⟩:∃ y rd,Zh 9999 x=(y,rd):=⟨_,_,rfl⟩;refine (VE b5 d).use ?_;clear d;rintro _ w ⟨rfl,d⟩;rw [V] at b6 l6 d ⊢;dsimp only at b6 l6 d ⊢;refine ⟨_,rfl,Zb.mk rfl ?_⟩;refine sRu d λ w d=>?_;have d:Sat R (Xl r E::brC b4 r::cmC b { ZC k p f c m t with sc:=sc,lab:=lab,rows:=rows } Ze Ze::Z2 b2::Hs) w:=(d.re (cmC b { ZC k p f c m t with sc:=sc,lab:=lab,rows:=rows } Ze Ze)).arr;have b7:=Zo (most:=16) b6;have v7:=ZG (most:=16) b6 (by omega);obtain ⟨n7,A,W⟩:∃ y rd,Zh 16 E=(y,rd):=⟨_,_,rfl⟩;refine ⟨some ⟨r,0,none⟩,oA d,?_⟩;refine (Vl (most:=16) b6 (by omega) (by omega) d).use ?_;clear d;rintro _ w ⟨rfl,d⟩;rw [W] at b7 v7 d ⊢;dsimp only at b7 v7 d ⊢;refine ⟨_,rfl,?_⟩;obtain ⟨n,rfl⟩:=qs v7.1;have b8':ZV (ZW (Zh 9999) n A).2.bs:=(XZ (one:=Zh 9999) (P:=λ r=>ZV r.bs) (Q:=λ _=>True) (λ r X=>⟨trivial,Zo X⟩) n b7).2;refine (ZhS (one:=Zh 9999) (I:=λ rd=>ZV rd.bs) (λ rd h=>Zo h) (by omega) b7 (λ T rd w hI d=>XP.mk (by kernel_rfl) ((VE hI (d.arr (Hs':=Xl r rd::brC b4 r::T::cmC b { ZC k p f c m t with sc:=sc,lab:=lab,rows:=rows } Ze Ze::Z2 b2::Hs))).use λ v w h=>⟨by rw [h.1],h.2.arr⟩)) d).use ?_;clear d;rintro _ w ⟨sg,rfl,d⟩;have gl:=XB (Zh 9999) n A;obtain ⟨j,F,Y⟩:∃ y rd,ZW (Zh 9999) n A=(y,rd):=⟨_,_,rfl⟩;rw [Y] at gl b8' d;dsimp only at gl b8' d;refine ⟨sg,rfl,Zb.mk rfl ?_⟩;refine sRu d λ w d=>?_;have d:Sat R (Xl r F::brC b4 r::Own sg 3 (Zd j)::cmC b { ZC k p f c m t with sc:=sc,lab:=lab,rows:=rows,grps:=j } sg Ze::Z2 b2::Hs) w:=(d.re (cmC b { ZC k p f c m t with sc:=sc,lab:=lab,rows:=rows,grps:=j } sg Ze)).arr;have b9:=Zo (most:=16) b8';have v9:=ZG (most:=16) b8' (by omega);obtain ⟨n9,G,S⟩:∃ y rd,Zh 16 F=(y,rd):=⟨_,_,rfl⟩;refine Zj (Sat R [brC b4 r,VC.tru]) d (λ w d=>Zdr d) λ w d=>?_;refine ⟨some ⟨r,0,none⟩,oS,some ⟨r,0,none⟩,oS,?_⟩;refine (Vl (most:=16) b8' (by omega) (by omega) d).use ?_;clear d;rintro _ w ⟨rfl,d⟩;rw [S] at b9 v9 d ⊢;dsimp only at b9 v9 d ⊢;refine ⟨_,rfl,Zdr d,?_⟩;obtain ⟨n',rfl⟩:=qs v9.1;refine (ZhT (one:=Xm) (I:=λ rd=>ZV rd.bs) (λ rd h=>U7 h) (by omega) b9 (λ T rd w hI d=>XP.mk1 (by kernel_rfl) ((ZhF hI d).use λ v w h=>⟨by rw [h.1],h.2⟩)) d).use ?_;clear d;rintro _ w ⟨sp,rfl,d⟩;have pl:=XB Xm n' G;obtain ⟨ps,i,D⟩:∃ y rd,ZW Xm n' G=(y,rd):=⟨_,_,rfl⟩;rw [D] at pl d;dsimp only at pl d;have B:Zsi o=({ ZC k p f c m t with sc:=sc,lab:=lab,rows:=rows,grps:=j,parts:=ps },i):=by
  rw [l];simp only [M,N,e3,O,U,V,W,Y,S,D,qo]
 clear l;rw [L] at B;have u:Z5 bs=if Xw i=true/\Z9 { ZC k p f c m t with sc:=sc,lab:=lab,rows:=rows,grps:=j,parts:=ps } then ({ ZC k p f c m t with sc:=sc,lab:=lab,rows:=rows,grps:=j,parts:=ps },0) else (ZhO,6):=by unfold Z5;rw [B]
 obtain ⟨C,H⟩:=xx ({ ZC k p f c m t with sc:=sc,lab:=lab,rows:=rows,grps:=j,parts:=ps }:Cm);refine ⟨sp,rfl,(d.arr (Hs':=Xl r i::brC b4 r::Own sp 35 (GM ps)::Own sg 3 (Zd j)::cmC b { ZC k p f c m t with sc:=sc,lab:=lab,rows:=rows,grps:=j } sg Ze::Z2 b2::Hs))|>Zdr,Zb.mk rfl ?_⟩;refine sRu d λ w d=>?_;have d:=d.re (cmC b { ZC k p f c m t with sc:=sc,lab:=lab,rows:=rows,grps:=j,parts:=ps } sg sp);rw [<-H] at u d;have eg:C.grps=j:=by rw [H]
 have ep:C.parts=ps:=by rw [H]
 rw [<-eg] at d gl;rw [<-ep] at d pl;clear H B eg ep M N e3 O U V W Y S D b0 b1 b2' b3 b4' b5 b6 b7 b8' b9 l0 l1 l2 l3 l4 l5 l6;have d:=d.m3.m3;refine ⟨some ⟨r,0,none⟩,oA d,?_⟩;refine (ZdC d).use ?_;clear d;rintro _ w ⟨rfl,d⟩;refine ⟨_,rfl,?_⟩;have no:Z5 bs=(ZhO,6)->∀ {w},Sat R (Z2 b2::Hs) w->∃ sg sp:Sl,Value.tuple #[.agg (cmV ZhO Ze Ze).toArray,nI 6]=.tuple #[.agg (cmV (Z5 bs).1 sg sp).toArray,nI (Z5 bs).2]/\Sat R (Own sg 3 (Zd (Z5 bs).1.grps)::Own sp 35 (GM (Z5 bs).1.parts)::Hs) w:=λ e {w} d=>by
  rw [e];exact ⟨Ze,Ze,rfl,Own.nil (Own.nil d.drop)⟩
 refine Br.nb (λ h=>?_) (λ h=>?_)
 ·have d:Sat R (Z2 b2::Hs) w:=d.drop.drop.drop.drop.drop
  refine sRu d λ w d=>?_;have d:=d.re (Z2 b2);refine ⟨_,_,_,_,_,_,_,_,_,Ze,Ze,oA d,no ?_ d⟩;rw [u,qc (by rintro ⟨K,_⟩;rw [K] at h;cases h)]
 refine Zb.mk rfl ⟨C.kind,C.pnr,C.flt,C.cls,C.many,C.time,C.sc,C.lab,C.rows,sg,sp,oA d,?_⟩;have d:=d.m4;have sl:=Own.len (d.arr (Hs':=Own sp 35 (GM C.parts)::Own sg 3 (Zd C.grps)::Xl r i::brC b4 r::cmC b C sg sp::Z2 b2::Hs));obtain ⟨R',X,_,d,back⟩:=Own.lendI d (by omega);refine (GR X (by omega) (by simpa using sl) d).use ?_;clear d;rintro _ w ⟨rfl,d⟩;have d:=back d;refine ⟨_,rfl,Br.nb (λ J=>?_) (λ J=>?_)⟩
 ·have d:Sat R (Z2 b2::Hs) w:=d.drop.drop.drop.drop.drop
  refine sRu d λ w d=>?_;have d:=d.re (Z2 b2);refine ⟨_,_,_,_,_,_,_,_,_,Ze,Ze,oA d,no ?_ d⟩;rw [u,qc (by rintro ⟨_,K⟩;rw [qE K] at J;cases J)]
 refine Zb.mk rfl ⟨C.kind,C.pnr,C.flt,C.cls,C.many,C.time,C.sc,C.lab,C.rows,sg,sp,oA d,?_⟩;have d:=d.m5;refine sRu d λ w d=>?_;have d:=d.re (cmC b2 C sg sp);refine ⟨C.kind,C.pnr,C.flt,C.cls,C.many,C.time,C.sc,C.lab,C.rows,sg,sp,oA d,?_⟩;rw [u,qf ⟨h,qF J⟩];exact ⟨sg,sp,rfl,d.drop.cons λ _ h=>(h.arr (Hs':=Own sp 35 (GM C.parts)::Xl r i::brC b4 r::cmC b C sg sp::Hs)).cons λ _ h=>h.drop.drop.drop⟩
end
section
open Go Go.VC Tryz
open Classical
variable {R:Cx} {Hs Rest:List HP} {w:World}
abbrev ZuP (k:Int) (p:ByteArray) (s f c m t:Int):Rp:=⟨k,p,s,f,c,m,t,[],[]⟩
abbrev ZK (b:Nat):HP:=rpC b (ZuP 0 (ByteArray.mk #[]) 0 0 0 0 0) Ze Ze
section
variable (S:xE) (J:xA->xE) (b4 b:Nat) (r:xA)
end
section
variable {J:xA->xE} {b4 b r:Nat} {rd:Rd} {k s f c m t:Int} {p:ByteArray}
end
end
end Go.Proofs.YtlplemdmegpoeaaGreatDoor

namespace Go.Proofs.YtlplemdmegpoeaaGreatDoor
section
open Go Go.VC Tryz
open Classical
variable {R:Cx} {Hs Rest:List HP} {w:World}
def Ub {c:Cm} {sg sp:Sl} (q:RoI R sg c.grps) (x:c.grps.length<=100000) (G:sp.len=c.parts.length) (o:Sat R Hs w):
  Zg prog 46 #[.agg #[nI c.kind,xZ c.pnr,nI c.flt,nI c.cls,nI c.many,nI c.time,xF c.sc,xZ c.lab,nI c.rows,.slice sg.a sg.len sg.cap,.slice sp.a sp.len sp.cap]] w λ v w'=>v=.bool (decide (Z9 c))/\Sat R Hs w':=by
 have r:=q.len;apply Zv0;refine Za o λ b w o=>?_;have o:Sat R (cmC b c sg sp::Hs) w:=o;refine ⟨c.flt,oA o,c.cls,oA o,c.many,oA o,c.rows,oA o,?_⟩;refine Za o λ b2 w o=>?_;have o:Sat R (Own ⟨some ⟨b2,0,none⟩,4,4⟩ 3 (Zd [c.flt,c.cls,c.many,c.rows])::cmC b c sg sp::Hs) w:=YL o;obtain ⟨L,p⟩:=xx ([c.flt,c.cls,c.many,c.rows]);have e:L.length=4:=by rw [p];rfl
 rw [<-p] at o;have no:¬ Z9 c->∀ {w},Sat R (Own ⟨some ⟨b2,0,none⟩,4,4⟩ 3 (Zd L)::cmC b c sg sp::Hs) w->(Value.bool false=.bool (decide (Z9 c))/\Sat R Hs w):=λ h w o=>⟨by rw [qz h],o.drop.drop⟩;have bad:∀ n∈L,¬ Vq n->¬ Z9 c:=λ n u h z=>h ((Wa.1 z).1 n (qt.2 (.inl (by rw [<-p];exact u))));refine ⟨λ i w=>∃ k:Nat,i=k/\k<=4/\(∀ n∈L.take k,Vq n)/\Sat R (Own ⟨some ⟨b2,0,none⟩,4,4⟩ 3 (Zd L)::cmC b c sg sp::Hs) w,λ i _=>4 - i.toNat,⟨0,rfl,by omega,by simp,o⟩,?_⟩;clear o;rintro _ _ w ⟨k,rfl,hk,j,o⟩;refine Br.d (λ h=>?_) (λ h=>?_)
 ·have y:k<L.length:=by omega
  refine Own.ix (s:=⟨some ⟨b2,0,none⟩,4,4⟩) o (eqS o) k rfl y ?_;refine Br.d (λ l=>no (bad _ (qh y) (by unfold Vq;omega)) o) (λ l=>?_);refine Own.ix (s:=⟨some ⟨b2,0,none⟩,4,4⟩) o (eqS o) k rfl y ?_;refine Br.d (λ m=>no (bad _ (qh y) (by unfold Vq;omega)) o) (λ m=>?_);rw [Zc];refine ⟨⟨k + 1,by omega,by omega,λ n u=>?_,o⟩,by dsimp only;omega⟩;rw [qp,List.getElem?_eq_getElem y] at u;rcases qt.1 u with u|u
  ·exact j n u
  ·rw [show n=L[k] by simpa using u]
   unfold Vq;omega
 rw [qg (by omega)] at j;refine ⟨λ w=>((1<=c.kind/\c.kind<=9/\0<=c.time/\c.time<=1099511627776)/\(c.pnr.size<=16/\c.lab.size<=16)/\(c.grps.length<=16/\c.parts.length<=16))/\Sat R (Own ⟨some ⟨b2,0,none⟩,4,4⟩ 3 (Zd L)::cmC b c sg sp::Hs) w,?_,?_⟩
 ·refine ⟨c.kind,oA o,Br.d (λ t=>no (λ z=>by have:=z.kind;omega) o) (λ t=>?_)⟩
  refine ⟨c.kind,oA o,Br.d (λ l=>no (λ z=>by have:=z.kind;omega) o) (λ l=>?_)⟩;refine ⟨c.time,oA o,Br.d (λ m=>no (λ z=>by have:=z.time;omega) o) (λ m=>?_)⟩;refine ⟨c.time,oA o,Br.d (λ f=>no (λ z=>by have:=z.time;omega) o) (λ f=>?_)⟩;refine ⟨c.pnr,oA o,Br.d (λ A=>no (λ z=>by have:=z.pnr;omega) o) (λ A=>?_)⟩;refine ⟨c.lab,oA o,Br.d (λ D=>no (λ z=>by have:=z.lab;omega) o) (λ D=>?_)⟩;refine ⟨sg,oA o,Br.d (λ E=>no (λ z=>by have:=z.gl;omega) o) (λ E=>?_)⟩;refine ⟨sp,oA o,Br.d (λ F=>no (λ z=>by have:=z.pl;omega) o) (λ F=>?_)⟩;exact ⟨⟨⟨by omega,by omega,by omega,by omega⟩,⟨by omega,by omega⟩,by omega,by omega⟩,o⟩
 clear o h hk;rintro _ w ⟨⟨t,l,m⟩,o⟩;refine ⟨λ i w=>∃ k:Nat,i=k/\k<=c.grps.length/\(∀ n∈c.grps.take k,Vq n)/\Sat R (Own ⟨some ⟨b2,0,none⟩,4,4⟩ 3 (Zd L)::cmC b c sg sp::Hs) w,λ i _=>c.grps.length - i.toNat,⟨0,rfl,by omega,by simp,o⟩,?_⟩;clear o;rintro _ _ w ⟨k,rfl,hk,g,o⟩;have badg:∀ n∈c.grps,¬ Vq n->¬ Z9 c:=λ n u h z=>h (z.grps n u);refine ⟨sg,oA o,Br.d (λ h=>?_) (λ h=>?_)⟩
 ·have y:k<c.grps.length:=by omega
  refine ⟨sg,oA o,Ro.ix q (eqS o) k rfl y ?_⟩;refine Br.d (λ l=>no (badg _ (qh y) (by unfold Vq;omega)) o) (λ l=>?_);refine ⟨sg,oA o,Ro.ix q (eqS o) k rfl y ?_⟩;refine Br.d (λ m=>no (badg _ (qh y) (by unfold Vq;omega)) o) (λ m=>?_);rw [Zc];refine ⟨⟨k + 1,by omega,by omega,λ n u=>?_,o⟩,by dsimp only;omega⟩;rw [qp,List.getElem?_eq_getElem y] at u;rcases qt.1 u with u|u
  ·exact g n u
  ·rw [show n=c.grps[k] by simpa using u]
   unfold Vq;omega
 ·rw [qg (by omega)] at g
  refine ⟨?_,o.drop.drop⟩;rw [qE];refine Wa.2 ⟨λ n u=>?_,l,m,t⟩;rcases qt.1 u with u|u
  ·exact j n (by rw [p];exact u)
  ·exact g n u
def ZfX {s t:Sl} {a b:List Int} {K:Sl->xE} (hl:a.length + b.length<=1099511627776) (o:Sat R (Own t 5 (b8 b)::Own s 5 (b8 a)::Hs) w)
  (k:∀ d w',Sat R (Own d 5 (b8 (a++b))::Hs) w'->K d w'):
  ∃ h:World,∃ t2:Sl,((Builtin.append_ #[ 47,47 ] 47 #[.slice s.a s.len s.cap,.slice t.a t.len t.cap]).run prog w=.ok (.slice t2.a t2.len t2.cap) h)/\K t2 h:=
 YI ZbX (s:=s) (n:=1099511627776) underlying47 o.swap (by omega) (by omega) (by omega) λ d w o=>k d w (o.swap.drop)
def VR {b n:Nat} {xs:List Int} (i:n=xs.length) (o:∀ x∈xs,x<9223372036854775808) (hl:9 * xs.length<=1099511627776) (d:Sat R (pts b (.cells (Zd xs).toArray 3 (0,0))::Hs) w):
  Zg prog 67 #[.slice (some ⟨b,0,none⟩) n n] w λ v w'=>∃ t:Sl,v=.slice t.a t.len t.cap/\Sat R (Own t 5 (b8 (Zf (xs.map nn)))::Hs) w':=by
 have d:Sat R (Own ⟨some ⟨b,0,none⟩,n,n⟩ 3 (Zd xs)::Hs) w:=YL d (by rw [qa];exact i);obtain ⟨R',u,_,d,back⟩:=Own.lendI d (by omega);refine (Zbs o hl u d).u1 λ t w d=>?_;exact ⟨_,rfl,t,rfl,(back d).swap.cons λ _ h=>h.drop⟩
def Zgt {s:ByteArray} {K:Sl->xE} (hl:s.size<=1099511627776) (d:Sat R Hs w) (k:∀ t w',Sat R (Own t 5 (b8 (ZhZ s))::Hs) w'->K t w'):
  ∃ o:World,∃ t:Sl,((convert 9 47 (xZ s)).run prog w=.ok (.slice t.a t.len t.cap) o)/\
   nC 68 #[.slice t.a t.len t.cap] o λ e i=>∃ t2:Sl,(e=xR (.slice t2.a t2.len t2.cap))/\K t2 i:=by
 refine Zeu underlying9 underlying47 underlying5 d λ t w d=>?_;have u:=Yf s;obtain ⟨R',v,_,d,back⟩:=Own.lend d (by rw [qa];omega);refine (Gz v (by omega) d).u1 λ t2 w d=>?_;exact ⟨t2,rfl,k _ _ ((back d).swap.cons λ _ h=>h.drop)⟩
def nn6 {a b c d e f:Int} (h:0<=f):Zf ([a,b,c,d,e,f].map nn)=Zf [nn a]++(Zf [nn b]++(Zf [nn c]++(Zf [nn d]++(Zf [nn e]++Zf [f])))):=by
 show Zf [nn a,nn b,nn c,nn d,nn e,nn f]=_;rw [Ve h,YR (nn a),YR (nn b),YR (nn c),YR (nn d),YR (nn e)]
def Gk {r:Rp} {sl sb:Sl} (hi:RpW r) (f:RoI R sl r.left) (c:SlR R.m sb (r.labs.map Value.string)) (o:Sat R Hs w):
  Zg prog 89 #[.agg #[nI r.code,xZ r.pnr,nI r.state,nI r.flt,nI r.cls,nI r.many,nI r.time,.slice sl.a sl.len sl.cap,.slice sb.a sb.len sb.cap]] w λ v w'=>
   ∃ t:Sl,v=.slice t.a t.len t.cap/\Sat R (Own t 5 (b8 (rpB r))::Hs) w':=by
 have g:sb.len=r.labs.length:=by have:=c.len;simpa using this
 have j:=f.len;have i1:=hi.ints;have i2:=hi.pnr;have i3:=hi.ll;have i4:=hi.bl;have q:∀ x∈[r.code,r.state,r.flt,r.cls,r.many,r.time]++r.left,0<=nn x/\nn x<18446744073709551616:=λ x u=>by have:=ZcF (i1 x u);omega
 have l1:=Zl (q r.code (by simp));have l2:=GZ (s:=r.pnr) i2;have l3:=Zl (q r.state (by simp));have l4:=Zl (q r.flt (by simp));have l5:=Zl (q r.cls (by simp));have l6:=Zl (q r.many (by simp));have l7:=Zl (q r.time (by simp));have l10:=Zl (x:=(r.left.length:Int)) (by omega);have l11:=Zx (l:=r.left.map nn) λ y n=>by obtain ⟨x,u,rfl⟩:=qm.1 n;exact q x (by simp [u])
 rw [qa] at l11;have l12:=Zl (x:=(r.labs.length:Int)) (by omega);apply Zvp;refine Za o λ b w o=>?_;have o:Sat R (rpC b r sl sb::Hs) w:=o;refine ⟨r.code,oA o,?_⟩;refine Za o λ A w o=>?_;refine (VR (xs:=[r.code]) rfl (λ x u=>i1 x (by rw [qK.1 u];simp)) (by simp) o).u1 λ t1 w o=>?_;refine ⟨t1,rfl,?_⟩;rw [show [r.code].map nn=[nn r.code] from rfl] at o
 refine ⟨r.pnr,oA o,?_⟩;refine Zgt (by omega) o λ t2 w o=>?_;refine ZfX (by omega) o λ t1 w o=>?_;refine ⟨r.state,oA o,r.flt,oA o,r.cls,oA o,r.many,oA o,r.time,oA o,sl,oA o,?_⟩;refine Za o λ D w o=>?_;refine (VR (xs:=[r.state,r.flt,r.cls,r.many,r.time,(sl.len:Int)]) rfl (λ x u=>by
  simp only [qk,qO,jP] at u;rcases u with h|h|h|h|h|h
  ·exact i1 x (by simp [h])
  ·exact i1 x (by simp [h])
  ·exact i1 x (by simp [h])
  ·exact i1 x (by simp [h])
  ·exact i1 x (by simp [h])
  ·omega) (by simp) o).u1 λ t2 w o=>?_
 refine ⟨t2,rfl,?_⟩;rw [nn6 (by omega),show ((sl.len:Nat):Int)=(r.left.length:Int) by omega] at o;refine ZfX (by simp only [qb];omega) o λ t1 w o=>?_;refine ⟨sl,oA o,?_⟩;refine (Zbs (xs:=r.left) (λ y n=>i1 y (by simp [n])) (by omega) f o).u1 λ t2 w o=>?_;refine ⟨t2,rfl,?_⟩;refine ZfX (by simp only [qb];omega) o λ t1 w o=>?_;refine ⟨sb,oA o,?_⟩;refine Za o λ E w o=>?_;refine (VR (xs:=[(sb.len:Int)]) rfl (by simp;omega) (by simp) o).u1 λ t2 w o=>?_;refine ⟨t2,rfl,?_⟩;rw [nn1 (by omega),show ((sb.len:Nat):Int)=(r.labs.length:Int) by omega] at o;refine ZfX (by simp only [qb];omega) o λ t1 w o=>?_;obtain ⟨B,F,G,o⟩:∃ B:List Int,B.length<=2000000/\B++(r.labs.map ZhZ).flatten=rpB r/\Sat R (Own t1 5 (b8 B)::rpC b r sl sb::Hs) w:=
  ⟨_,by simp only [qb];omega,by unfold rpB;simp only [qn],o⟩
 refine ⟨λ out i w=>∃ k:Nat,i=k/\k<=r.labs.length/\Sat R (Own out 5 (b8 (B++((r.labs.take k).map ZhZ).flatten))::rpC b r sl sb::Hs) w,λ _ i _=>r.labs.length - i.toNat,⟨0,rfl,by omega,by simpa using o⟩,?_⟩;clear o;rintro _ out _ w ⟨k,rfl,hk,o⟩;refine ⟨sb,oA o,?_⟩;refine Br.d (λ h=>?_) (λ h=>?_)
 ·have z:k<r.labs.length:=by omega
  have p:=YT (l:=r.labs.take k) (code:=ZhZ) (m:=100009) λ x u=>by have:=hi.labs x (qw u);have:=GZ this;omega
  rw [qd] at p;have e:=hi.labs _ (qh z);have H:=GZ e;refine ⟨sb,oA o,?_⟩;refine Ro.ixStr (c.ro) (eqS o) k rfl z ?_;refine Zgt (by omega) o λ t2 w o=>?_;refine ZfX (by rw [qb];omega) o λ t1 w o=>?_;rw [Zc];refine ⟨⟨k + 1,by omega,by omega,?_⟩,by dsimp only;omega⟩;rw [qp,List.getElem?_eq_getElem z,qe,ja,<-qn];simpa using o
 ·rw [qg (l:=r.labs) (by omega),G] at o
  exact ⟨out,rfl,o.cons λ _ h=>h.drop⟩
def Zd2 {P:Program} {t1 t2 ty T u:TypeId} {bytes:Nat} (E:El P t1 t2 T bytes) {R:Cx} {Hs:List HP} {w:World} {s:Sl} {xs:List Value} {x:Value} {K:Sl->xE} {S:xE}
  (d:Sat R (Own s T xs::Hs) w) (v:ZN xs=true) (y:x.oneCell'=true) (z:2 * (xs.length + 1) * bytes<=281474976710656) (i:xs.length + 1<=9223372036854775807)
  (hS:∀ A w,Sat R (A::Own s T xs::Hs) w->S w)
  (k:∀ o w',Sat R (Own o T (xs++[x])::Hs) w'->K o w'):
  New (.cells #[x] u (0,0)) (λ b w=>S w/\∃ w',∃ t:Sl,(Builtin.append_ #[t1,t2] ty #[.slice s.a s.len s.cap,.slice (some ⟨b,0,none⟩) 1 1]).run P w=.ok (.slice t.a t.len t.cap) w'/\K t w') w:=by
 refine Za d λ b w d=>⟨hS _ _ d,?_⟩;have d:Sat R (pts b (.cells [x].toArray u (0,0))::Own s T xs::Hs) w:=d;exact XV E d.swap (Zi8 E.hk 1 d y) v z i λ o w' h=>k o w' h.swap.drop
def ZdQ {q:Nat} {s:Sl} {bs:List Int} {rd:Rd} {most:Int} {K:ByteArray->xE} (hm:most<9223372036854775808) (hl:bs.length<=1099511627776) (u:ZV bs) (hs:SlR R.m s (b8 bs)) (h:Sat R (Xn q s bs rd::Hs) w)
  (k:∀ w',Sat R (Xn q s bs (Xq most rd).2::Hs) w'->K (Xq most rd).1 w'):
  nC 78 #[nP q,nI most] w λ e w'=>∃ t:Sl,(e=xR (.slice t.a t.len t.cap))/\
   ∃ x:ByteArray,(∀ d,(λ o=>o=w') d->((convert 47 9 (.slice t.a t.len t.cap))).run prog d=.ok (xZ x) d)/\K x w':=by
 obtain ⟨n,⟨g,hd⟩,_⟩:=Sat.rrd.1 h;have v:rd.bs.length<=bs.length:=by rw [<-hd,qx];omega
 have y:=UW (most:=most) (rd:=rd);refine (Zcn hm hl u hs h).u1 λ t w h=>?_;refine ⟨t,rfl,VC.strOf (Yn most rd).1,λ w' e=>?_,k _ h.drop⟩;rw [show w'=w from e]
 obtain ⟨R',z,_,i,back⟩:=Own.lend h (by rw [qa];omega);exact Uk underlying47 underlying5 underlying9 i z
def Zb2 {x:Int} (h:0<=x) (a:x<9223372036854775808):wI x=x:=Zc (by omega) a
def Zsh (r:Rd):Zsi r=
 let k:=Zh 9 r
 let p:=Xq 16 k.2
 let f:=Zh 9999 p.2
 let c:=Zh 9999 f.2
 let m:=Zh 9999 c.2
 let t:=Zh 1099511627776 m.2
 let s:=Xm t.2
 let l:=Xq 16 s.2
 let w:=Zh 9999 l.2
 let n:=Zh 16 w.2
 let g:=ZW (Zh 9999) n.1.toNat n.2
 let q:=Zh 16 g.2
 let x:=ZW Xm q.1.toNat q.2
 (⟨k.1,p.1,f.1,c.1,m.1,t.1,s.1,l.1,w.1,g.1,x.1⟩,x.2):=rfl
def Zcx {s:Sl} {bs:List Int} (l:ZV bs) (hl:bs.length<=1099511627776) (hs:SlR R.m s (b8 bs)) (o:Sat R Hs w):
  Zg prog 88 #[.slice s.a s.len s.cap] w λ v w'=>∃ sg sp:Sl,v=.tuple #[.agg (cmV (Z5 bs).1 sg sp).toArray,nI (Z5 bs).2]/\Sat R (Own sg 3 (Zd (Z5 bs).1.grps)::Own sp 35 (GM (Z5 bs).1.parts)::Hs) w':=by
 apply Zvq;have bb0:ZV (⟨bs,false⟩:Rd).bs:=l;have F:=Zsh ⟨bs,false⟩;obtain ⟨U,e0⟩:=xx (⟨bs,false⟩:Rd);rw [<-e0] at bb0 F;refine Za o λ b2 w o=>?_;have o:Sat R (Z2 b2::Hs) w:=o;refine Za o λ q w o=>?_;have o:Sat R (pts q (Yk s 0 false)::Z2 b2::Hs) w:=o;have o:Sat R (Xn q s bs ⟨bs,false⟩::Z2 b2::Hs) w:=Sat.rrd.2 ⟨0,⟨by omega,rfl⟩,o⟩;rw [<-e0] at o;have bb1:=Zo (most:=9) bb0;have v1:=ZG (most:=9) bb0 (by omega);obtain ⟨k,h5,e1⟩:∃ y rd,Zh 9 U=(y,rd):=⟨_,_,rfl⟩;refine (Ye (most:=9) hl l hs o).use ?_;clear o;rintro _ w ⟨rfl,o⟩;rw [e1] at bb1 v1 o ⊢;dsimp only at bb1 v1 o ⊢;refine ⟨_,rfl,?_⟩;rw [Zb2 (x:=k) v1.1 (by omega)];have bb2:=Vu (most:=16) bb1;obtain ⟨p,G,e2⟩:∃ y rd,Xq 16 h5=(y,rd):=⟨_,_,rfl⟩;refine ZdQ (most:=16) (by omega) hl l hs o λ w o=>?_;rw [e2] at bb2 o ⊢;dsimp only at bb2 o ⊢;refine Za o λ b w o=>?_;have o:Sat R (Z2 b::Xn q s bs G::Z2 b2::Hs) w:=o;refine sRu o λ w o=>?_;have o:Sat R (Xn q s bs G::cmC b (ZC k p 0 0 0 0) Ze Ze::Z2 b2::Hs) w:=(o.re (cmC b (ZC k p 0 0 0 0) Ze Ze)).arr;have bb3:=Zo (most:=9999) bb2;have v3:=ZG (most:=9999) bb2 (by omega);obtain ⟨f,V,e3⟩:∃ y rd,Zh 9999 G=(y,rd):=⟨_,_,rfl⟩;refine (Ye (most:=9999) hl l hs o).use ?_;clear o;rintro _ w ⟨rfl,o⟩;rw [e3] at bb3 v3 o ⊢;dsimp only at bb3 v3 o ⊢;refine ⟨_,rfl,?_⟩;rw [Zb2 (x:=f) v3.1 (by omega)];refine sRu o λ w o=>?_;have o:Sat R (Xn q s bs V::cmC b ({ ZC k p 0 0 0 0 with flt:=f }) Ze Ze::Z2 b2::Hs) w:=(o.re (cmC b ({ ZC k p 0 0 0 0 with flt:=f }) Ze Ze)).arr;have bb4:=Zo (most:=9999) bb3;have v4:=ZG (most:=9999) bb3 (by omega);obtain ⟨c,W,e4⟩:∃ y rd,Zh 9999 V=(y,rd):=⟨_,_,rfl⟩;refine (Ye (most:=9999) hl l hs o).use ?_;clear o;rintro _ w ⟨rfl,o⟩;rw [e4] at bb4 v4 o ⊢;dsimp only at bb4 v4 o ⊢;refine ⟨_,rfl,?_⟩;rw [Zb2 (x:=c) v4.1 (by omega)];refine sRu o λ w o=>?_;have o:Sat R (Xn q s bs W::cmC b ({ ZC k p 0 0 0 0 with flt:=f,cls:=c }) Ze Ze::Z2 b2::Hs) w:=(o.re (cmC b ({ ZC k p 0 0 0 0 with flt:=f,cls:=c }) Ze Ze)).arr;have bb5:=Zo (most:=9999) bb4;have v5:=ZG (most:=9999) bb4 (by omega);obtain ⟨m,X,e5⟩:∃ y rd,Zh 9999 W=(y,rd):=⟨_,_,rfl⟩;refine (Ye (most:=9999) hl l hs o).use ?_;clear o;rintro _ w ⟨rfl,o⟩;rw [e5] at bb5 v5 o ⊢;dsimp only at bb5 v5 o ⊢;refine ⟨_,rfl,?_⟩;rw [Zb2 (x:=m) v5.1 (by omega)];refine sRu o λ w o=>?_;have o:Sat R (Xn q s bs X::cmC b ({ ZC k p 0 0 0 0 with flt:=f,cls:=c,many:=m }) Ze Ze::Z2 b2::Hs) w:=(o.re (cmC b ({ ZC k p 0 0 0 0 with flt:=f,cls:=c,many:=m }) Ze Ze)).arr;have bb6:=Zo (most:=1099511627776) bb5;have v6:=ZG (most:=1099511627776) bb5 (by omega);obtain ⟨t,H,e6⟩:∃ y rd,Zh 1099511627776 X=(y,rd):=⟨_,_,rfl⟩;refine (Ye (most:=1099511627776) hl l hs o).use ?_;clear o;rintro _ w ⟨rfl,o⟩;rw [e6] at bb6 v6 o ⊢;dsimp only at bb6 v6 o ⊢;refine ⟨_,rfl,?_⟩;rw [Zb2 (x:=t) v6.1 (by omega)];refine sRu o λ w o=>?_;have o:Sat R (Xn q s bs H::cmC b ({ ZC k p 0 0 0 0 with flt:=f,cls:=c,many:=m,time:=t }) Ze Ze::Z2 b2::Hs) w:=(o.re (cmC b ({ ZC k p 0 0 0 0 with flt:=f,cls:=c,many:=m,time:=t }) Ze Ze)).arr;have bb7:=U7 bb6;obtain ⟨sc,I,Y⟩:∃ y rd,Xm H=(y,rd):=⟨_,_,rfl⟩;have v7:=ZG (most:=18446744073709551615) bb6 (by omega);refine (Ye (most:=18446744073709551615) hl l hs o).use ?_;clear o;rintro _ w ⟨rfl,o⟩;refine ⟨_,rfl,?_⟩;obtain ⟨y7,S⟩:=qs v7.1;rw [S];refine (Zjr (k:=y7) (by omega) o).use ?_;clear o;rintro _ w ⟨rfl,o⟩;have e7a:ofF y7=sc:=by have:=qH Prod.fst Y;dsimp only [Xm] at this;rw [S,qo] at this;exact this
 have e7b:(Zh 18446744073709551615 H).2=I:=qH Prod.snd Y;rw [e7b] at o;rw [Y] at bb7;dsimp only at bb7;refine ⟨_,rfl,?_⟩;rw [e7a];refine sRu o λ w o=>?_;have o:Sat R (Xn q s bs I::cmC b ({ ZC k p 0 0 0 0 with flt:=f,cls:=c,many:=m,time:=t,sc:=sc }) Ze Ze::Z2 b2::Hs) w:=(o.re (cmC b ({ ZC k p 0 0 0 0 with flt:=f,cls:=c,many:=m,time:=t,sc:=sc }) Ze Ze)).arr;have bb8:=Vu (most:=16) bb7;obtain ⟨lab,B,e8⟩:∃ y rd,Xq 16 I=(y,rd):=⟨_,_,rfl⟩;refine ZdQ (most:=16) (by omega) hl l hs o λ w o=>?_;rw [e8] at bb8 o ⊢;dsimp only at bb8 o ⊢;refine sRu o λ w o=>?_;have o:Sat R (Xn q s bs B::cmC b ({ ZC k p 0 0 0 0 with flt:=f,cls:=c,many:=m,time:=t,sc:=sc,lab:=lab }) Ze Ze::Z2 b2::Hs) w:=(o.re (cmC b ({ ZC k p 0 0 0 0 with flt:=f,cls:=c,many:=m,time:=t,sc:=sc,lab:=lab }) Ze Ze)).arr;have bb9:=Zo (most:=9999) bb8;have v9:=ZG (most:=9999) bb8 (by omega);obtain ⟨rows,T,e9⟩:∃ y rd,Zh 9999 B=(y,rd):=⟨_,_,rfl⟩;refine (Ye (most:=9999) hl l hs o).use ?_;clear o;rintro _ w ⟨rfl,o⟩;rw [e9] at bb9 v9 o ⊢;dsimp only at bb9 v9 o ⊢;refine ⟨_,rfl,?_⟩;rw [Zb2 (x:=rows) v9.1 (by omega)];refine sRu o λ w o=>?_;have o:Sat R (Xn q s bs T::cmC b ({ ZC k p 0 0 0 0 with flt:=f,cls:=c,many:=m,time:=t,sc:=sc,lab:=lab,rows:=rows }) Ze Ze::Z2 b2::Hs) w:=(o.re (cmC b ({ ZC k p 0 0 0 0 with flt:=f,cls:=c,many:=m,time:=t,sc:=sc,lab:=lab,rows:=rows }) Ze Ze)).arr;have bb10:=Zo (most:=16) bb9;have v10:=ZG (most:=16) bb9 (by omega);obtain ⟨h8,u,J⟩:∃ y rd,Zh 16 T=(y,rd):=⟨_,_,rfl⟩;refine (Ye (most:=16) hl l hs o).use ?_;clear o;rintro _ w ⟨rfl,o⟩;rw [J] at bb10 v10 o ⊢;dsimp only at bb10 v10 o ⊢;refine ⟨_,rfl,?_⟩;obtain ⟨n,rfl⟩:=qs v10.1;have inv:∀ k,ZV (ZW (Zh 9999) k u).2.bs:=λ k=>(XZ (one:=Zh 9999) (P:=λ r=>ZV r.bs) (Q:=λ _=>True) (λ r K=>⟨trivial,Zo K⟩) k bb10).2;refine ⟨λ i w=>∃ (j:Nat) (sg:Sl),i=j/\j<=n/\Sat R (Xn q s bs (ZW (Zh 9999) j u).2::cmC b ({ ZC k p 0 0 0 0 with flt:=f,cls:=c,many:=m,time:=t,sc:=sc,lab:=lab,rows:=rows,grps:=(ZW (Zh 9999) j u).1 }) sg Ze::Own sg 3 (Zd (ZW (Zh 9999) j u).1)::Z2 b2::Hs) w,λ i _=>n - i.toNat,⟨0,Ze,rfl,by omega,show Sat R (Xn q s bs u::cmC b ({ ZC k p 0 0 0 0 with flt:=f,cls:=c,many:=m,time:=t,sc:=sc,lab:=lab,rows:=rows,grps:=[] }) Ze Ze::Own Ze 3 (Zd [])::Z2 b2::Hs) w from (show Sat R (Own Ze 3 (Zd [])::Xn q s bs u::cmC b ({ ZC k p 0 0 0 0 with flt:=f,cls:=c,many:=m,time:=t,sc:=sc,lab:=lab,rows:=rows,grps:=[] }) Ze Ze::Z2 b2::Hs) w from Own.nil o).arr⟩,?_⟩
 clear o;rintro _ _ w ⟨j,sg,rfl,hj,o⟩;refine Br.d (λ h=>?_) (λ h=>?_)
 ·have gl:=XB (Zh 9999) j u
  have bj:=inv j;have L:=W8 (Zh 9999) j u;have vj:=ZG (most:=9999) bj (by omega);rw [ZM (x:=(j:Int) + 1)];generalize (ZW (Zh 9999) j u).1=g at *;generalize (ZW (Zh 9999) j u).2=rdj at *;refine Zj (Sat R [cmC b ({ ZC k p 0 0 0 0 with flt:=f,cls:=c,many:=m,time:=t,sc:=sc,lab:=lab,rows:=rows,grps:=g }) sg Ze,VC.tru]) o (λ w o=>Zdr o) λ w o=>?_;refine ⟨sg,oS,?_⟩;refine (Ye (most:=9999) hl l hs o).use ?_;clear o;rintro _ w ⟨rfl,o⟩;refine ⟨_,rfl,Zdr o,?_⟩;rw [Zb2 vj.1 (by omega)];have o:=o.m1.m2;refine Zd2 Zdn o (by unfold ZN;simp [Value.oneCell']) rfl (by rw [qa];omega) (by rw [qa];omega) (λ A w o=>(o.arr (Hs':=cmC b ({ ZC k p 0 0 0 0 with flt:=f,cls:=c,many:=m,time:=t,sc:=sc,lab:=lab,rows:=rows,grps:=g }) sg Ze::A::Own sg 3 (Zd g)::Xn q s bs (Zh 9999 rdj).2::Z2 b2::Hs)).restTru2) λ h0 w o=>?_;refine sRu o λ w o=>?_;have o:=o.re (cmC b ({ ZC k p 0 0 0 0 with flt:=f,cls:=c,many:=m,time:=t,sc:=sc,lab:=lab,rows:=rows,grps:=g++[(Zh 9999 rdj).1] }) h0 Ze);refine ⟨⟨j + 1,h0,by omega,by omega,?_⟩,by dsimp only;omega⟩;rw [L];simp only [qe,qi,jR] at o ⊢;exact o.arr
 have h6:j=n:=by omega
 subst h6;have gl:=XB (Zh 9999) j u;have bb11:=inv j;clear inv;obtain ⟨g,h3,M⟩:∃ y rd,ZW (Zh 9999) j u=(y,rd):=⟨_,_,rfl⟩;rw [M] at gl bb11 o;dsimp only at gl bb11 o;have bb12:=Zo (most:=16) bb11;have v12:=ZG (most:=16) bb11 (by omega);obtain ⟨h9,z,N⟩:∃ y rd,Zh 16 h3=(y,rd):=⟨_,_,rfl⟩;refine (Ye (most:=16) hl l hs o).use ?_;clear o;rintro _ w ⟨rfl,o⟩;rw [N] at bb12 v12 o ⊢;dsimp only at bb12 v12 o ⊢;refine ⟨_,rfl,?_⟩;obtain ⟨n,rfl⟩:=qs v12.1;have inv:∀ k,ZV (ZW Xm k z).2.bs:=λ k=>(XZ (one:=Xm) (P:=λ r=>ZV r.bs) (Q:=λ _=>True) (λ r K=>⟨trivial,U7 K⟩) k bb12).2;refine ⟨λ i w=>∃ (j:Nat) (sp:Sl),i=j/\j<=n/\Sat R (Xn q s bs (ZW Xm j z).2::cmC b ({ ZC k p 0 0 0 0 with flt:=f,cls:=c,many:=m,time:=t,sc:=sc,lab:=lab,rows:=rows,grps:=g,parts:=(ZW Xm j z).1 }) sg sp::Own sg 3 (Zd g)::Own sp 35 (GM (ZW Xm j z).1)::Z2 b2::Hs) w,λ i _=>n - i.toNat,⟨0,Ze,rfl,by omega,show Sat R (Xn q s bs z::cmC b ({ ZC k p 0 0 0 0 with flt:=f,cls:=c,many:=m,time:=t,sc:=sc,lab:=lab,rows:=rows,grps:=g,parts:=[] }) sg Ze::Own sg 3 (Zd g)::Own Ze 35 (GM [])::Z2 b2::Hs) w from (show Sat R (Own Ze 35 (GM [])::Xn q s bs z::cmC b ({ ZC k p 0 0 0 0 with flt:=f,cls:=c,many:=m,time:=t,sc:=sc,lab:=lab,rows:=rows,grps:=g,parts:=[] }) sg Ze::Own sg 3 (Zd g)::Z2 b2::Hs) w from Own.nil o).arr⟩,?_⟩
 clear o;rintro _ _ w ⟨i,sp,rfl,hi,o⟩;refine Br.d (λ h=>?_) (λ h=>?_)
 ·have pl:=XB Xm i z
  have bj:=inv i;have L:=W8 Xm i z;have vj:=ZG (most:=18446744073709551615) bj (by omega);rw [ZM (x:=(i:Int) + 1)];generalize (ZW Xm i z).1=ps at *;generalize (ZW Xm i z).2=rdj at *;refine Zj (Sat R [cmC b ({ ZC k p 0 0 0 0 with flt:=f,cls:=c,many:=m,time:=t,sc:=sc,lab:=lab,rows:=rows,grps:=g,parts:=ps }) sg sp,VC.tru]) o (λ w o=>Zdr o) λ w o=>?_;refine ⟨sp,oS,?_⟩;refine (Ye (most:=18446744073709551615) hl l hs o).use ?_;clear o;rintro _ w ⟨rfl,o⟩;refine ⟨_,rfl,Zdr o,?_⟩;obtain ⟨y,hy⟩:=qs vj.1;rw [hy];refine (Zjr (k:=y) (by omega) o).use ?_;clear o;rintro _ w ⟨rfl,o⟩;refine ⟨_,rfl,Zdr o,?_⟩;have o:Sat R (Xn q s bs (Xm rdj).2::cmC b ({ ZC k p 0 0 0 0 with flt:=f,cls:=c,many:=m,time:=t,sc:=sc,lab:=lab,rows:=rows,grps:=g,parts:=ps }) sg sp::Own sg 3 (Zd g)::Own sp 35 (GM ps)::Z2 b2::Hs) w:=o;have o:=o.m1.m3;have ey:ofF y=(Xm rdj).1:=by show _=ofF _;rw [hy,qo]
  rw [ey];refine Zd2 elFl o (ZgY _) rfl (by rw [qa];omega) (by rw [qa];omega) (λ A w o=>(o.arr (Hs':=cmC b ({ ZC k p 0 0 0 0 with flt:=f,cls:=c,many:=m,time:=t,sc:=sc,lab:=lab,rows:=rows,grps:=g,parts:=ps }) sg sp::A::Own sp 35 (GM ps)::Xn q s bs (Xm rdj).2::Own sg 3 (Zd g)::Z2 b2::Hs)).restTru2) λ h4 w o=>?_;refine sRu o λ w o=>?_;have o:=o.re (cmC b ({ ZC k p 0 0 0 0 with flt:=f,cls:=c,many:=m,time:=t,sc:=sc,lab:=lab,rows:=rows,grps:=g,parts:=ps++[(Xm rdj).1] }) sg h4);refine ⟨⟨i + 1,h4,by omega,by omega,?_⟩,by dsimp only;omega⟩;rw [L];have e:GM ps++[xF (Xm rdj).1]=GM (ps++[(Xm rdj).1]):=by simp
  rw [e] at o;exact o.arr
 have h7:i=n:=by omega
 subst h7;have pl:=XB Xm i z;clear inv;obtain ⟨ps,D,O⟩:∃ y rd,ZW Xm i z=(y,rd):=⟨_,_,rfl⟩;rw [O] at pl o;dsimp only at pl o;have hC:Zsi U=({ ZC k p 0 0 0 0 with flt:=f,cls:=c,many:=m,time:=t,sc:=sc,lab:=lab,rows:=rows,grps:=g,parts:=ps },D):=by
  rw [F];simp only [e1,e2,e3,e4,e5,e6,Y,e8,e9,J,M,N,O,qo]
 clear F;rw [e0] at hC;have E:Z5 bs=if Xw D=true/\Z9 ({ ZC k p 0 0 0 0 with flt:=f,cls:=c,many:=m,time:=t,sc:=sc,lab:=lab,rows:=rows,grps:=g,parts:=ps }) then ({ ZC k p 0 0 0 0 with flt:=f,cls:=c,many:=m,time:=t,sc:=sc,lab:=lab,rows:=rows,grps:=g,parts:=ps },0) else (ZhO,6):=by unfold Z5;rw [hC]
 obtain ⟨C,eC⟩:=xx ({ ZC k p 0 0 0 0 with flt:=f,cls:=c,many:=m,time:=t,sc:=sc,lab:=lab,rows:=rows,grps:=g,parts:=ps }:Cm);rw [<-eC] at E o;have eg:C.grps=g:=by rw [eC]
 have ep:C.parts=ps:=by rw [eC]
 rw [<-eg] at o gl;rw [<-ep] at o pl;clear eC hC eg ep e1 e2 e3 e4 e5 e6 Y e8 e9 J M N O;refine (Zbo hs o).use ?_;clear o;rintro _ w ⟨rfl,o⟩;refine ⟨_,rfl,C.kind,C.pnr,C.flt,C.cls,C.many,C.time,C.sc,C.lab,C.rows,sg,sp,oA o,?_⟩;have o:=o.m2;have sl:=Own.len (o.arr (Hs':=Own sp 35 (GM C.parts)::Own sg 3 (Zd C.grps)::Xn q s bs D::cmC b C sg sp::Z2 b2::Hs));obtain ⟨R',K,_,o,back⟩:=Own.lendI o (by omega);refine (Ub K (by omega) (by simpa using sl) o).use ?_;clear o;rintro _ w ⟨rfl,o⟩;have o:=back o;refine ⟨_,rfl,?_⟩;have no:Z5 bs=(ZhO,6)->∀ {w},Sat R (Z2 b2::Hs) w->∃ sg sp:Sl,Value.tuple #[.agg (cmV ZhO Ze Ze).toArray,nI 6]=.tuple #[.agg (cmV (Z5 bs).1 sg sp).toArray,nI (Z5 bs).2]/\Sat R (Own sg 3 (Zd (Z5 bs).1.grps)::Own sp 35 (GM (Z5 bs).1.parts)::Hs) w:=λ e {w} o=>by
  rw [e];exact ⟨Ze,Ze,rfl,Own.nil (Own.nil o.drop)⟩
 refine Br.nb (λ h=>?_) (λ h=>Br.nb (λ h2=>?_) (λ h2=>?_))
 ·have o:Sat R (Z2 b2::Hs) w:=o.drop.drop.drop.drop
  refine sRu o λ w o=>?_;have o:=o.re (Z2 b2);refine ⟨_,_,_,_,_,_,_,_,_,Ze,Ze,oA o,no ?_ o⟩;rw [E,qc (by rintro ⟨h1,_⟩;rw [h1] at h;cases h)]
 ·have o:Sat R (Z2 b2::Hs) w:=o.drop.drop.drop.drop
  refine sRu o λ w o=>?_;have o:=o.re (Z2 b2);refine ⟨_,_,_,_,_,_,_,_,_,Ze,Ze,oA o,no ?_ o⟩;rw [E,qc (by rintro ⟨_,h1⟩;rw [qE h1] at h2;cases h2)]
 refine ⟨C.kind,C.pnr,C.flt,C.cls,C.many,C.time,C.sc,C.lab,C.rows,sg,sp,oA o,?_⟩;have o:=o.m4;refine sRu o λ w o=>?_;have o:=o.re (cmC b2 C sg sp);refine ⟨C.kind,C.pnr,C.flt,C.cls,C.many,C.time,C.sc,C.lab,C.rows,sg,sp,oA o,?_⟩;rw [E,qf ⟨h,qF h2⟩];exact ⟨sg,sp,rfl,o.drop.cons λ _ h=>(h.arr (Hs':=Own sp 35 (GM C.parts)::Xn q s bs D::cmC b C sg sp::Hs)).cons λ _ h=>h.drop.drop⟩
end
end Go.Proofs.YtlplemdmegpoeaaGreatDoor


namespace Go.Proofs.YtlplemdmegpoeaaGreatDoor
section
open Go Go.VC Tryz
open Classical
variable {R:Cx} {Hs Rest:List HP} {w:World}
def wtV (w:Wt):List Value:=[nI w.id,nI w.cls,nI w.many,nI w.time,xF w.sc]
abbrev X1 (s:Sl):Obj:=.cells [.slice s.a s.len s.cap].toArray 190 (0,0)
def Yq (q:Nat) (l:List Wt):HP:=exs λ s:Sl=>XS [pts q (X1 s),Zn 5 s 192 (l.map wtV)]
def Sat.qu {q:Nat} {l:List Wt}:Sat R (Yq q l::Hs) w↔∃ s:Sl,Sat R (pts q (X1 s)::Zn 5 s 192 (l.map wtV)::Hs) w:=by
 unfold Yq;rw [Sat.exs];exact ⟨λ⟨s,h⟩=>⟨s,Sat.star.1 h⟩,λ⟨s,h⟩=>⟨s,Sat.star.2 h⟩⟩
abbrev FE:=Nat × Nat × Pl
abbrev BE:=Nat × Bk
def plAt (e:FE):HP:=XS [Zm e.1 e.2.2.r,Yq e.2.1 e.2.2.q]
abbrev ZZ (x:Bk):Obj:=.cells [nI x.id,nI x.flt,nI x.cls,nI x.many,nI x.state,nI x.till].toArray 121 (0,0)
def bkAt (e:BE):HP:=pts e.1 (ZZ e.2)
def Zt (fs:List FE):HP:=XS (fs.map plAt)
def Zu (xs:List BE):HP:=XS (xs.map bkAt)
def flV (e:FE):Int × Value:=(e.2.2.n,.agg #[xP (some ⟨e.1,0,none⟩),xP (some ⟨e.2.1,0,none⟩)])
def bkV (e:BE):Int × Value:=(e.2.id,xP (some ⟨e.1,0,none⟩))
abbrev Zq (b:ZF) (m1 m2:Nat):Obj:=.cells [nI b.now,nI b.next,.map (some m1),.map (some m2)].toArray 80 (0,0)
structure Xo (b:ZF) (fs:List FE) (xs:List BE):Prop where
 fl:(fs.map λ e=>e.2.2).Perm b.fl
 bk:xs.map (λ e=>e.2)=b.L
def Zp (p:Nat) (b:ZF):HP:=exs λ m1:Nat=>exs λ m2:Nat=>exs λ fs:List FE=>exs λ xs:List BE=>
 XS [pur (Xo b fs xs),pts p (Zq b m1 m2),MapAt m1 (fs.map flV),MapAt m2 (xs.map bkV),Zt fs,Zu xs]
def Sat.book {p:Nat} {b:ZF}:Sat R (Zp p b::Hs) w↔∃ m1 m2 fs xs,Xo b fs xs/\Sat R (pts p (Zq b m1 m2)::MapAt m1 (fs.map flV)::MapAt m2 (xs.map bkV)::Zt fs::Zu xs::Hs) w:=by
 unfold Zp;simp only [Sat.exs];constructor
 ·rintro ⟨m1,m2,fs,xs,h⟩
  obtain ⟨a,d⟩:=Sat.pur.1 (Sat.star.1 h);exact ⟨m1,m2,fs,xs,a,d⟩
 ·rintro ⟨m1,m2,fs,xs,a,d⟩
  exact ⟨m1,m2,fs,xs,Sat.star.2 (Sat.pur.2 ⟨a,d⟩)⟩
abbrev Zqq:ZqW prog 77 Int 3 97 (.agg #[xP none,xP none]):=⟨underlying77,underlying3,zeroValue97⟩
abbrev ZqT:ZqW prog 78 Int 3 86 (xP none):=⟨underlying78,underlying3,zeroValue86⟩
def Zt.snoc {fs:List FE} {f q:Nat} {p:Pl} (a:Sat R (Zm f p.r::Yq q p.q::Zt fs::Hs) w):Sat R (Zt (fs++[(f,q,p)])::Hs) w:=by
 unfold Zt at a ⊢;rw [Sat.star,qe,qn];have a:=a.m2;rw [Sat.star] at a;have key:∀ (L:List HP) {R:Cx},Sat R (L++Zm f p.r::Yq q p.q::Hs) w->Sat R (L++(List.map plAt [(f,q,p)]++Hs)) w:=λ L=>by
  induction L with
  |nil=>exact λ h=>Sat.star.2 h
  |cons A L ih=>exact λ h=>h.cons λ _ h=>ih h
 exact key _ a
def GL {β:Type} {k:Int}:∀ {l:List (Int × β)},ZL k l=none↔∀ e∈l,e.1≠k
 |[]=>⟨λ _ _ h=>(by cases h),λ _=>rfl⟩
 |e::l=>by
  rw [ZL];by_cases h:k=e.1
  ·rw [qf (by simpa using h)]
   exact ⟨λ a=>(by cases a),λ a=>absurd h.symm (a e (by simp))⟩
  ·rw [qc (by simpa using h),GL]
   exact ⟨λ a x d=>by
    rcases qk.1 d with o|o
    ·rw [o];exact λ e=>h e.symm
    ·exact a x o,λ a x d=>a x (by simp [d])⟩
def Zc2 {b:ZF} {fs:List FE} {xs:List BE} (hl:Xo b fs xs) {n:Int}:ZL n (fs.map flV)=none↔b.at n=none:=by
 unfold ZF.at;rw [GL,UA];constructor
 ·intro h p d
  obtain ⟨e,a,rfl⟩:=qm.1 (hl.fl.mem_iff.2 d);exact h (flV e) (qm.2 ⟨e,a,rfl⟩)
 ·rintro h _ a
  obtain ⟨e,o,rfl⟩:=qm.1 a;exact h e.2.2 (hl.fl.mem_iff.1 (qm.2 ⟨e,o,rfl⟩))
def Zn1 {b:ZF} {fs:List FE} {xs:List BE} (hl:Xo b fs xs):fs.length=b.fl.length:=by
 have:=hl.fl.length_eq;rwa [qa] at this
abbrev Zen (e:Int):List PanicEntry:=[⟨.iface 29 (nI e),false,false⟩]
def WB {b:Bool} {e:Int} {Q:Ending->xE} (d:b=true->Q (xR (.tuple #[])) w) (o:b=false->Q (.panicked (Zen e)) w):nC 37 #[.bool b,nI e] w Q:=by
 have h:XG prog 37 #[.bool b,nI e] w (λ i w'=>b=false/\i=Zen e/\w'=w) (λ v w'=>b=true/\v=.tuple #[]/\w'=w):=by
  apply Zv6;exact Br.nb (λ h=>⟨h,rfl,rfl⟩) (λ h=>⟨h,rfl,rfl⟩)
 refine h.use ?_ ?_
 ·rintro v w' ⟨a,rfl,e⟩;rw [e];exact d a
 ·rintro v w' ⟨a,rfl,e⟩;rw [e];exact o a
def GI {e:Int} {Q:Ending->xE} (d:e=0->Q (xR (.tuple #[])) w) (o:¬ e=0->Q (.panicked (Zen e)) w):nC 99 #[nI e] w Q:=by
 have h:XG prog 99 #[nI e] w (λ i w'=>¬ e=0/\i=Zen e/\w'=w) (λ v w'=>e=0/\v=.tuple #[]/\w'=w):=by
  apply Zvg;exact Br.ne (λ h=>⟨h,rfl,rfl⟩) (λ h=>⟨h,rfl,rfl⟩)
 refine h.use ?_ ?_
 ·rintro v w' ⟨a,rfl,e⟩;rw [e];exact d a
 ·rintro v w' ⟨a,rfl,e⟩;rw [e];exact o a
def Zsk {r:Nat} {x:Rp} {sl sb:Sl} {e:Int} {h:xE} (a:Sat R (rpC r x sl sb::Hs) w) (k:∀ w,Sat R (rpC r (Z4 e) Ze Ze::Hs) w->h w):
  Z3 prog 36 [nP r] (.panicking (Zen e)) h w:=by
 unfold Z3;refine CallsD.mono (Zsm (some ⟨r,0,none⟩) (.iface 29 (nI e)) h w ?_) ?_
 ·refine ⟨true,λ w' _=>by kernel_rfl,Br.t rfl ?_⟩
  refine ⟨e,λ w' _=>by kernel_rfl,Zb.mk rfl ?_⟩;refine sRu a λ w a=>?_;exact k w (a.re (rpC r (Z4 e) Ze Ze))
 ·rintro e v w' ⟨d,rfl,hk⟩
  exact ⟨d,rfl,hk⟩
def Zot {r:Nat} {h:xE} (k:h w):Z3 prog 36 [nP r] .returning h w:=by
 unfold Z3;refine CallsD.mono (Zsl (some ⟨r,0,none⟩) h w ?_) ?_
 ·exact ⟨false,λ w' _=>by kernel_rfl,Br.f rfl k⟩
 ·rintro e v w' ⟨a,rfl,hk⟩
  exact ⟨a,rfl,hk⟩
def ZmQ (h:Sat R Hs w):Zg prog 100 #[] w λ v w'=>∃ q,v=nP q/\Sat R (Yq q []::Hs) w':=by
 apply Zuv;refine Za h λ q w h=>⟨q,rfl,Sat.qu.2 ⟨Ze,?_⟩⟩;exact (Zn.nil h).swap
def ZoB (a:Sat R Hs w):Zg prog 10 #[] w λ v w'=>∃ p,v=nP p/\Sat R (Zp p Uv::Hs) w':=by
 apply Zwr;refine Za a λ m1 w a=>?_;have a:=MapAt.new (α:=Int) rfl a;refine Za a λ m2 w a=>?_;have a:=MapAt.new (α:=Int) rfl a;refine Za a λ p w a=>⟨p,rfl,Sat.book.2 ⟨m1,m2,[],[],⟨jD _,rfl⟩,?_⟩⟩;have a:Sat R (pts p (Zq Uv m1 m2)::MapAt (α:=Int) m2 []::MapAt (α:=Int) m1 []::Hs) w:=a;have a:=a.m1.b2;exact a.cons λ _ h=>h.cons λ _ h=>h.cons λ _ h=>Sat.star.2 (Sat.star.2 h)
abbrev ZgW (c:Cm):Rp:=⟨0,emS,0,c.flt,0,0,0,Zr (GB c.flt c.rows c.grps (ZB (YN c.rows c.grps) c.parts).1),[]⟩
def ZlD {p:Nat} {b:ZF} {c:Cm} {sg sp:Sl} (J:b.fl.length<=1000000) (L:RoI R sg c.grps) (M:SlR R.m sp (GM c.parts)) (d:Sat R (Zp p b::Hs) w):
  XG prog 39 #[nP p,.agg #[nI c.kind,xZ c.pnr,nI c.flt,nI c.cls,nI c.many,nI c.time,xF c.sc,xZ c.lab,nI c.rows,.slice sg.a sg.len sg.cap,.slice sp.a sp.len sp.cap]] w
   (λ N w'=>∃ e,N=Zen e/\Wi b c=(b,Z4 e)/\Sat R (Zp p b::Hs) w')
   (λ v w'=>(Wi b c).2=ZgW c/\∃ sl:Sl,v=.agg (rpV (ZgW c) sl Ze).toArray/\Sat R (Own sl 3 (Zd (ZgW c).left)::Zp p (Wi b c).1::Hs) w'):=by
 apply Zv4
 suffices H:∀ (X:List PanicEntry->xE) (K:Value->xE),(∀ e w',Wi b c=(b,Z4 e)->Sat R (Zp p b::Hs) w'->X (Zen e) w')->
   (∀ sl w',(Wi b c).2=ZgW c->Sat R (Own sl 3 (Zd (ZgW c).left)::Zp p (Wi b c).1::Hs) w'->K (.agg (rpV (ZgW c) sl Ze).toArray) w')->B39 (some ⟨p,0,none⟩) c.kind c.pnr c.flt c.cls c.many c.time c.sc c.lab c.rows sg sp X K w from
  H _ _ (λ e w' t D=>⟨e,rfl,t,D⟩) (λ sl w' t D=>⟨t,sl,rfl,D⟩)
 intro X K E hK;obtain ⟨m1,m2,fs,xs,hl,d⟩:=Sat.book.1 d;have g:=Zn1 hl;refine Za d λ b3 w d=>Za d λ b4 w d=>?_;have d:Sat R (MapAt m1 (fs.map flV)::pts p (Zq b m1 m2)::cmC b3 c sg sp::ZK b4::MapAt m2 (xs.map bkV)::Zt fs::Zu xs::Hs) w:=by
  have d:Sat R (ZK b4::cmC b3 c sg sp::pts p (Zq b m1 m2)::MapAt m1 (fs.map flV)::MapAt m2 (xs.map bkV)::Zt fs::Zu xs::Hs) w:=d;exact d.arr
 have close:∀ {w},Sat R (MapAt m1 (fs.map flV)::pts p (Zq b m1 m2)::cmC b3 c sg sp::ZK b4::MapAt m2 (xs.map bkV)::Zt fs::Zu xs::Hs) w->Sat R (Zp p b::Hs) w:=λ {w} d=>by
  have d:=d.b3.b2;exact Sat.book.2 ⟨m1,m2,fs,xs,hl,d.drop.drop⟩
 refine Xk d λ w d=>?_;refine Zb.mk rfl ⟨some m1,oS,c.flt,oS,?_⟩;have look:∀ w',Sat R (VC.tru::MapAt m1 (fs.map flV)::pts p (Zq b m1 m2)::cmC b3 c sg sp::ZK b4::MapAt m2 (xs.map bkV)::Zt fs::Zu xs::Hs) w'->
   (Instr.lookup 77 (.map (some m1)) (nI c.flt) true).run prog w'=.ok (.tuple #[(ZL c.flt (fs.map flV)).getD (.agg #[xP none,xP none]),.bool (ZL c.flt (fs.map flV)).isSome]) w':=λ w' h=>
  MapAt.look Zqq h.swap c.flt true
 obtain ⟨F,G,O⟩:∃ F G:xA,(ZL c.flt (fs.map flV)).getD (.agg #[xP none,xP none])=.agg #[xP F,xP G]:=by
  cases u:ZL c.flt (fs.map flV) with
  |none=>exact ⟨none,none,rfl⟩
  |some v=>
   obtain ⟨A,C,e,_⟩:=YZ u;have:(c.flt,v)∈fs.map flV:=by rw [e];simp
   obtain ⟨x,_,Q⟩:=qm.1 this;have I:=qH Prod.snd Q;exact ⟨_,_,I.symm⟩
 rw [O] at look;refine ⟨F,G,_,look,?_⟩;refine Za d λ b5 w d=>⟨d.absorb,?_⟩;refine sRu d λ w d=>?_;have d:=d.drop.drop;have j:=Zc2 hl (n:=c.flt);refine WB (λ i=>.inl ⟨rfl,?_⟩) (λ i=>.inr ⟨_,rfl,E 7 w ?_ (close d)⟩)
 rotate_left
 ·unfold Wi
  rw [qf];cases y:b.at c.flt with
  |none=>rw [j.2 y] at i;cases i
  |some _=>rfl
 have k:ZL c.flt (fs.map flV)=none:=by
  cases u:ZL c.flt (fs.map flV) with
  |none=>rfl
  |some v=>rw [u] at i;cases i
 have y:=j.1 k;have o1:¬ (b.at c.flt).isSome=true:=by rw [y];simp
 refine Zb.mk rfl ⟨some m1,oA d,((fs.map flV).length:Int),λ w' e=>?_,?_⟩
 ·rw [show w'=w from e]
  exact MapAt.len (by kernel_rfl) d
 rw [qa,g];refine WB (λ z=>.inl ⟨rfl,?_⟩) (λ z=>.inr ⟨_,rfl,E 3 w ?_ (close d)⟩)
 rotate_left
 ·have:=qQ z
  unfold Wi;rw [qc o1,qf (by omega)]
 have U:=qF z;have o2:¬ 8<=b.fl.length:=by omega
 refine ⟨c.flt,oA d,c.rows,sg,oA d,sp,oA d,?_⟩;refine (Zlp L M d).use ?_;clear d;rintro _ w (⟨i,rfl,d⟩|⟨i,f,rfl,d⟩)
 ·refine .inl ⟨none,1,rfl,GI (λ h=>by cases h) (λ _=>.inr ⟨_,rfl,E 1 w ?_ (close d)⟩)⟩
  unfold Wi;rw [qc o1,qc o2,qf i]
 have o:Wi b c=({ b with fl:=ZiA Pl.n ⟨GB c.flt c.rows c.grps (ZB (YN c.rows c.grps) c.parts).1,[]⟩ b.fl },ZgW c):=by
  unfold Wi;rw [qc o1,qc o2,qc (λ h=>h i)]
 obtain ⟨r,s⟩:=xx (GB c.flt c.rows c.grps (ZB (YN c.rows c.grps) c.parts).1);have d:Sat R (Zm f r::MapAt m1 (fs.map flV)::pts p (Zq b m1 m2)::cmC b3 c sg sp::ZK b4::MapAt m2 (xs.map bkV)::Zt fs::Zu xs::Hs) w:=by
  rw [s];exact Sat.lone.2 ⟨_,⟨Zl3,ZbT i⟩,d⟩
 rw [<-s] at o;refine .inl ⟨some ⟨f,0,none⟩,0,rfl,GI (λ _=>.inl ⟨rfl,?_⟩) (λ h=>absurd rfl h)⟩;refine Zj (Sat R [cmC b3 c sg sp,pts p (Zq b m1 m2),VC.tru]) d (λ w d=>?_) λ w d=>?_
 ·exact (d.arr (Hs':=cmC b3 c sg sp::pts p (Zq b m1 m2)::Zm f r::MapAt m1 (fs.map flV)::ZK b4::MapAt m2 (xs.map bkV)::Zt fs::Zu xs::Hs)).cons λ _ h=>h.restTru2
 refine Zb.mk rfl ⟨some m1,oS,c.flt,oS,?_⟩;refine (ZmQ d).u1 λ q w d=>?_;refine .inl ⟨_,rfl,?_,?_⟩
 ·exact (d.arr (Hs':=cmC b3 c sg sp::pts p (Zq b m1 m2)::Yq q []::Zm f r::MapAt m1 (fs.map flV)::ZK b4::MapAt m2 (xs.map bkV)::Zt fs::Zu xs::Hs)).cons λ _ h=>h.restTru2
 have d:=d.m1.m2.m7.b3;refine MapAt.put Zqq d c.flt (.agg #[nP f,nP q]) λ w d=>?_;have l:Gl c.flt (.agg #[nP f,nP q]) (fs.map flV)=(fs++[((f,q,⟨r,[]⟩):FE)]).map flV:=by
  unfold Gl;rw [k];have:r.num=c.flt:=by rw [s];rfl
  simp only [jN,qy,jq,qe,qi,jR,flV,Pl.n,this]
 rw [l] at d;refine Zj (Sat R [cmC b3 c sg sp,VC.tru]) d (λ w d=>?_) λ w d=>?_
 ·exact (d.arr (Hs':=cmC b3 c sg sp::MapAt m1 ((fs++[((f,q,⟨r,[]⟩):FE)]).map flV)::Zm f r::Yq q []::Zt fs::pts p (Zq b m1 m2)::ZK b4::MapAt m2 (xs.map bkV)::Zu xs::Hs)).restTru2
 refine ⟨c.flt,oS,?_⟩;have d:Sat R (Zm f r::MapAt m1 ((fs++[((f,q,⟨r,[]⟩):FE)]).map flV)::Yq q []::Zt fs::pts p (Zq b m1 m2)::cmC b3 c sg sp::ZK b4::MapAt m2 (xs.map bkV)::Zu xs::Hs) w:=d.swap;refine (Vf d).u1 λ sl w d=>?_;refine .inl ⟨sl,rfl,?_,?_⟩
 ·exact (d.arr (Hs':=cmC b3 c sg sp::Own sl 3 (Zd (Zr r))::Zm f r::MapAt m1 ((fs++[((f,q,⟨r,[]⟩):FE)]).map flV)::Yq q []::Zt fs::pts p (Zq b m1 m2)::ZK b4::MapAt m2 (xs.map bkV)::Zu xs::Hs)).restTru2
 refine sRu d λ w d=>?_;have d:=d.re (rpC b4 (ZgW c) sl Ze);refine ⟨0,emS,0,c.flt,0,0,0,sl,Ze,oA d,?_⟩;have d:=d.m7.m1.m9.m7.m7.m6.m9.m8.m9.m9;refine hK sl w (by rw [o]) ?_;rw [o];dsimp only;rw [<-s];refine d.cons λ _ d=>Sat.book.2 ⟨m1,m2,fs++[((f,q,⟨r,[]⟩):FE)],xs,⟨?_,hl.bk⟩,?_⟩
 ·rw [qe]
  refine (List.perm_append_singleton _ _).trans (uX (hl.fl.cons _) Zhd.symm)
 ·refine d.cons λ _ h=>h.cons λ _ h=>h.cons λ _ h=>?_
  exact (Zt.snoc h).cons λ _ h=>h.cons λ _ h=>h.drop.drop
end
end Go.Proofs.YtlplemdmegpoeaaGreatDoor

namespace Go.Proofs.YtlplemdmegpoeaaGreatDoor
section
open Go Go.VC Tryz
open Classical
variable {R:Cx} {Hs Rest:List HP} {w:World}
def ZaD {bs:List Int} (d:ZV bs):FltC (Z5 bs).1/\(Z5 bs).1.grps.length<=16/\(Z5 bs).1.parts.length<=16:=by
 unfold Z5;split
 ·rename_i h
  refine ⟨?_,h.2.gl,h.2.pl⟩;have b1:=Zo (most:=9) (rd:=⟨bs,false⟩) d;have b2:=Vu (most:=16) b1;have b3:=Zqz b2;have b4:=U7 b3;have b5:=Vu (most:=16) b4;have b6:=Zo (most:=9999) b5;have b7:=Zo (most:=16) b6;have b8:=(XZ (one:=Zh 9999) (P:=λ r=>ZV r.bs) (Q:=λ _=>True) (λ r a=>⟨trivial,Zo a⟩) (Zh 16 (Zh 9999 (Xq 16 (Xm (hd2 (Xq 16 (Zh 9 ⟨bs,false⟩).2).2).2).2).2).2).1.toNat b7).2;have b9:=Zo (most:=16) b8;rw [Zon];exact ⟨ZjX b3,(XZ (one:=Xm) (P:=λ r=>ZV r.bs) (Q:=λ x=>x<18446744073709551616) (λ r a=>⟨ZjX a,U7 a⟩) _ b9).1⟩
 ·exact ⟨⟨by show 0<18446744073709551616;omega,λ x o=>by cases o⟩,by show 0<=16;omega,by show 0<=16;omega⟩
end
end Go.Proofs.YtlplemdmegpoeaaGreatDoor


namespace Go.Proofs.YtlplemdmegpoeaaGreatDoor
section
open Go Go.VC Tryz
open Classical
variable {R:Cx} {Hs Rest:List HP} {w:World}
abbrev wtA (x:Wt):Value:=.agg #[nI x.id,nI x.cls,nI x.many,nI x.time,xF x.sc]
abbrev wtC (b:Nat) (x:Wt):HP:=pts b (.cells (wtV x).toArray 192 (0,0))
abbrev wtD (b:Nat) (x:Wt):HP:=pts b (.cells (wtV x).toArray 168 (0,0))
def Vy {n lo hi:Int} (a:Sat R Hs w):Zg prog 239 #[nI n,nI lo,nI hi] w λ v w'=>v=.bool (decide (lo<=n/\n<=hi))/\Sat R Hs w':=by
 apply ZsQ;refine Br.d (λ h=>⟨?_,a⟩) (λ h=>⟨?_,a⟩)
 ·congr 1
  rw [qJ];omega
 ·rw [qz (by omega)]
def Zij {x:Wt} (a:Sat R Hs w):Zg prog 169 #[wtA x] w λ v w'=>v=.bool (decide x.Ok)/\Sat R Hs w':=by
 apply ZtD;refine Za a λ b w a=>?_;have a:Sat R (wtC b x::Hs) w:=a;have no:∀ {w},¬ x.Ok->Sat R (wtC b x::Hs) w->(Value.bool false=.bool (decide x.Ok))/\Sat R Hs w:=λ h a=>⟨by rw [qz h],a.drop⟩;refine ⟨x.id,oA a,?_⟩;refine (Vy a).u λ w a=>?_;refine ⟨_,rfl,Br.d (λ o=>?_) (λ o=>no (λ h=>o h.1) a)⟩;refine ⟨x.cls,oA a,?_⟩;refine (Vy a).u λ w a=>?_;refine ⟨_,rfl,Br.d (λ i=>?_) (λ i=>no (λ h=>i h.2.1) a)⟩;refine ⟨x.many,oA a,?_⟩;refine (Vy a).u λ w a=>?_;refine ⟨_,rfl,Br.d (λ y=>?_) (λ y=>no (λ h=>y h.2.2.1) a)⟩;refine ⟨x.time,oA a,?_⟩;refine (Vy a).u λ w a=>?_;refine ⟨_,rfl,?_,a.drop⟩
 congr 1
 rw [qJ];exact ⟨λ h=>⟨o,i,y,h⟩,λ h=>h.2.2.2⟩
def orL (l:List Int):Int:=(l.find? λ x=>decide (x≠0)).getD 0
def Zrw {s:Sl} {l:List Int} (hl:l.length<=1000000000) (u:Sat R (Own s 3 (Zd l)::Hs) w):Zg prog 242 #[.slice s.a s.len s.cap] w λ v w'=>v=nI (orL l)/\Sat R (Own s 3 (Zd l)::Hs) w':=by
 have z:=Own.len u;rw [qa] at z;apply ZsN;refine ⟨λ i w=>∃ j:Nat,i=j/\j<=l.length/\(∀ x∈l.take j,x=0)/\Sat R (Own s 3 (Zd l)::Hs) w,λ i _=>l.length - i.toNat,⟨0,rfl,by omega,by simp,u⟩,?_⟩;clear u;rintro _ _ w ⟨j,rfl,hj,hz,u⟩;refine Br.d (λ h=>?_) (λ h=>?_)
 ·have y:j<l.length:=by omega
  refine Own.ix u (eqS u) j rfl y ?_;refine Br.ne (λ g=>⟨?_,u⟩) (λ g=>?_)
  ·congr 1
   have e:l.find? (λ x=>decide (x≠0))=some l[j]:=by
    have k:l=l.take j++l[j]::l.drop (j + 1):=by rw [<-qv y,qD]
    rw [List.find?_eq_some_iff_append];exact ⟨by simpa using g,l.take j,l.drop (j + 1),k,λ x o=>by simpa using hz x o⟩
   unfold orL;rw [e];rfl
  ·rw [Zc]
   refine ⟨⟨j + 1,by omega,by omega,λ x o=>?_,u⟩,by dsimp only;omega⟩;rw [qp,List.getElem?_eq_getElem y] at o;rcases qt.1 o with o|o
   ·exact hz x o
   ·simp at o
    rw [o];exact g
 ·rw [qg (by omega)] at hz
  refine ⟨?_,u⟩
  congr 1
  unfold orL;rw [List.find?_eq_none.2 (λ x o=>by simpa using hz x o)];rfl
def Zru {a b:Wt}:orL [GE b.sc a.sc,Zp5 a.time b.time,Zp5 a.id b.id]=a.ord b:=by
 unfold orL Wt.ord Zp5;by_cases h:GE b.sc a.sc=0
 ·simp only [List.find?_cons,h,ne_eq,vN,decide_false]
  by_cases d:a.time<b.time
  ·simp [d]
  ·by_cases o:b.time<a.time
   ·simp [d,o]
   ·by_cases i:a.id<b.id
    ·simp [d,o,i]
    ·by_cases u:b.id<a.id
     ·simp [d,o,i,u]
     ·simp [d,o,i,u]
 ·simp [h]
def Zk3 {a b:Wt} (h:Sat R Hs w):Zg prog 172 #[wtA a,wtA b] w λ v w'=>v=nI (a.ord b)/\Sat R Hs w':=by
 apply ZtA;refine Za h λ p w h=>Za h λ q w h=>?_;have h:Sat R (wtC q b::wtC p a::Hs) w:=h;refine Xk h λ w h=>?_;refine ⟨b.sc,oS,a.sc,oS,a.time,oS,b.time,oS,a.id,oS,b.id,oS,?_⟩;refine (ZmM h).u λ w h=>?_;refine ⟨_,rfl,h,?_⟩;refine (ZaC h).u λ w h=>?_;refine ⟨_,rfl,h,?_⟩;refine (ZaC h).u λ w h=>?_;refine ⟨_,rfl,h,?_⟩;refine Za h λ r w h=>⟨h.absorb,?_⟩;have h:Sat R (pts r (.cells (Zd [GE b.sc a.sc,Zp5 a.time b.time,Zp5 a.id b.id]).toArray 3 (0,0))::VC.tru::wtC q b::wtC p a::Hs) w:=h;refine (Zrw (l:=[GE b.sc a.sc,Zp5 a.time b.time,Zp5 a.id b.id]) (by simp) (YL (n:=3) h)).u λ w h=>?_;rw [Zru];exact ⟨_,rfl,h.absorb,rfl,h.drop.drop.drop.drop⟩
abbrev wtT:TypeId:=192
def ZmR {s:Sl} {l:List Wt} {f:Value} {p:Wt->Bool} (hl:l.length<=1000000000)
  (n:∀ x w,Sat R (Zn 5 s wtT (l.map wtV)::Hs) w->XP prog cl f [wtA x] w λ e w'=>e=xR (.bool (p x))/\Sat R (Zn 5 s wtT (l.map wtV)::Hs) w')
  (o:Sat R (Zn 5 s wtT (l.map wtV)::Hs) w):
  Zg prog 240 #[.slice s.a s.len s.cap,f] w λ v w'=>(∃ i:Int,v=nI i/\((i=-1/\l.any p=false)\/∃ k:Nat,i=k/\∃ (hk:k<l.length),p l[k]=true/\(l.take k).any p=false))/\Sat R (Zn 5 s wtT (l.map wtV)::Hs) w':=by
 have y:=Zn.len o;rw [qa] at y;apply ZsP;refine ⟨λ i w=>∃ j:Nat,i=j/\j<=l.length/\(l.take j).any p=false/\Sat R (Zn 5 s wtT (l.map wtV)::Hs) w,λ i _=>l.length - i.toNat,⟨0,rfl,by omega,by simp,o⟩,?_⟩;clear o;rintro _ _ w ⟨j,rfl,hj,m,o⟩;refine Br.d (λ h=>?_) (λ h=>?_)
 ·have u:j<l.length:=by omega
  refine (Zn.reads o (eqS o)).rngM (E:=l) (g:=wtV) u λ a _ q=>?_;refine ⟨_,_,_,_,_,q.z (by exact ⟨rfl,rfl,rfl,rfl,rfl,trivial⟩),?_⟩;refine (n l[j] _ o).mono ?_;rintro _ w ⟨rfl,o⟩;refine ⟨_,rfl,Br.mk (λ h=>⟨⟨j,rfl,.inr ⟨j,rfl,u,h,m⟩⟩,o⟩) (λ h=>?_)⟩;rw [Zc];refine ⟨⟨j + 1,by omega,by omega,?_,o⟩,by dsimp only;omega⟩;rw [qp,List.getElem?_eq_getElem u,vF,m];simp [h]
 ·rw [qg (by omega)] at m
  exact ⟨⟨-1,rfl,.inl ⟨rfl,m⟩⟩,o⟩
def ZnK {b:Nat} {id:Int} {x:Wt} (h:Sat R (pts b (.cells [nI id].toArray 3 (0,0))::Hs) w):Zg prog 241 #[wtA x,nP b] w λ v w'=>v=.bool (decide (x.id=id))/\Sat R (pts b (.cells [nI id].toArray 3 (0,0))::Hs) w':=by
 apply ZsO;refine Za h λ p w h=>?_;have h:Sat R (wtC p x::pts b (.cells [nI id].toArray 3 (0,0))::Hs) w:=h;refine ⟨x.id,oA h,Zb.mk rfl ⟨id,oA h,?_,h.drop⟩⟩
 congr 1
def Zcy {q:Nat} {l:List Wt} {id:Int} (hl:l.length<=1000000000) (a:Sat R (Yq q l::Hs) w):
  Zg prog 170 #[nP q,nI id] w λ v w'=>(∃ i:Int,v=nI i/\((i=-1/\UC id l=false)\/∃ k:Nat,i=k/\∃ (hk:k<l.length),l[k].id=id/\UC id (l.take k)=false))/\Sat R (Yq q l::Hs) w':=by
 obtain ⟨s,a⟩:=Sat.qu.1 a;apply ZtC;refine Za a λ b w a=>?_;have a:Sat R (pts q (X1 s)::pts b (.cells [nI id].toArray 3 (0,0))::Zn 5 s wtT (l.map wtV)::Hs) w:=a.swap;refine Zb.mk rfl ⟨s,oA a,?_⟩;have a:=a.m1.m2;refine (ZmR (p:=λ x=>decide (x.id=id)) hl (λ x w a=>XP.mk (by kernel_rfl) ((ZnK a.swap).use λ v w' h=>⟨by rw [h.1],h.2.swap⟩)) a).use ?_;clear a;rintro _ w ⟨⟨i,rfl,hi⟩,a⟩;refine ⟨i,rfl,⟨i,rfl,?_⟩,?_⟩
 ·rcases hi with hi|⟨k,rfl,hk,d,o⟩
  ·exact .inl hi
  ·exact .inr ⟨k,rfl,hk,qF d,o⟩
 ·have a:=a.b2
  exact Sat.qu.2 ⟨s,a.drop⟩
theorem Zpw : (f245.name == "runtime.NumGoroutine") = false := by kernel_rfl
def Zpy:f245.body.isNone=true:=by kernel_rfl
def Zpv:Extern.findNext f245=none:=by kernel_rfl
def Zpx:∃ h,Extern.find f245=some (Extern.SlicesOverlaps.overlaps #[ 188,188 ] #[h]):=⟨4,by kernel_rfl⟩
def elW:ElN prog 188 188 wtT 5 40:=⟨underlying188,⟨_,underlying188⟩,by kernel_rfl⟩
def szW1:Zb9 prog wtT=5:=by kernel_rfl
def szW (w:nW):(sizeOf wtT).run prog w=.ok 5 w:=by
 obtain ⟨i,hi⟩:=Zji (P:=prog) (t:=wtT) (by rw [szW1];decide);have:=XA hi w;rw [szW1] at this;exact this
def Zb1 (x:Wt):(wtV x).length=5:=rfl
def V6 (l:List Wt):Wid 5 (l.map wtV):=λ y h=>by
 obtain ⟨x,_,rfl⟩:=qm.1 h;rfl
def Zq1 (x:Wt):ZN (wtV x)=true:=rfl
def ZeB (l:List Wt):ZN (l.map wtV).flatten=true:=by
 unfold ZN;rw [qW];intro v h;obtain ⟨r,a,d⟩:=jZ.1 h;obtain ⟨x,_,rfl⟩:=qm.1 a;exact qW.1 (Zq1 x) v d
def Zoh {b k m:Nat} (h:m≠k):X4 (some ⟨b,0,none⟩) k m 5=some ⟨b,k * 5,none⟩:=by
 simp only [X4,qc h,vm,Zs];simp
def Zdt {d b2 o:Nat} {x:Wt} {T2:TypeId} {l:List Value} {fr:Nat × Nat} {y z:Nat} {Q:Ending->xE} (hl:l≠[])
  (i:Sat R (pts b2 (.cells l.toArray T2 fr)::wtC d x::Hs) w) (k:Q (xR (.bool false)) w):
  Ext prog 245 #[.slice (some ⟨d,0,none⟩) 1 1,.slice (some ⟨b2,o,none⟩) y z] w Q:=by
 have g:=i.at;have u:=i.swap.at;have v:d≠b2:=by
  rintro rfl;obtain ⟨h,j,hd,h',m,hd',_⟩:=i;rw [show h=_ from j] at hd hd'
  rw [show h'=_ from m] at hd'
  have:=hd' d (by simp [Z0.one]);simp only [Cx.add,Z0.add,Z0.one] at this;split at this<;>simp_all
 obtain ⟨n,p⟩:=Zpx;refine ⟨.bool false,w,?_,k⟩;rw [run_callFunc_extern func245 Zpw Zpy Zpv p];rw [Lib.run_overlaps_apart (P:=prog) w 188 n wtT underlying188 5 (λ w=>szW w) ⟨d,0,none⟩ ⟨b2,o,none⟩ 1 1 y z v wtT T2 5 l.length ?_ ?_ ?_ ?_ ?_]
 ·rfl
 ·simp only [World.shape?,u];rfl
 ·simp only [World.shape?,g];simp
 ·cases l with
  |nil=>exact absurd rfl hl
  |cons a l=>simp
 ·simp [World.frozen?,u]
 ·simp [World.frozen?,u]
def Zqi {b:Nat} {x:Wt} (h:w.heap[b]? =some (.cells (wtV x).toArray wtT (0,0))):∀ j v,(wtV x)[j]? =some v->w.cell? ((⟨b,0,none⟩:Addr).add j)=some v:=by
 intro j v hj;rw [Zs,Yy h,jb];exact hj
def Zgd {b o:Nat} {xs rest:List Value} {T:TypeId} {fr:Nat × Nat} (h:w.heap[b]? =some (.cells (xs++rest).toArray T fr)):∀ j v,(xs.drop o)[j]? =some v->w.cell? ((⟨b,o,none⟩:Addr).add j)=some v:=by
 intro j v hj;rw [Zs,Yy h];rw [List.getElem?_drop] at hj;have a:=(List.getElem?_eq_some_iff.1 hj).1;rw [List.getElem?_append_left (by omega)];exact hj
def ZgR {s:Sl} {l:List Wt} {x:Wt} {p b:Nat} (hl:l.length<=1000000000) (V:p<=l.length) (o:Sat R (Zn 5 s wtT (l.map wtV)::wtC b x::Hs) w):
  Zg prog 173 #[.slice s.a s.len s.cap,nI p,.slice (some ⟨b,0,none⟩) 1 1] w λ v w'=>∃ t:Sl,v=.slice t.a t.len t.cap/\Sat R (Zn 5 t wtT ((l.take p++x::l.drop p).map wtV)::wtC b x::Hs) w':=by
 have q:=Zn.len o;have m:=Zn.cap (by omega) o;rw [qa] at q;have u:(l.map wtV).length=l.length:=qa _;refine Ztz s p ⟨some ⟨b,0,none⟩,1,1⟩ _ _ ?_;unfold B173;dsimp only;have w1:wI ((s.len:Int) + ((1:Nat):Int))=((l.length + 1:Nat):Int):=by rw [Zc];omega
 have w2:wI (((l.length + 1:Nat):Int) - p)=((l.length + 1 - p:Nat):Int):=by rw [Zc];omega
 have w3:wI ((p:Int) + ((1:Nat):Int))=((p + 1:Nat):Int):=by rw [Zc];omega
 rw [w1,w2,w3];simp only [qo];have N:((l.map wtV).take p).flatten.length=p * 5:=by rw [(V6 l).take.len,qd,u,q7 V]
 have H:((l.map wtV).drop p).flatten.length=(l.length - p) * 5:=by rw [(V6 l).drop.len,qx,u]
 have I:ZN ((l.map wtV).drop p).flatten=true:=by rw [<-jo];exact ZeB _
 have A:(l.map wtV).flatten=((l.map wtV).take p).flatten++((l.map wtV).drop p).flatten:=by rw [<-ja,qD]
 have J:((l.map wtV).take p).flatten++wtV x++((l.map wtV).drop p).flatten=((l.take p++x::l.drop p).map wtV).flatten:=by simp [jk,jo]
 have n:(l.take p++x::l.drop p).length=l.length + 1:=by simp;omega
 refine ⟨by omega,by omega,Br.f rfl (Br.e (λ h=>?_) (λ h=>Br.d (λ O=>?_) (λ O=>?_)))⟩
 ·-- behind all
  refine ZY elW o (Gh elW.hk 1 o rfl rfl) (Wid.one rfl) (by simp;omega) (by simp;omega) λ t w o=>⟨t,rfl,?_⟩;have e:l.map wtV++[wtV x]=(l.take p++x::l.drop p).map wtV:=by
   rw [qg (by omega),jg (by omega)];simp
  rw [e] at o;exact o
 ·-- no room
  refine ⟨by omega,by omega,?_⟩;refine Zb0 underlying188 underlying3 elW.hi (by omega) (by omega) (by rw [u];omega) (by omega) (by omega) (by omega) o λ t w ys L o=>?_;have Q:Wid 5 ys:=λ y B=>Zn.wid o y (zc _ B);have M:=Zn.len o;have D:((l.map wtV).take p++ys).length=l.length + 1:=by rw [qb,qd,u,L,q7 V];omega
  rw [D] at M;refine ⟨by omega,by omega,?_⟩;obtain ⟨W,⟨_,E,_⟩|⟨b',rest,fr,cap,rfl,i,j,o⟩⟩:=Zn.cases o
  ·have:=qH List.length E
   rw [D] at this;cases this
  dsimp only at M ⊢;rw [ja] at o i;have X:ys.flatten.length=(l.length + 1 - p) * 5:=by rw [Q.len,L]
  have r:=i;rw [qb,qb,N,X] at r;have F:=(o.takeP (b:=b) inferInstance).at;rw [D,Zoh (by omega)];refine Gb underlying188 (by kernel_rfl) o (by rw [i];exact j) (cs:=wtV x) (by show 5=Nat.min 1 _ * 5;rw [show Nat.min 1 (l.length + 1 - p)=1 from q7 (by omega)]) (by rw [i];show p * 5 + 5<=_;omega) (Zqi F) rfl λ _ w o=>?_
  refine Zi o λ w o=>⟨by omega,by omega,by omega,by omega,?_⟩;obtain ⟨_,⟨_,E,_⟩|⟨bs,U,T,Y,rfl,S,C,z⟩⟩:=Zn.cases o.swap
  ·have P:l.length=0:=by
    have:=qH List.length E;rw [u] at this;exact this
   omega
  clear w1 w2 w3;dsimp only at q m h O ⊢;rw [u] at h m;have c:=z.at;rw [Zoh (by omega),Zoh (by omega)];have k:(l.map wtV).flatten.drop (p * 5)=((l.map wtV).drop p).flatten:=(V6 l).drop_flat p;refine Gb underlying188 (by kernel_rfl) z.swap (by rw [XR,i];exact j) (cs:=((l.map wtV).drop p).flatten) (by rw [H,u,show Nat.min (l.length - p) (l.length + 1 - (p + 1))=l.length - p from q7 (by omega)])
   (by rw [XR,i,H];omega) (by rw [<-k];exact Zgd c) I λ _ w o=>?_
  rw [show (p + 1) * 5=p * 5 + (wtV x).length by rw [Zb1];omega,putN N (by rw [X,H,Zb1];omega),J] at o;have g:=Zn.of_pts (cap:=cap) (V6 _) (by rw [qb,(V6 _).len,qa,n];omega) o j;rw [qa,n] at g;refine ⟨⟨some ⟨b',0,none⟩,l.length + 1,cap⟩,rfl,?_⟩;exact Sat.cons (λ R' h=>h.drop) g
 ·-- room
  obtain ⟨_,⟨_,E,_⟩|⟨bs,rest,fr,cap,rfl,i,j,z⟩⟩:=Zn.cases o
  ·have P:l.length=0:=by
    have:=qH List.length E;rw [u] at this;exact this
   omega
  clear w1 w2 w3;dsimp only at q m h O ⊢;rw [u] at h m;have r:=i;rw [qb,(V6 l).len,u] at r;have G:5<=rest.length:=by omega
  refine ⟨by omega,by omega,by omega,by omega,?_⟩;rw [Zoh (by omega)];refine Zdt (by intro E;have K:=qH List.length E;rw [i,qN] at K;omega) z ?_;refine ⟨_,rfl,Br.t rfl ?_⟩;refine Zi z λ w z=>⟨by omega,by omega,by omega,by omega,?_⟩;rw [Zoh (by omega)];have c:=z.at;have k:(l.map wtV).flatten.drop (p * 5)=((l.map wtV).drop p).flatten:=(V6 l).drop_flat p;refine Gb underlying188 (by kernel_rfl) z (by rw [i];exact j) (cs:=((l.map wtV).drop p).flatten) (by rw [H,show Nat.min (l.length + 1 - p) (l.length + 1 - (p + 1))=l.length - p from (uO (by omega)).trans (by omega)])
   (by rw [i,H];omega) (by rw [<-k];exact Zgd c) I λ _ w o=>?_
  refine ⟨by omega,by omega,?_⟩;have F:=o.swap.at;refine Gb underlying188 (by kernel_rfl) o (by rw [XR,i];exact j) (cs:=wtV x) (by show 5=Nat.min 1 _ * 5;rw [show Nat.min 1 (l.length + 1 - p)=1 from q7 (by omega)]) (by rw [XR,i];show p * 5 + 5<=_;omega) (Zqi F) rfl λ _ w o=>?_
  rw [A,show (p + 1) * 5=p * 5 + (wtV x).length by rw [Zb1];omega,ZxX N (by rw [Zb1];exact G),J] at o;have g:=Zn.of_pts (cap:=cap) (V6 _) (by rw [qb,(V6 _).len,qa,n,qx,Zb1];omega) o j;rw [qa,n] at g;exact ⟨_,rfl,g⟩
def zvW (w:nW):(zeroValue wtT).run prog w=.ok (.agg #[nI 0,nI 0,nI 0,nI 0,xF 0]) w:=by
 rw [zeroValue192 ]
def ZgS {s:Sl} {l:List Wt} {k:Nat} (hl:l.length<=1000000000) (hk:k<l.length) (d:Sat R (Zn 5 s wtT (l.map wtV)::Hs) w):
  Zg prog 176 #[.slice s.a s.len s.cap,nI k,nI ((k + 1:Nat):Int)] w λ v w'=>∃ t:Sl,v=.slice t.a t.len t.cap/\Sat R (Zn 5 t wtT ((l.take k++l.drop (k + 1)).map wtV)::Hs) w':=by
 have o:=Zn.len d;have y:=Zn.cap (by omega) d;rw [qa] at o;apply Ztw;unfold B176;simp only [qo];refine ⟨by omega,by omega,by omega,by omega,by omega,by omega,Br.e (λ h=>by omega) (λ _=>?_)⟩;refine Zi d λ w d=>⟨by omega,by omega,by omega,by omega,?_⟩;refine Zoe (z:=.agg #[nI 0,nI 0,nI 0,nI 0,xF 0]) (i:=k) (j:=k + 1) (rows:=l.map wtV) elW.ht elW.hi zvW rfl (λ m v u=>?_) (ZeB l) (by omega) (by omega) (by rw [qa];omega) d λ t w d=>⟨t,rfl,?_⟩
 ·unfold Builtin.zeroCells at u
  rw [Array.mem_toList_iff,Array.mem_map] at u;obtain ⟨i,_,rfl⟩:=u;have g:i % 5<5:=zR _ (by omega);show ((#[nI 0,nI 0,nI 0,nI 0,xF 0]:Array Value)[i % 5]!).oneCell'=true;generalize i % 5=j at g
  match j,g with
  |0,_=>rfl
  |1,_=>rfl
  |2,_=>rfl
  |3,_=>rfl
  |4,_=>rfl
 ·rw [qe,jk,jo]
  exact d
def Zqo {q:List Wt} (h:QSt q) {i j:Nat} (a:i<j) (hj:j<q.length):q[i].ahead q[j]=true:=jU.1 h i j (by omega) hj a
def ZgQ {s:Sl} {l:List Wt} {x:Wt} (hl:l.length<=1000000000) (n:QSt l) (o:Sat R (Zn 5 s wtT (l.map wtV)::Hs) w):
  Zg prog 171 #[.slice s.a s.len s.cap,wtA x,.func (.func 172) #[] #[]] w λ v w'=>(∃ (p:Nat) (b:Bool),v=.tuple #[nI p,.bool b]/\p<=l.length/\(∀ k (h:k<l.length),k<p->l[k].ahead x=true)/\(∀ k (h:k<l.length),p<=k->l[k].ahead x=false))/\Sat R (Zn 5 s wtT (l.map wtV)::Hs) w':=by
 have q:=Zn.len o;rw [qa] at q;apply ZtB;refine Za o λ b w o=>?_;have ordC:∀ (y:Wt) w,Sat R (Zn 5 s wtT (l.map wtV)::wtC b x::Hs) w->XP prog cl (.func (.func 172) #[] #[]) [wtA y,wtA x] w (λ e w'=>e=xR (nI (y.ord x))/\Sat R (Zn 5 s wtT (l.map wtV)::wtC b x::Hs) w'):=λ y w o=>XP.mk (by kernel_rfl) ((Zk3 o).use λ v w' h=>⟨by rw [h.1],h.2⟩);have o:Sat R (Zn 5 s wtT (l.map wtV)::wtC b x::Hs) w:=Sat.swap o;refine ⟨λ i j w=>∃ a b':Nat,i=a/\j=b'/\a<=b'/\b'<=l.length/\(∀ k (h:k<l.length),k<a->l[k].ahead x=true)/\(∀ k (h:k<l.length),b'<=k->l[k].ahead x=false)/\Sat R (Zn 5 s wtT (l.map wtV)::wtC b x::Hs) w,λ i j _=>(j - i).toNat,⟨0,l.length,rfl,by omega,by omega,by omega,λ k _ hk=>by omega,λ k h hk=>by omega,o⟩,?_⟩;clear o;rintro _ _ _ w ⟨a,c,rfl,rfl,H,D,F,G,o⟩;refine Br.d (λ h=>?_) (λ h=>?_)
 ·refine Zi o λ w o=>?_
  rw [ZnS (by omega)];have hm:(a + c) / 2<l.length:=by omega
  refine (Zn.reads (S:=Sat R (Zn 5 s wtT (l.map wtV)::wtC b x::Hs)) o (λ _ h=>h)).rngM (E:=l) (g:=wtV) hm λ I _ f=>?_;refine ⟨_,_,_,_,_,f.z (by exact ⟨rfl,rfl,rfl,rfl,rfl,trivial⟩),x.id,x.cls,x.many,x.time,x.sc,oS,?_⟩;refine (ordC l[(a + c) / 2] _ o).mono ?_;clear o;rintro _ w ⟨rfl,o⟩;refine ⟨_,rfl,Br.d (λ r=>?_) (λ r=>?_)⟩
  ·have u:=Zm9.1 r
   rw [show wI ((((a + c) / 2:Nat):Int) + 1)=(((a + c) / 2 + 1:Nat):Int) from Zc]
   refine ⟨⟨(a + c) / 2 + 1,c,rfl,rfl,by omega,D,λ k hk A=>?_,G,o⟩,by dsimp only;omega⟩;by_cases m:k=(a + c) / 2
   ·subst m;exact u
   ·exact Um (Zqo n (show k<(a + c) / 2 by omega) hm) u
  ·have u:l[(a + c) / 2].ahead x=false:=by
    rw [<-jH];exact λ h=>r (Zm9.2 h)
   refine ⟨⟨a,(a + c) / 2,rfl,rfl,by omega,by omega,F,λ k hk A=>?_,o⟩,by dsimp only;omega⟩;by_cases m:k=(a + c) / 2
   ·subst m;exact u
   ·rw [<-jH] at u ⊢
    exact λ h=>u (Um (Zqo n (show (a + c) / 2<k by omega) hk) h)
 ·obtain rfl:a=c:=by omega
  have fin:∀ (t:Bool) w,Sat R (Zn 5 s wtT (l.map wtV)::wtC b x::Hs) w->(∃ (p:Nat) (b:Bool),Value.tuple #[nI a,.bool t]=.tuple #[nI p,.bool b]/\p<=l.length/\(∀ k (h:k<l.length),k<p->l[k].ahead x=true)/\(∀ k (h:k<l.length),p<=k->l[k].ahead x=false))/\Sat R (Zn 5 s wtT (l.map wtV)::Hs) w:=λ t w o=>⟨⟨a,t,rfl,D,F,G⟩,o.cons λ _ h=>h.drop⟩;refine Zi o λ w o=>?_;refine Br.d (λ r=>?_) (λ r=>fin _ _ o);have u:a<l.length:=by omega
  refine (Zn.reads (S:=Sat R (Zn 5 s wtT (l.map wtV)::wtC b x::Hs)) o (λ _ h=>h)).rngM (E:=l) (g:=wtV) u λ I _ f=>?_;refine ⟨_,_,_,_,_,f.z (by exact ⟨rfl,rfl,rfl,rfl,rfl,trivial⟩),x.id,x.cls,x.many,x.time,x.sc,oS,?_⟩;refine (ordC l[a] _ o).mono ?_;clear o;rintro _ w ⟨rfl,o⟩;exact ⟨_,rfl,fin _ _ o⟩
def ZiI {l:List Wt} {id:Int} {k:Nat} (hk:k<l.length) (h:l[k].id=id) (a:UC id (l.take k)=false):UC id l=true/\Zbd id l=l.take k++l.drop (k + 1):=by
 induction l generalizing k with
 |nil=>simp at hk
 |cons w l ih=>
  cases k with
  |zero=>
   have h:w.id=id:=h;refine ⟨by simp [UC,h],?_⟩;show (if w.id=id then l else _)=_
   rw [qf h];simp
  |succ k=>
   rw [ur] at a;have d:¬ w.id=id/\UC id (l.take k)=false:=by simpa [UC] using a
   obtain ⟨o,i⟩:=ih (by simpa using hk) (by simpa using h) d.2;refine ⟨by simp only [UC,List.any_cons];rw [show l.any _=true from o];simp,?_⟩
   show (if w.id=id then _ else w::Zbd id l)=_
   rw [qc d.1,i];simp
def Zbt {q:Nat} {l:List Wt} {id:Int} (hl:l.length<=1000000000) (a:Sat R (Yq q l::Hs) w):
  Zg prog 105 #[nP q,nI id] w λ v w'=>v=nI (ZfV l id).2/\Sat R (Yq q (ZfV l id).1::Hs) w':=by
 apply Zuq;refine (Zcy hl a).use ?_;clear a;rintro _ w ⟨⟨i,rfl,hi⟩,a⟩;refine ⟨i,rfl,Br.d (λ h=>?_) (λ h=>?_)⟩
 ·rcases hi with ⟨_,o⟩|⟨k,rfl,_⟩
  ·unfold ZfV
   rw [o];exact ⟨rfl,a⟩
  ·omega
 rcases hi with ⟨o,_⟩|⟨k,rfl,hk,o,u⟩
 ·omega
 obtain ⟨y,z⟩:=ZiI hk o u;unfold ZfV;rw [y,qf rfl,z];obtain ⟨s,a⟩:=Sat.qu.1 a;refine Zb.mk rfl ⟨s,oA a,?_⟩;rw [show wI ((k:Int) + 1)=((k + 1:Nat):Int) from Zc]
 refine (ZgS hl hk a.swap).u1 λ t w a=>?_;refine ⟨t,rfl,Zb.mk rfl ?_⟩;refine sRu a.swap λ w a=>?_;have a:=a.re (pts q (X1 t));exact ⟨rfl,Sat.qu.2 ⟨t,a⟩⟩
def ZmU {q:Nat} {l:List Wt} {x:Wt} (n:QOk l) (a:Sat R (Yq q l::Hs) w):
  Zg prog 102 #[nP q,wtA x] w λ v w'=>v=nI (WW l x).2/\Sat R (Yq q (WW l x).1::Hs) w':=by
 have hl:l.length<=1000000000:=by have:=n.len;omega
 apply Zut;refine Za a λ y w a=>?_;have a:Sat R (wtD y x::Yq q l::Hs) w:=a;refine ⟨x.id,x.cls,x.many,x.time,x.sc,oA a,?_⟩;refine Za a λ b2 w a=>?_;refine sRu a λ w a=>?_;have a:=a.re (wtC b2 x);refine ⟨x.id,x.cls,x.many,x.time,x.sc,oA a,?_⟩;refine (Zij a).u λ w a=>?_;refine ⟨_,rfl,Br.nd (λ h=>?_) (λ o=>?_)⟩
 ·unfold WW
  rw [qf h];exact ⟨rfl,a.drop.drop⟩
 refine ⟨x.id,oA a,?_⟩;have a:=a.m2;refine (Zcy hl a).use ?_;clear a;rintro _ w ⟨⟨i,rfl,hi⟩,a⟩;have close:∀ {w l},Sat R (Yq q l::wtC b2 x::wtD y x::Hs) w->Sat R (Yq q l::Hs) w:=λ h=>h.cons λ _ h=>h.drop.drop;refine ⟨i,rfl,Br.d (λ h=>?_) (λ h=>?_)⟩
 ·rcases hi with ⟨z,_⟩|⟨k,rfl,hk,z,r⟩
  ·omega
  unfold WW;rw [qc (λ h=>h o),qf (ZiI hk z r).1];exact ⟨rfl,close a⟩
 have g:UC x.id l=false:=by
  rcases hi with ⟨_,z⟩|⟨k,rfl,_⟩
  ·exact z
  ·omega
 obtain ⟨s,a⟩:=Sat.qu.1 a;have j:=Zn.len a.swap;rw [qa] at j;refine Zb.mk rfl ⟨s,oA a,Br.d (λ b=>?_) (λ b=>?_)⟩
 ·unfold WW
  rw [qc (λ h=>h o),g,qc (by simp),qf (by omega)];exact ⟨rfl,close (Sat.qu.2 ⟨s,a⟩)⟩
 have m:WW l x=(Zee x l,0):=by
  unfold WW;rw [qc (λ h=>h o),g,qc (by simp),qc (by omega)]
 rw [m];refine Zi a λ w a=>Zb.mk rfl ?_;refine ⟨s,oS,x.id,x.cls,x.many,x.time,x.sc,oS,?_⟩;refine (ZgQ hl n.st a.swap).use ?_;clear a;rintro _ w ⟨⟨p,A,rfl,f,z,r⟩,a⟩;refine ⟨_,_,rfl,?_⟩;refine Zj (Sat R [pts q (X1 s),wtC b2 x,VC.tru]) a (λ w a=>?_) λ w a=>?_
 ·exact (a.arr (Hs':=pts q (X1 s)::wtC b2 x::Zn 5 s wtT (l.map wtV)::wtD y x::Hs)).cons λ _ h=>h.restTru2
 refine Zb.mk rfl ⟨s,oS,x.id,x.cls,x.many,x.time,x.sc,oS,?_⟩;refine Za a λ b3 w a=>?_;have a:Sat R (wtC b3 x::Zn 5 s wtT (l.map wtV)::pts q (X1 s)::wtC b2 x::wtD y x::Hs) w:=a;refine ⟨?_,?_⟩
 ·exact (a.arr (Hs':=pts q (X1 s)::wtC b2 x::Zn 5 s wtT (l.map wtV)::wtD y x::wtC b3 x::Hs)).cons λ _ h=>h.restTru2
 refine (ZgR hl f a.swap).u1 λ t w a=>?_;refine ⟨t,rfl,?_,Zb.mk rfl ?_⟩
 ·exact (a.arr (Hs':=pts q (X1 s)::wtC b2 x::Zn 5 t wtT ((l.take p++x::l.drop p).map wtV)::wtD y x::wtC b3 x::Hs)).cons λ _ h=>h.restTru2
 have a:=a.b2.b4;refine sRu a λ w a=>?_;have a:=a.re (pts q (X1 t));have e:Zee x l=l.take p++x::l.drop p:=by
  refine ZrP n.st ?_ (λ h=>r p h (jc _)) f;by_cases c:p=0
  ·exact .inl c
  ·exact .inr ⟨by omega,z (p - 1) (by omega) (by omega)⟩
 rw [e];exact ⟨rfl,Sat.qu.2 ⟨t,a.cons λ _ h=>h.cons λ _ h=>h.drop.drop.drop⟩⟩
def Zcz {l:List Wt} {left:List Int} {j:Nat} (hj:j<l.length) (h:(l.take j).any (WZ left)=false) (d:WZ left l[j]=true):Ys l left=some l[j]:=by
 unfold Ys;rw [List.find?_eq_some_iff_append];refine ⟨d,l.take j,l.drop (j + 1),by rw [<-qv hj,qD],λ x o=>?_⟩;rw [<-jH,vg] at h;cases a:WZ left x with
 |false=>rfl
 |true=>exact absurd ⟨x,o,a⟩ h
def Zd0 {l:List Wt} {left:List Int} (h:l.any (WZ left)=false):Ys l left=none:=by
 unfold Ys;rw [List.find?_eq_none];intro x d a;rw [<-jH,vg] at h;exact h ⟨x,d,a⟩
def Zfv {left:List Int} {x:Wt} (h:¬ (x.cls<left.length/\x.many<=left.getD x.cls.toNat 0)):WZ left x=false:=by
 unfold WZ;rw [<-jH,ql,qR,qR];exact h
def XJ:Wt:=⟨0,0,0,0,0⟩
def Zik {q:Nat} {l:List Wt} {sl:Sl} {left:List Int} (p:QOk l) (r:RoI R sl left) (o:Sat R (Yq q l::Hs) w):
  Zg prog 174 #[nP q,.slice sl.a sl.len sl.cap] w λ v w'=>v=.tuple #[wtA ((Ys l left).getD XJ),.bool (Ys l left).isSome]/\Sat R (Yq q l::Hs) w':=by
 have hl:l.length<=1000000000:=by have:=p.len;omega
 have e:=r.len;obtain ⟨s,o⟩:=Sat.qu.1 o;apply Zty;refine Za o λ b w o=>?_;have o:Sat R (Zn 5 s wtT (l.map wtV)::pts q (X1 s)::wtD b XJ::Hs) w:=by
  have o:Sat R (wtD b XJ::pts q (X1 s)::Zn 5 s wtT (l.map wtV)::Hs) w:=o;exact o.arr
 have k:=Zn.len o;rw [qa] at k;refine Zb.mk rfl ⟨s,oA o,?_⟩;have close:∀ {w x},Sat R (Zn 5 s wtT (l.map wtV)::pts q (X1 s)::wtD b x::Hs) w->Sat R (Yq q l::Hs) w:=λ {w x} h=>by
  have h:Sat R (pts q (X1 s)::Zn 5 s wtT (l.map wtV)::wtD b x::Hs) w:=h.swap;exact Sat.qu.2 ⟨s,h.cons λ _ h=>h.cons λ _ h=>h.drop⟩
 refine ⟨λ i w=>∃ j:Nat,i=j/\j<=l.length/\(l.take j).any (WZ left)=false/\Sat R (Zn 5 s wtT (l.map wtV)::pts q (X1 s)::wtD b XJ::Hs) w,λ i _=>l.length - i.toNat,⟨0,rfl,by omega,by simp,o⟩,?_⟩;clear o;rintro _ _ w ⟨j,rfl,hj,m,o⟩;refine Br.d (λ h=>?_) (λ h=>?_)
 ·have u:j<l.length:=by omega
  have f:=p.ok l[j] (qh u);have next:WZ left l[j]=false->(l.take (j + 1)).any (WZ left)=false:=λ h=>by
   rw [qp,List.getElem?_eq_getElem u,vF,m];simp [h]
  rw [Zc (x:=(j:Int) + 1)];refine (Zn.reads o (eqS o)).rngM (E:=l) (g:=wtV) u λ a _ c=>?_;refine ⟨_,_,_,_,_,c.z (by exact ⟨rfl,rfl,rfl,rfl,rfl,trivial⟩),?_⟩;refine Za o λ b2 w o=>?_;refine sRu o λ w o=>?_;have o:=o.re (wtC b2 l[j]);refine Zi o λ w o=>?_;refine ⟨l[j].cls,oS,Br.d (λ t=>?_) (λ t=>⟨⟨j + 1,by omega,by omega,next (Zfv λ h=>t (by omega)),o.drop⟩,by dsimp only;omega⟩)⟩;have A:l[j].cls=(l[j].cls.toNat:Int):=by have:=f.2.1.1;omega
  have y:l[j].cls.toNat<left.length:=by omega
  refine ⟨l[j].many,oS,l[j].cls,oS,?_⟩;refine Ro.ix r (λ _ h=>h) l[j].cls.toNat A y ?_;refine Br.d (λ n=>?_) (λ n=>⟨⟨j + 1,by omega,by omega,next (Zfv λ h=>n ?_),o.drop⟩,by dsimp only;omega⟩)
  ·have D:WZ left l[j]=true:=by
    unfold WZ;rw [ql,qR,qR];refine ⟨by omega,?_⟩;rw [List.getD_eq_getElem?_getD,List.getElem?_eq_getElem y];exact n
   refine ⟨l[j].id,l[j].cls,l[j].many,l[j].time,l[j].sc,oA o,?_⟩;have o:=o.m3;refine ZO o (by kernel_rfl) rfl (by simp [Value.cells,wtV]) λ w o=>?_;have o:=o.re (wtD b l[j]);refine ⟨l[j].id,l[j].cls,l[j].many,l[j].time,l[j].sc,oA o,?_⟩;have o:=o.b3;rw [Zcz u m D];exact ⟨rfl,close o.drop⟩
  ·have:=h.2
   rwa [List.getD_eq_getElem?_getD,List.getElem?_eq_getElem y] at this
 ·rw [qg (by omega)] at m
  have o:=o.m2;refine ZO o (by kernel_rfl) rfl (by simp [Value.cells,wtV]) λ w o=>?_;have o:=o.re (wtD b XJ);refine ⟨0,0,0,0,0,oA o,?_⟩;rw [Zd0 m];have o:=o.b2;exact ⟨rfl,close o⟩
def ZuF:ElN prog 100 100 168 5 40:=⟨underlying100,⟨_,underlying100⟩,by kernel_rfl⟩
def ZmT {q:Nat} {l:List Wt} (hl:l.length<=1000000000) (o:Sat R (Yq q l::Hs) w):
  Zg prog 56 #[nP q] w λ v w'=>∃ t:Sl,v=.slice t.a t.len t.cap/\Sat R (Zn 5 t 168 (l.map wtV)::Yq q l::Hs) w':=by
 obtain ⟨s,o⟩:=Sat.qu.1 o;apply ZvQ;refine Zb.mk rfl ⟨s,oA o,?_⟩;have u:=Zn.len o.swap;rw [qa] at u;refine ⟨λ t i w=>∃ j:Nat,i=j/\j<=l.length/\Sat R (Zn 5 t 168 ((l.take j).map wtV)::Zn 5 s wtT (l.map wtV)::pts q (X1 s)::Hs) w,λ _ i _=>l.length - i.toNat,⟨0,rfl,by omega,Zn.nil o.swap⟩,?_⟩;clear o;rintro _ t _ w ⟨j,rfl,hj,o⟩;refine Br.d (λ h=>?_) (λ h=>?_)
 ·have y:j<l.length:=by omega
  have k:=o.swap;refine (Zn.reads k (S:=λ w'=>w'=w) (Hs':=Zn 5 t 168 ((l.take j).map wtV)::pts q (X1 s)::Hs) (λ w' e=>by rw [e];exact k)).rngM (E:=l) (g:=wtV) y λ a _ m=>?_;refine ⟨_,_,_,_,_,m.z (by exact ⟨rfl,rfl,rfl,rfl,rfl,trivial⟩),?_⟩;refine Za o λ b2 w o=>?_;refine sRu o λ w o=>?_;have o:=o.re (wtC b2 l[j]);refine ⟨l[j].id,l[j].cls,l[j].many,l[j].time,l[j].sc,oA o,?_⟩;have o:=o.drop;refine UX (x:=wtV l[j]) ZuF o rfl rfl (by rw [qa,qd];omega) (by rw [qa,qd];omega) λ t2 w o=>⟨?_,?_⟩
  ·refine ⟨j + 1,Zc,by omega,?_⟩
   rw [qp,List.getElem?_eq_getElem y,qe];exact o
  ·rw [Zc (x:=(j:Int) + 1)]
   dsimp only;omega
 ·rw [qg (by omega)] at o
  exact ⟨t,rfl,o.cons λ _ h=>Sat.qu.2 ⟨s,h.swap⟩⟩
theorem ZrL : (f285.name == "runtime.NumGoroutine") = false := by kernel_rfl
def ZrN:f285.body.isNone=true:=by kernel_rfl
def ZrK:Extern.findNext f285=none:=by kernel_rfl
def ZrM:Extern.find f285=some Extern.BytealgIndexByte.indexByte:=by kernel_rfl
abbrev Zcd:ByteArray:=ByteArray.mk #[65,66,67,68,69,70,71,72,74,75,76,77,78,80,81,82,84,85,86,87,88,89,90,50,51,52,53,54,55,56,57]
def Zu2:(List.range 256).all (λ c=>Lib.indexByte Zcd.data.toList c.toUInt8==ZA c && (decide (ZA c<0)||decide (c<=90)))=true:=by kernel_rfl
def Zfj {c:Int} (h:0<=c/\c<256):Lib.indexByte Zcd.data.toList c.toNat.toUInt8=ZA c/\(ZA c<0\/c<=90):=by
 have:=qW.1 Zu2 c.toNat (jC.2 (by omega));rw [ql,jy,qR,qR,jh,show ((c.toNat:Nat):Int)=c by omega] at this;exact ⟨this.1,this.2.imp id (by omega)⟩
def Zcc {c:Int} (h:0<=c/\c<256) (a:Sat R Hs w):Zg prog 183 #[xZ Zcd,.int .u8 c] w λ v w'=>v=nI (ZA c)/\Sat R Hs w':=by
 apply Ztq;have d:Zg prog 255 #[xZ Zcd,.int .u8 c] w λ v w'=>v=nI (ZA c)/\Sat R Hs w':=by
  apply ZsD;refine ⟨nI (ZA c),w,?_,_,rfl,rfl,a⟩;rw [run_callFunc_extern func285 ZrL ZrN ZrK ZrM,Lib.run_indexByteString,(Zfj h).1];rfl
 refine d.u λ w a=>?_;exact ⟨_,rfl,rfl,a⟩
abbrev Uo (b:Nat) (n:Int):HP:=pts b (.cells [nI n].toArray 3 (0,0))
def Zbj (h:Sat R Hs w):Zg prog 182 #[] w λ v w'=>∃ a b2,v=.func (.func 254) #[] #[nP a,nP b2]/\Sat R (Uo a 0::Uo b2 2::Hs) w':=by
 apply Ztr;refine Za h λ a w h=>Za h λ b2 w h=>?_;have h:Sat R (Uo a 0::Uo b2 0::Hs) w:=Sat.swap h;refine sRu h λ w h=>?_;have h:=(h.re (Uo a 0)).swap;refine sRu h λ w h=>?_;have h:=(h.re (Uo b2 2)).swap;exact ⟨a,b2,rfl,h⟩
def Zf5 {a b2:Nat} {s k d:Int} (hs:0<=s/\s<31) (hk:0<=k/\k<=100) (hd:0<=d/\d<31) (h:Sat R (Uo a s::Uo b2 k::Hs) w):
  Zg prog 254 #[nI d,nP a,nP b2] w λ v w'=>v=nI ((s + k * d) % 31)/\Sat R (Uo a ((s + k * d) % 31)::Uo b2 (k + 1)::Hs) w':=by
 have o:0<=k * d/\k * d<=100 * 31:=⟨uB hk.1 hd.1,zl hk.2 (by omega) hd.1 (by omega)⟩;apply ZsE;refine Zb.mk rfl ⟨s,oA h,Zb.mk rfl ⟨k,oA h,?_⟩⟩;rw [Zc (x:=k * d),Zc (x:=s + k * d),jj (by omega)];refine sRu h λ w h=>?_;have h:=(h.re (Uo a ((s + k * d) % 31))).swap;refine Zb.mk rfl ⟨k,oA h,?_⟩;rw [Zc (x:=k + 1)];refine sRu h λ w h=>?_;have h:=(h.re (Uo b2 (k + 1))).swap;exact Zb.mk rfl ⟨_,oA h,rfl,h⟩
def Zf1 {l:List Int} {d:Int} {k:Nat} (hk:l.length=k):(Vp 2 l % 31 + (2 + (k:Int)) * d) % 31=Vp 2 (l++[d]) % 31:=by
 rw [Zo5,hk];simp only [Vp,Int.add_zero];rw [Int.emod_add_emod]
def p31 {k:Nat} (h:k<5):(31:Int) ^ k<=923521:=by
 rcases (show k=0\/k=1\/k=2\/k=3\/k=4 by omega) with rfl|rfl|rfl|rfl|rfl<;>simp
def ZjK {bs:List Int} (h:∃ c∈bs,ZA c<0):Xj bs=(0,6):=by
 unfold Xj;rw [qf (.inr h)]
def ZlV {l:List Int} (h:∀ c∈l,0<=ZA c):∀ d∈l.map ZA,0<=d/\d<31:=by
 intro d hd;obtain ⟨c,a,rfl⟩:=qm.1 hd;have o:=h c a;have:=ZeD c;omega
def Zk9 {s:ByteArray} (a:Sat R Hs w):Zg prog 108 #[xZ s] w λ v w'=>v=.tuple #[nI (Xj (ZE s)).1,nI (Xj (ZE s)).2]/\Sat R Hs w':=by
 apply Zun
 suffices H:∀ K:Value->xE,(∀ w',Sat R Hs w'->K (.tuple #[nI (Xj (ZE s)).1,nI (Xj (ZE s)).2]) w')->B108 s K w from H _ λ w' h=>⟨rfl,h⟩
 intro K hK;have N:=Yf s;obtain ⟨bs,p⟩:=xx (ZE s);rw [<-p] at hK N;refine Br.ne (λ h=>?_) (λ h=>?_)
 ·have:=hK w a
  unfold Xj at this;rw [qf (.inl (by omega))] at this;exact this
 have g:s.size=6:=by omega
 have F:bs.length=6:=by omega
 refine (Zbj a).use ?_;clear a;rintro _ w ⟨D,b2,rfl,a⟩;refine ⟨_,rfl,?_⟩;refine Za a λ E w a=>?_;refine ⟨λ n O w=>∃ k:Nat,k<=6/\(∀ c∈bs.take k,0<=ZA c)/\n=Ze9 ((bs.take (min k 5)).map ZA)/\O=Vp 2 ((bs.take (min k 5)).map ZA) % 31/\(k=6->(Vp 2 ((bs.take 5).map ZA) + ZA (bs.getD 5 0)) % 31=0)/\
  Sat R (pts E (.stringIter s k)::Uo D (Vp 2 ((bs.take (min k 5)).map ZA) % 31)::Uo b2 (2 + (min k 5:Nat))::Hs) w,λ _ _ w=>ZeK E w,⟨0,by omega,by simp,by simp [Ze9],by simp [Vp],by omega,by simpa [Vp] using a⟩,?_⟩
 clear a;rintro _ _ _ w ⟨k,hk,y,rfl,rfl,q,a⟩;have hm:ZeK E w=6 - k:=by rw [ZaP a,g]
 refine Zk8 a (λ Q w a=>?_) (λ T=>?_)
 ·rw [g] at Q
  have j:k<bs.length:=by omega
  have r:0<=bs[k]/\bs[k]<256:=by
   subst p;exact ZhC s _ (qh _)
  have G:((s.get! k).toNat:Int)=bs[k]:=by subst p;exact ZhA (by omega)
  have err:∀ {w A},ZA bs[k]<0->Sat R (A::Uo D (Vp 2 ((bs.take (min k 5)).map ZA) % 31)::Uo b2 (2 + (min k 5:Nat))::Hs) w->K (.tuple #[nI 0,nI 6]) w:=λ {w A} h a=>by
   have:=hK w a.drop.drop.drop;rw [ZjK ⟨_,qh j,h⟩] at this;exact this
  by_cases I:(s.get! k).toNat<128
  ·rw [Zvd I] at a ⊢
   dsimp only at a ⊢;rw [G];rw [show IntKind.u8.wrap bs[k]=bs[k] by rw [IntKind.wrap_u8];omega];refine (Zcc r a).u λ w a=>?_;have P:=(Zfj r).2;refine ⟨_,rfl,λ t w=>(t=true↔ZA bs[k]<0)/\Sat R (pts E (.stringIter s (k + 1))::Uo D (Vp 2 ((bs.take (min k 5)).map ZA) % 31)::Uo b2 (2 + (min k 5:Nat))::Hs) w,?_,?_⟩
   ·exact Br.d (λ h=>⟨⟨λ _=>h,λ _=>rfl⟩,a⟩) (λ h=>⟨⟨λ J=>by have:=qF J;omega,λ J=>absurd J h⟩,a⟩)
   clear a;rintro _ t w ⟨ht,a⟩;refine Br.mk (λ h=>err (ht.1 h) a) (λ h=>?_);have U:0<=ZA bs[k]:=by
    rw [<-jH] at h;have:¬ ZA bs[k]<0:=λ J=>h (ht.2 J);omega
   have V:0<=ZA bs[k]/\ZA bs[k]<31:=by have:=ZeD bs[k];omega
   have o:∀ c∈bs.take (k + 1),0<=ZA c:=λ c i=>by
    rw [qp,List.getElem?_eq_getElem j] at i;rcases qt.1 i with i|i
    ·exact y c i
    ·simp at i;rw [i];exact U
   have f:0<=Vp 2 ((bs.take (min k 5)).map ZA) % 31/\Vp 2 ((bs.take (min k 5)).map ZA) % 31<31:=by omega
   refine Br.d (λ h5=>?_) (λ h5=>?_)
   ·have b:k<5:=by omega
    rw [show min k 5=k by omega] at a f ⊢;have L:(bs.take k).length=k:=by rw [qd];omega
    have a:=a.b2;have l:XP prog cl (.func (.func 254) #[] #[nP D,nP b2]) [nI (ZA bs[k])] w λ e w'=>e=xR (nI ((Vp 2 ((bs.take k).map ZA) % 31 + (2 + (k:Int)) * ZA bs[k]) % 31))/\Sat R (Uo D ((Vp 2 ((bs.take k).map ZA) % 31 + (2 + (k:Int)) * ZA bs[k]) % 31)::Uo b2 (2 + (k:Int) + 1)::pts E (.stringIter s (k + 1))::Hs) w':=
     XP.mk (by kernel_rfl) ((Zf5 f (by omega) V a).use λ v w' h=>⟨by rw [h.1],h.2⟩)
    refine l.mono ?_;clear a l;rintro _ w ⟨rfl,a⟩;have m:(bs.take (k + 1)).map ZA=(bs.take k).map ZA++[ZA bs[k]]:=by
     rw [qp,List.getElem?_eq_getElem j,qe];rfl
    rw [Zf1 (by rw [qa,L]),<-m] at a ⊢;have W:=Znr (ZlV y);rw [qa,L] at W;have B:=p31 b;refine ⟨_,rfl,⟨k + 1,by omega,o,?_,?_,λ h=>by omega,?_⟩,?_⟩
    ·rw [show min (k + 1) 5=k + 1 by omega,m,ZjL,Zc (x:=Ze9 ((bs.take k).map ZA) * 31) (by omega) (by omega),Zc]
    ·rw [show min (k + 1) 5=k + 1 by omega]
    ·rw [show min (k + 1) 5=k + 1 by omega,show (2:Int) + ((k + 1:Nat):Int)=2 + (k:Int) + 1 by omega]
     exact a.arr
    ·have a:=a.m2
     rw [ZaP a,g,hm];omega
   ·have b:k=5:=by omega
    subst b;rw [show min 5 5=5 from rfl] at a f
    have X:bs.getD 5 0=bs[5]:=by rw [List.getD_eq_getElem?_getD,List.getElem?_eq_getElem j];rfl
    have e1:(Vp 2 ((bs.take 5).map ZA) % 31 + ZA bs[5]) % 31=(Vp 2 ((bs.take 5).map ZA) + ZA (bs.getD 5 0)) % 31:=by rw [X];omega
    rw [show min 5 5=5 from rfl,Zc,jj (by omega)]
    have z:¬ ∃ c∈bs,ZA c<0:=by
     rintro ⟨c,i,h⟩;have:=o c (by rw [qg (by omega)];exact i);omega
    refine Br.ne (λ Y=>?_) (λ he=>?_)
    ·have:=hK w a.drop.drop.drop
     unfold Xj at this;rw [qc (λ h=>h.elim (λ h=>h F) z),qf (by rw [<-e1];exact Y)] at this;exact this
    ·refine ⟨⟨6,by omega,o,by rw [show min 6 5=5 from rfl],by rw [show min 6 5=5 from rfl],λ _=>by rw [<-e1];exact he,?_⟩,?_⟩
     ·rw [show min 6 5=5 from rfl]
      exact a
     ·rw [ZaP a,g,hm]
      omega
  ·have h0:=Zve I
   obtain ⟨c,i⟩:=xx (((Utf8.decode s k).1:Int):Int);rw [<-i];have S:128<=c:=by omega
   have M:ZA bs[k]<0:=by
    have:=(Zfj r).2;omega
   refine (Zcc (by rw [IntKind.wrap_u8];omega) a).u λ w a=>?_;refine ⟨_,rfl,λ t w=>t=true/\Sat R (pts E (.stringIter s (k + (Utf8.decode s k).2))::Uo D (Vp 2 ((bs.take (min k 5)).map ZA) % 31)::Uo b2 (2 + (min k 5:Nat))::Hs) w,?_,?_⟩
   ·exact Br.d (λ _=>⟨rfl,a⟩) (λ _=>⟨qE (by omega),a⟩)
   clear a;rintro _ t w ⟨rfl,a⟩;exact Br.t rfl (err M a)
 ·have C:k=6:=by omega
  subst C;have z:¬ ∃ c∈bs,ZA c<0:=by
   rintro ⟨c,i,h⟩;have:=y c (by rw [qg (by omega)];exact i);omega
  have:=hK w a.drop.drop.drop;unfold Xj at this;rw [qc (λ h=>h.elim (λ h=>h F) z),qc (λ h=>h (q rfl))] at this;exact this
abbrev outB (b:Nat) (l:List Int):HP:=pts b (.cells (b8 l).toArray 255 (0,0))
abbrev ZlU (b:Nat) (l:List Int):HP:=pts b (.cells (Zd l).toArray 256 (0,0))
def ZoX:Nat->Int->List Int
 |0,_=>[0,0,0,0,0]
 |1,n=>[0,0,0,0,n % 31]
 |2,n=>[0,0,0,n / 31 % 31,n % 31]
 |3,n=>[0,0,n / 961 % 31,n / 31 % 31,n % 31]
 |4,n=>[0,n / 29791 % 31,n / 961 % 31,n / 31 % 31,n % 31]
 |_,n=>WG n
def ZoY:Nat->Int->Int
 |0,n=>n
 |1,n=>n / 31
 |2,n=>n / 961
 |3,n=>n / 29791
 |4,n=>n / 923521
 |_,_=>0
def Zjk {n:Int} (h:0<=n/\n<28629151):∀ {k:Nat},k<5->0<=ZoY k n/\ZoY k n<28629151/\ZoY (k + 1) n=ZoY k n / 31/\Vz (Zd (ZoX k n)) (0 + (4 - k)) [nI (ZoY k n % 31)]=Zd (ZoX (k + 1) n)
 |0,_=>⟨h.1,h.2,rfl,rfl⟩
 |1,_=>⟨by show 0<=n / 31;omega,by show n / 31<_;omega,by show n / 961=n / 31 / 31;omega,rfl⟩
 |2,_=>⟨by show 0<=n / 961;omega,by show n / 961<_;omega,by show n / 29791=n / 961 / 31;omega,rfl⟩
 |3,_=>⟨by show 0<=n / 29791;omega,by show n / 29791<_;omega,by show n / 923521=n / 29791 / 31;omega,rfl⟩
 |4,_=>⟨by show 0<=n / 923521;omega,by show n / 923521<_;omega,by show 0=n / 923521 / 31;omega,rfl⟩
def Zjl {n:Int}:∀ {k:Nat},k<=5->(ZoX k n).length=5
 |0,_=>rfl|1,_=>rfl|2,_=>rfl|3,_=>rfl|4,_=>rfl|5,_=>rfl
def ZlQ (n:Int) (k:Nat):List Int:=((WG n).take k).map Vw++List.replicate (6 - k) 0
def Zm6 {n:Int}:∀ {k:Nat} (hk:k<5),Vz (b8 (ZlQ n k)) (0 + k) [.int .u8 (Vw ((WG n)[k]'hk))]=b8 (ZlQ n (k + 1))
 |0,_=>rfl|1,_=>rfl|2,_=>rfl|3,_=>rfl|4,_=>rfl
def Zpz {n:Int}:Vz (b8 (ZlQ n 5)) 5 [.int .u8 (Vw (ZlS n))]=b8 (ZpK n):=rfl
def ZjA {n:Int}:∀ {k:Nat},k<=5->(b8 (ZlQ n k)).length=6
 |0,_=>rfl|1,_=>rfl|2,_=>rfl|3,_=>rfl|4,_=>rfl|5,_=>rfl
def ZbI {d:Int} (h:0<=d/\d<31):Zcd[d.toNat]? =some (UInt8.ofNat (Vw d).toNat)/\((UInt8.ofNat (Vw d).toNat).toNat:Int)=Vw d:=by
 have:∀ j:Fin 31,Zcd[j.val]? =some (UInt8.ofNat (G2.getD j.val 0).toNat)/\((UInt8.ofNat (G2.getD j.val 0).toNat).toNat:Int)=G2.getD j.val 0:=by decide
 exact this ⟨d.toNat,by omega⟩
def ZpI {n:Int} (E:0<=n/\n<28629151) (a:Sat R Hs w):Zg prog 121 #[nI n] w λ v w'=>v=.tuple #[xZ (ZrH n),nI 0]/\Sat R Hs w':=by
 apply Zua;refine ⟨λ w=>Sat R Hs w,Br.d (λ h=>by omega) (λ _=>Br.d (λ h=>by omega) (λ _=>a)),?_⟩;clear a;rintro _ w a;refine Za a λ u w a=>Za a λ y w a=>?_;have a:Sat R (ZlU y (ZoX 0 n)::outB u (ZlQ n 0)::Hs) w:=a;refine ⟨λ m i w=>∃ k:Nat,k<=5/\m=ZoY k n/\i=4 - (k:Int)/\Sat R (ZlU y (ZoX k n)::outB u (ZlQ n 0)::Hs) w,λ _ i _=>(i + 1).toNat,⟨0,by omega,rfl,rfl,a⟩,?_⟩;clear a;rintro _ _ _ w ⟨k,hk,rfl,rfl,a⟩;refine Br.d (λ h=>?_) (λ h=>?_)
 ·have o:k<5:=by omega
  obtain ⟨D,J,F,G⟩:=Zjk E o;rw [jj D,j6 D,Zc (x:=ZoY k n / 31),Zc (x:=4 - (k:Int) - 1)];refine Rng.mk (by omega) (by omega) ?_;rw [Zs,show (4 - (k:Int)).toNat=4 - k by omega];refine ZO a (by kernel_rfl) rfl (by rw [qa,Zjl (by omega)];show 0 + (4 - k) + 1<=5;omega) λ w a=>?_;have a:Sat R (ZlU y (ZoX (k + 1) n)::outB u (ZlQ n 0)::Hs) w:=by
   unfold ZlU;rw [<-G];exact a
  exact ⟨⟨k + 1,by omega,F.symm,by omega,a⟩,by dsimp only;omega⟩
 ·have o:k=5:=by omega
  subst o;refine (Zbj a).use ?_;clear a;rintro _ w ⟨z,b2,rfl,a⟩;have a:Sat R (Uo z 0::Uo b2 2::ZlU y (WG n)::outB u (ZlQ n 0)::Hs) w:=a;have a:=a.m3.m3;have l:Sat R (outB u (ZlQ n 0)::Uo z 0::Uo b2 2::ZlU y (WG n)::Hs) w:=a.arr;refine ⟨_,rfl,Zd (WG n),rfl,oA a,?_⟩;refine ⟨λ r i w=>∃ k:Nat,i=k/\k<=5/\r=Vp 2 ((WG n).take k) % 31/\Sat R (outB u (ZlQ n k)::Uo z (Vp 2 ((WG n).take k) % 31)::Uo b2 (2 + (k:Int))::ZlU y (WG n)::Hs) w,λ _ i _=>(5 - i).toNat,⟨0,rfl,by omega,rfl,l⟩,?_⟩;clear a l;rintro _ _ _ w ⟨k,rfl,hk,rfl,a⟩;refine Br.d (λ h=>?_) (λ h=>?_)
  ·have o:k<5:=by omega
   have j:k<(WG n).length:=o;have hd:=Zoa n _ (qh j);obtain ⟨t,f⟩:=ZbI hd;refine Rng.mk (by omega) (by omega) ⟨(WG n)[k],?_,_,hd.1,t,?_⟩
   ·rw [qo,List.getElem?_toArray,List.getElem?_map,List.getElem?_eq_getElem j]
    rfl
   refine Rng.mk (by omega) (by omega) ?_;rw [Zs,qo,f];refine ZO a (by kernel_rfl) rfl (by rw [ZjA (by omega)];show 0 + k + 1<=6;omega) λ w a=>?_;have a:Sat R (outB u (ZlQ n (k + 1))::Uo z (Vp 2 ((WG n).take k) % 31)::Uo b2 (2 + (k:Int))::ZlU y (WG n)::Hs) w:=by
    unfold outB;rw [<-Zm6 (n:=n) o];exact a
   have b:0<=Vp 2 ((WG n).take k) % 31/\Vp 2 ((WG n).take k) % 31<31:=by omega
   have a:=a.b2;have g:XP prog cl (.func (.func 254) #[] #[nP z,nP b2]) [nI (WG n)[k]] w λ e w'=>e=xR (nI ((Vp 2 ((WG n).take k) % 31 + (2 + (k:Int)) * (WG n)[k]) % 31))/\Sat R (Uo z ((Vp 2 ((WG n).take k) % 31 + (2 + (k:Int)) * (WG n)[k]) % 31)::Uo b2 (2 + (k:Int) + 1)::outB u (ZlQ n (k + 1))::ZlU y (WG n)::Hs) w':=
    XP.mk (by kernel_rfl) ((Zf5 b (by omega) hd a).use λ v w' h=>⟨by rw [h.1],h.2⟩)
   refine g.mono ?_;clear a g;rintro _ w ⟨rfl,a⟩;have c:((WG n).take k).length=k:=by rw [qd];omega
   have p:(WG n).take (k + 1)=(WG n).take k++[(WG n)[k]]:=by
    rw [qp,List.getElem?_eq_getElem j];rfl
   rw [Zf1 c,<-p] at a ⊢;rw [Zc (x:=(k:Int) + 1)];refine ⟨_,rfl,⟨k + 1,by omega,by omega,rfl,?_⟩,by dsimp only;omega⟩;rw [show (2:Int) + ((k + 1:Nat):Int)=2 + (k:Int) + 1 by omega];exact a.arr
  ·have o:k=5:=by omega
   subst o;have q:=Zos n;have e:(31 - Vp 2 ((WG n).take 5) % 31).tmod 31=ZlS n:=by
    rw [qg (by exact jc 5),jj (by omega)];rfl
   rw [Zc (x:=31 - Vp 2 ((WG n).take 5) % 31) (by omega) (by omega),e];obtain ⟨t,f⟩:=ZbI q;refine ⟨_,q.1,t,?_⟩;rw [Zs,f];refine ZO a (by kernel_rfl) rfl (by rw [ZjA (by omega)];show 0 + 5 + 1<=6;omega) λ w a=>?_;have a:Sat R (outB u (ZpK n)::Uo z (Vp 2 ((WG n).take 5) % 31)::Uo b2 (2 + ((5:Nat):Int))::ZlU y (WG n)::Hs) w:=by
    unfold outB;rw [<-Zpz (n:=n)];exact a
   have A:Sat R (Own ⟨some ⟨u,0,none⟩,6,6⟩ 255 (b8 (ZpK n))::Uo z (Vp 2 ((WG n).take 5) % 31)::Uo b2 (2 + ((5:Nat):Int))::ZlU y (WG n)::Hs) w:=YL (n:=6) a;obtain ⟨L,H,_,I,_⟩:=Own.lend A (by rw [qa,Zfa];omega);refine ⟨_,rfl,VC.strOf (ZpK n),λ w' e=>?_,?_⟩
   ·rw [show w'=w from e]
    exact Uk (s:=⟨some ⟨u,0,none⟩,6,6⟩) (xs:=ZpK n) underlying47 underlying5 underlying9 I H
   ·exact ⟨rfl,a.drop.drop.drop.drop⟩
def ZeL {A C:List HP} {x:HP}:Sat R (XS (A++x::C)::Hs) w↔Sat R (x::XS (A++C)::Hs) w:=by
 have a:((A++x::C)++Hs).Perm (x::((A++C)++Hs)):=qY.append_right Hs;constructor
 ·intro h
  exact ((Sat.star.1 h).perm a).cons λ _ h=>Sat.star.2 h
 ·intro h
  have d:Sat R (x::((A++C)++Hs)) w:=h.cons λ _ h=>Sat.star.1 h;exact Sat.star.2 (d.perm a.symm)
def Wf {A C:List FE} {f q:Nat} {p:Pl}:Sat R (Zt (A++(f,q,p)::C)::Hs) w↔Sat R (Zm f p.r::Yq q p.q::Zt (A++C)::Hs) w:=by
 unfold Zt;rw [qe,qi,ZeL,qe];exact Sat.star
def Vm {A C:List BE} {a:Nat} {x:Bk}:Sat R (Zu (A++(a,x)::C)::Hs) w↔Sat R (pts a (ZZ x)::Zu (A++C)::Hs) w:=by
 unfold Zu;rw [qe,qi,ZeL,qe];exact zU
def Zfr {β:Type} {k:Int} {v:β} {a b:List (Int × β)} (h:∀ e∈a,e.1≠k):ZL k (a++(k,v)::b)=some v:=ZjT (GL.2 h) (by simp)
def Zp2 {β:Type} {k:Int} {v:β} {a b:List (Int × β)} (h:∀ e∈a,e.1≠k):GT k (a++(k,v)::b)=a++b:=Ga (GL.2 h) (by simp)
structure ZfT (A C:List FE) (n:Int) (p:Pl):Prop where
 num:p.n=n
 a:∀ e∈A,e.2.2.n≠n
 c:∀ e∈C,e.2.2.n≠n
structure ZoW (A C:List BE) (x:Bk):Prop where
 a:∀ e∈A,e.2.id≠x.id
 c:∀ e∈C,e.2.id≠x.id
def Ug {b:ZF} {fs:List FE} {xs:List BE} (hl:Xo b fs xs) (c:X8 Pl.n b.fl) {n:Int} {p:Pl} (h:b.at n=some p):∃ A f q C,fs=A++(f,q,p)::C/\ZfT A C n p:=by
 have i:=Uz h;obtain ⟨⟨f,q,u⟩,y,v⟩:=qm.1 (hl.fl.mem_iff.2 i.1);dsimp only at v;subst v;obtain ⟨A,C,rfl⟩:=j5 y;have d:((A++(f,q,u)::C).map λ e=>e.2.2).Pairwise λ a b=>a.n≠b.n:=(hl.fl.pairwise_iff (λ h=>Ne.symm h)).2 (X8.ne c);rw [qe,qi,ji,qC] at d;refine ⟨A,f,q,C,rfl,i.2,λ e o=>?_,λ e o=>?_⟩
 ·have:=d.2.2 e.2.2 (qm.2 ⟨e,o,rfl⟩) u (by simp)
  rw [<-i.2];exact this
 ·have:=d.2.1.1 e.2.2 (qm.2 ⟨e,o,rfl⟩)
  rw [<-i.2];exact this.symm
def Zek {A C:List FE} {f q:Nat} {n:Int} {p:Pl} (h:ZfT A C n p):ZL n ((A++(f,q,p)::C).map flV)=some (.agg #[nP f,nP q]):=by
 rw [qe,qi];unfold flV;dsimp only;rw [h.num];exact Zfr λ e d=>by
  obtain ⟨e',o,rfl⟩:=qm.1 d;exact h.a e' o
def ZaG {b:ZF} {fs:List FE} {xs:List BE} (hl:Xo b fs xs) (c:X8 Bk.id b.L) {x:Bk} (h:x∈b.L):∃ A a C,xs=A++(a,x)::C/\ZoW A C x:=by
 rw [<-hl.bk] at h;obtain ⟨⟨a,i⟩,v,u⟩:=qm.1 h;dsimp only at u;subst u;obtain ⟨A,C,rfl⟩:=j5 v;have d:((A++(a,i)::C).map λ e=>e.2).Pairwise λ a b=>a.id≠b.id:=by rw [hl.bk];exact X8.ne c
 rw [qe,qi,ji,qC] at d;refine ⟨A,a,C,rfl,λ e o=>?_,λ e o=>?_⟩
 ·exact d.2.2 e.2 (qm.2 ⟨e,o,rfl⟩) i (by simp)
 ·exact (d.2.1.1 e.2 (qm.2 ⟨e,o,rfl⟩)).symm
def ZhE {A C:List BE} {a:Nat} {x:Bk} (h:ZoW A C x):ZL x.id ((A++(a,x)::C).map bkV)=some (nP a):=by
 rw [qe,qi];exact Zfr λ e d=>by
  obtain ⟨e',o,rfl⟩:=qm.1 d;exact h.a e' o
def Zi0 {b:ZF} {fs:List FE} {xs:List BE} (hl:Xo b fs xs) {n:Int}:ZL n (xs.map bkV)=none↔b.bk n=none:=by
 unfold ZF.bk;rw [GL,UA,<-hl.bk];constructor
 ·intro h x d
  obtain ⟨e,a,rfl⟩:=qm.1 d;exact h (bkV e) (qm.2 ⟨e,a,rfl⟩)
 ·rintro h _ a
  obtain ⟨e,o,rfl⟩:=qm.1 a;exact h e.2 (qm.2 ⟨e,o,rfl⟩)
def Zkb {b:ZF} {fs:List FE} {xs:List BE} (hl:Xo b fs xs):xs.length=b.L.length:=by
 have:=qH List.length hl.bk;rwa [qa] at this
def Xo.fset {b:ZF} {A C:List FE} {xs:List BE} {f q:Nat} {n:Int} {p:Pl} (hl:Xo b (A++(f,q,p)::C) xs) (h:ZfT A C n p) (g:Pl->Pl):((A++(f,q,g p)::C).map λ e=>e.2.2).Perm (V5 Pl.n n g b.fl):=by
 have d:=hl.fl.map λ x=>if x.n=n then g x else x
 unfold V5;refine uX (uk ?_) d;have key:∀ L:List FE,(∀ e∈L,e.2.2.n≠n)->(L.map λ e=>e.2.2).map (λ x=>if x.n=n then g x else x)=L.map λ e=>e.2.2:=λ L o=>by
  rw [qZ];refine qP λ e i=>?_;show (if e.2.2.n=n then _ else _)=_
  rw [qc (o e i)]
 rw [qe,qi,qe,qi,qe,qi,key A h.a,key C h.c];rw [qf h.num]
def Xo.bset {b:ZF} {A C:List BE} {fs:List FE} {a:Nat} {x:Bk} (hl:Xo b fs (A++(a,x)::C)) (c:X8 Bk.id b.L) (g:Bk->Bk):(A++(a,g x)::C).map (λ e=>e.2)=V5 Bk.id x.id g b.L:=by
 have e:=hl.bk;rw [qe,qi] at e ⊢;rw [<-e] at c ⊢;exact (Zff rfl c).symm
def Xo.bdel {b:ZF} {A C:List BE} {fs:List FE} {a:Nat} {x:Bk} (hl:Xo b fs (A++(a,x)::C)) (c:X8 Bk.id b.L):(A++C).map (λ e=>e.2)=Zfi Bk.id x.id b.L:=by
 have e:=hl.bk;rw [qe,qi] at e;rw [qe];rw [<-e] at c ⊢;exact (ZpN rfl c).symm
def GN {A C:List FE} {f q:Nat} {n:Int} {p a:Pl} (h:p.n=n) (h':a.n=n):(A++(f,q,a)::C).map flV=(A++(f,q,p)::C).map flV:=by
 rw [qe,qe,qi,qi];unfold flV;dsimp only;rw [h,h']
def ZoD {A C:List BE} {a:Nat} {x d:Bk} (h:d.id=x.id):(A++(a,d)::C).map bkV=(A++(a,x)::C).map bkV:=by
 rw [qe,qe,qi,qi];unfold bkV;dsimp only;rw [h]
def ZoC {A C:List BE} {a:Nat} {x:Bk} (h:ZoW A C x):GT x.id ((A++(a,x)::C).map bkV)=(A++C).map bkV:=by
 rw [qe,qi,qe];exact Zp2 λ e d=>by
  obtain ⟨e',o,rfl⟩:=qm.1 d;exact h.a e' o
abbrev plC (b:Nat) (v1 v2:xA):HP:=pts b (.cells [xP v1,xP v2].toArray 97 (0,0))
def ZpV {n:Int} {fs:List FE}:∃ d o:xA,(ZL n (fs.map flV)).getD (.agg #[xP none,xP none])=.agg #[xP d,xP o]:=by
 cases h:ZL n (fs.map flV) with
 |none=>exact ⟨none,none,rfl⟩
 |some v=>
  obtain ⟨A,C,e,_⟩:=YZ h;have:(n,v)∈fs.map flV:=by rw [e];simp
  obtain ⟨x,_,i⟩:=qm.1 this;have a:=qH Prod.snd i;exact ⟨_,_,a.symm⟩
def Zqc {n:Int} {xs:List BE}:∃ v:xA,(ZL n (xs.map bkV)).getD (xP none)=xP v:=by
 cases h:ZL n (xs.map bkV) with
 |none=>exact ⟨none,rfl⟩
 |some v=>
  obtain ⟨A,C,e,_⟩:=YZ h;have:(n,v)∈xs.map bkV:=by rw [e];simp
  obtain ⟨x,_,d⟩:=qm.1 this;have a:=qH Prod.snd d;exact ⟨_,a.symm⟩
def ZfR {p m1 m2:Nat} {b:ZF} {fs:List FE} {n:Int} (h:Sat R (pts p (Zq b m1 m2)::MapAt m1 (fs.map flV)::Hs) w):
  XG prog 54 #[nP p,nI n] w
   (λ u w'=>u=Zen 2/\ZL n (fs.map flV)=none/\Sat R (pts p (Zq b m1 m2)::MapAt m1 (fs.map flV)::Hs) w')
   (λ v w'=>(∃ a d,ZL n (fs.map flV)=some (.agg #[xP a,xP d])/\v=.agg #[xP a,xP d])/\Sat R (pts p (Zq b m1 m2)::MapAt m1 (fs.map flV)::Hs) w'):=by
 obtain ⟨a,d,i⟩:=ZpV (n:=n) (fs:=fs);apply ZvS;refine Za h λ b4 w h=>?_;refine Zb.mk rfl ⟨some m1,oA h,a,d,(ZL n (fs.map flV)).isSome,λ w' e=>?_,?_⟩
 ·rw [show w'=w from e]
  have hm:Sat R (MapAt m1 (fs.map flV)::pts p (Zq b m1 m2)::plC b4 none none::Hs) w:=h.arr;have:=MapAt.look Zqq hm n true;rw [i] at this;exact this
 refine Za h λ b5 w h=>?_;refine sRu h λ w h=>?_;have h:=h.re (plC b5 a d);refine WB (λ o=>.inl ⟨rfl,?_⟩) (λ o=>.inr ⟨_,rfl,rfl,?_,h.drop.drop⟩)
 ·refine ⟨a,d,oA h,?_⟩
  have h:Sat R (plC b4 none none::plC b5 a d::pts p (Zq b m1 m2)::MapAt m1 (fs.map flV)::Hs) w:=h.swap;refine sRu h λ w h=>?_;have h:=h.re (plC b4 a d);refine ⟨a,d,oA h,⟨a,d,?_,rfl⟩,h.drop.drop⟩;obtain ⟨v,hs⟩:=qS.1 o;rw [hs] at i ⊢;exact qH some i
 ·cases y:ZL n (fs.map flV) with
  |none=>rfl
  |some v=>rw [y] at o;cases o
def ZiY {p m1 m2:Nat} {b:ZF} {xs:List BE} {s:ByteArray} (h:Sat R (pts p (Zq b m1 m2)::MapAt m2 (xs.map bkV)::Hs) w):
  XG prog 43 #[nP p,xZ s] w
   (λ y w'=>(∃ e,y=Zen e/\(((Xj (ZE s)).2≠0/\e=(Xj (ZE s)).2)\/((Xj (ZE s)).2=0/\e=2/\ZL (Xj (ZE s)).1 (xs.map bkV)=none)))/\Sat R (pts p (Zq b m1 m2)::MapAt m2 (xs.map bkV)::Hs) w')
   (λ v w'=>(∃ a,(Xj (ZE s)).2=0/\ZL (Xj (ZE s)).1 (xs.map bkV)=some (xP a)/\v=xP a)/\Sat R (pts p (Zq b m1 m2)::MapAt m2 (xs.map bkV)::Hs) w'):=by
 obtain ⟨a,i⟩:=Zqc (n:=(Xj (ZE s)).1) (xs:=xs);apply Zv1;refine (Zk9 h).u λ w h=>?_;refine .inl ⟨_,_,rfl,?_⟩;refine GI (λ d=>.inl ⟨rfl,?_⟩) (λ d=>.inr ⟨_,rfl,⟨_,rfl,.inl ⟨d,rfl⟩⟩,h⟩);refine Zb.mk rfl ⟨some m2,oA h,a,(ZL (Xj (ZE s)).1 (xs.map bkV)).isSome,λ w' e=>?_,?_⟩
 ·rw [show w'=w from e]
  have:=MapAt.look ZqT h.swap (Xj (ZE s)).1 true;rw [i] at this;exact this
 refine WB (λ o=>.inl ⟨rfl,⟨a,d,?_,rfl⟩,h⟩) (λ o=>.inr ⟨_,rfl,⟨_,rfl,.inr ⟨d,rfl,?_⟩⟩,h⟩)
 ·obtain ⟨v,hs⟩:=qS.1 o
  rw [hs] at i ⊢;exact qH some i
 ·cases z:ZL (Xj (ZE s)).1 (xs.map bkV) with
  |none=>rfl
  |some v=>rw [z] at o;cases o
def GV {p m1 m2 a f q:Nat} {b:ZF} {A C:List FE} {x:Bk} {pl:Pl} (i:0<=x.id/\x.id<28629151) (hm:ZfT A C x.flt pl)
  (d:Sat R (pts p (Zq b m1 m2)::MapAt m1 ((A++(f,q,pl)::C).map flV)::pts a (ZZ x)::Zm f pl.r::Hs) w):
  Zg prog 53 #[nP p,nP a] w λ v w'=>∃ sl sb:Sl,v=.agg (rpV (Xp pl x) sl sb).toArray/\
   Sat R (Own sl 3 (Zd (Zr pl.r))::Own sb 9 ((YD pl.r x.id).map Value.string)::pts p (Zq b m1 m2)::MapAt m1 ((A++(f,q,pl)::C).map flV)::pts a (ZZ x)::Zm f pl.r::Hs) w':=by
 obtain ⟨M,z⟩:=xx ((A++(f,q,pl)::C).map flV);have o:ZL x.flt M=some (.agg #[nP f,nP q]):=by rw [z];exact Zek hm
 rw [<-z] at d ⊢;apply ZvT;refine Za d λ b4 w d=>?_;have d:Sat R (ZK b4::pts p (Zq b m1 m2)::MapAt m1 M::pts a (ZZ x)::Zm f pl.r::Hs) w:=d;refine Xk d λ w d=>?_;refine Zb.mk rfl ⟨some m1,oS,Zb.mk rfl ⟨x.flt,oS,some ⟨f,0,none⟩,some ⟨q,0,none⟩,λ w' h=>?_,?_⟩⟩
 ·have y:Sat R (MapAt m1 M::VC.tru::ZK b4::pts p (Zq b m1 m2)::pts a (ZZ x)::Zm f pl.r::Hs) w':=Sat.arr h
  have:=MapAt.look Zqq y x.flt false;rw [o] at this;exact this
 refine Za d λ b5 w d=>⟨d.absorb,?_⟩;refine sRu d λ w d=>?_;have d:=d.re (plC b5 (some ⟨f,0,none⟩) (some ⟨q,0,none⟩));have d:Sat R (plC b5 (some ⟨f,0,none⟩) (some ⟨q,0,none⟩)::ZK b4::pts p (Zq b m1 m2)::MapAt m1 M::pts a (ZZ x)::Zm f pl.r::Hs) w:=d.cons λ _ h=>h.drop;refine Zb.mk rfl ⟨x.id,oA d,?_⟩;refine (ZpI i d).u λ w d=>?_;refine ⟨_,_,rfl,?_⟩;refine Zj (Sat R [pts a (ZZ x),plC b5 (some ⟨f,0,none⟩) (some ⟨q,0,none⟩),VC.tru]) d (λ w d=>?_) λ w d=>?_
 ·exact (d.arr (Hs':=pts a (ZZ x)::plC b5 (some ⟨f,0,none⟩) (some ⟨q,0,none⟩)::ZK b4::pts p (Zq b m1 m2)::MapAt m1 M::Zm f pl.r::Hs)).cons λ _ h=>h.restTru2
 refine Zb.mk rfl ⟨x.state,oS,Zb.mk rfl ⟨x.flt,oS,Zb.mk rfl ⟨x.cls,oS,Zb.mk rfl ⟨x.many,oS,Zb.mk rfl ⟨x.till,oS,some ⟨f,0,none⟩,oS,some ⟨f,0,none⟩,oS,Zb.mk rfl ⟨x.id,oS,?_⟩⟩⟩⟩⟩⟩;have d:=d.m4.m5;refine (Vf d).u1 λ sl w d=>?_;refine ⟨sl,rfl,?_,?_⟩
 ·exact (d.arr (Hs':=pts a (ZZ x)::plC b5 (some ⟨f,0,none⟩) (some ⟨q,0,none⟩)::Own sl 3 (Zd (Zr pl.r))::Zm f pl.r::ZK b4::pts p (Zq b m1 m2)::MapAt m1 M::Hs)).cons λ _ h=>h.restTru2
 have d:=d.b4;refine (Ziu d).u1 λ sb w d=>?_;refine ⟨sb,rfl,?_,?_⟩
 ·exact (d.arr (Hs':=pts a (ZZ x)::plC b5 (some ⟨f,0,none⟩) (some ⟨q,0,none⟩)::Own sb 9 ((YD pl.r x.id).map Value.string)::Zm f pl.r::ZK b4::Own sl 3 (Zd (Zr pl.r))::pts p (Zq b m1 m2)::MapAt m1 M::Hs)).cons λ _ h=>h.restTru2
 have d:=d.b5.b7.b6.m1;refine sRu d λ w d=>?_;have d:=d.re (rpC b4 (Xp pl x) sl sb);refine ⟨0,ZrH x.id,x.state,x.flt,x.cls,x.many,x.till,sl,sb,oA d,sl,sb,rfl,d.drop.drop⟩
def ZaY (q:Nat) (w:nW):Nat:=match w.heap[q]? with
 |some (.cells l _ _)=>(match l[0]? with|some (Value.slice _ n _)=>n|_=>0)
 |_=>0
def Zju {q:Nat} {l:List Wt} (a:Sat R (Yq q l::Hs) w):ZaY q w=l.length:=by
 obtain ⟨s,a⟩:=Sat.qu.1 a;have h:=Zn.len a.swap;rw [qa] at h;unfold ZaY;rw [a.at];exact h
def Zav {q:Nat} {l:List Wt} {sl:Sl} {left:List Int} (d:QOk l) (o:left.length<=9223372036854775807) (h:Sat R (Own sl 3 (Zd left)::Yq q l::Hs) w):
  Zg prog 174 #[nP q,.slice sl.a sl.len sl.cap] w λ v w'=>v=.tuple #[wtA ((Ys l left).getD XJ),.bool (Ys l left).isSome]/\Sat R (Yq q l::Hs) w':=by
 obtain ⟨z,i,y,h⟩:=Own.leak h;refine (Zik d (y.ro (by rw [qa];exact o)) h).u λ w h=>?_;exact ⟨_,rfl,rfl,i.back h⟩
abbrev fqC (b f q:Nat):HP:=plC b (some ⟨f,0,none⟩) (some ⟨q,0,none⟩)
structure ZuA (n:Int) (b:ZF) (A C:List FE) (f q:Nat) (MB:List (Int × Value)) (j:Nat) (b':ZF) (pl:Pl) (xs:List BE):Prop where
 prom:ZH n b=ZcA j n b'
 len:pl.q.length<j
 core:Core b'
 here:b'.at n=some pl
 now:b'.now=b.now
 next:b'.next=b.next
 book:Xo b' (A++(f,q,pl)::C) xs
 mb:xs.map bkV=MB
abbrev Zrn (R:Cx) (Hs:List HP) (p m1 m2 f q b4 bw:Nat) (b:ZF) (pl:Pl) (A C:List FE) (MF MB:List (Int × Value)) (xs:List BE) (w:nW):Prop:=
 Sat R (Zm f pl.r::Yq q pl.q::pts p (Zq b m1 m2)::MapAt m1 MF::MapAt m2 MB::Zt (A++C)::Zu xs::fqC b4 f q::wtD bw ((Ys pl.q (Zr pl.r)).getD XJ)::Hs) w
def VS {r:RF} (g:Y5 r):(Zr r).length<=9223372036854775807:=by have:=(ZbP g).1;omega
def Uu {p m1 m2:Nat} {b:ZF} {fs:List FE} {xs:List BE} {n:Int} {pl:Pl} (k:Core b) (hl:Xo b fs xs) (U:b.at n=some pl)
  (d:Sat R (pts p (Zq b m1 m2)::MapAt m1 (fs.map flV)::MapAt m2 (xs.map bkV)::Zt fs::Zu xs::Hs) w):
  Zg prog 103 #[nP p,nI n] w λ v w'=>v=.tuple #[]/\∃ V D,Xo (ZH n b) V D/\V.map flV=fs.map flV/\D.map bkV=xs.map bkV/\
   Sat R (pts p (Zq (ZH n b) m1 m2)::MapAt m1 (fs.map flV)::MapAt m2 (xs.map bkV)::Zt V::Zu D::Hs) w':=by
 obtain ⟨A,f,q,C,rfl,hm⟩:=Ug hl k.nums U;obtain ⟨m,W⟩:=xx ((A++(f,q,pl)::C).map flV);obtain ⟨MB,S⟩:=xx (xs.map bkV);have B:ZL n m=some (.agg #[nP f,nP q]):=by rw [W];exact Zek hm
 rw [<-W,<-S] at d ⊢;have l:=Yg U;apply Zus;refine Zb.mk rfl ⟨some m1,oA d,some ⟨f,0,none⟩,some ⟨q,0,none⟩,λ w' e=>?_,?_⟩
 ·rw [show w'=w from e]
  have:=MapAt.look Zqq d.swap n false;rw [B] at this;exact this
 refine Za d λ b4 w d=>?_;refine sRu d λ w d=>?_;have d:=d.re (fqC b4 f q);have d:=d.b5.m3;have d:=Wf.1 d;have T:Y5 pl.r:=k.good pl l.1;have s:QOk pl.q:=k.qok pl l.1;have P:ZuA n b A C f q MB 201 b pl xs:=⟨rfl,by have:=s.len;omega,k,U,rfl,rfl,hl,S.symm⟩;refine ⟨λ w5 G w=>∃ g,w5=some ⟨g,0,none⟩/\G=(Ys pl.q (Zr pl.r)).isSome/\Zrn R Hs p m1 m2 f q b4 g b pl A C m MB xs w,?_,?_⟩
 ·refine Zj (Sat R [fqC b4 f q,VC.tru]) d (λ w d=>?_) λ w d=>?_
  ·exact (d.arr (Hs':=fqC b4 f q::Zm f pl.r::Yq q pl.q::Zt (A++C)::pts p (Zq b m1 m2)::MapAt m1 m::MapAt m2 MB::Zu xs::Hs)).cons λ _ h=>h.allTru
  refine ⟨some ⟨q,0,none⟩,oS,some ⟨f,0,none⟩,oS,?_,?_⟩
  ·refine (Vf d).u1 λ sl w d=>?_
   refine ⟨sl,rfl,?_,?_,?_⟩
   ·exact (d.arr (Hs':=fqC b4 f q::Own sl 3 (Zd (Zr pl.r))::Zm f pl.r::Yq q pl.q::Zt (A++C)::pts p (Zq b m1 m2)::MapAt m1 m::MapAt m2 MB::Zu xs::Hs)).cons λ _ h=>h.allTru
   ·have d:=d.m1.b2
    refine (Zav s (VS T) d).u λ w d=>?_;refine ⟨_,_,_,_,_,_,rfl,?_,?_⟩
    ·exact (d.arr (Hs':=fqC b4 f q::Zm f pl.r::Yq q pl.q::Zt (A++C)::pts p (Zq b m1 m2)::MapAt m1 m::MapAt m2 MB::Zu xs::Hs)).cons λ _ h=>h.allTru
    refine Za d λ g w d=>?_;have d:Sat R (wtD g XJ::Yq q pl.q::Zm f pl.r::Zt (A++C)::pts p (Zq b m1 m2)::MapAt m1 m::MapAt m2 MB::Zu xs::fqC b4 f q::Hs) w:=d;refine ⟨?_,?_⟩
    ·exact (d.arr (Hs':=fqC b4 f q::wtD g XJ::Zm f pl.r::Yq q pl.q::Zt (A++C)::pts p (Zq b m1 m2)::MapAt m1 m::MapAt m2 MB::Zu xs::Hs)).cons λ _ h=>h.allTru
    refine ZO d (by kernel_rfl) rfl (by simp [Value.cells,wtV]) λ w d=>?_;have d:=d.re (wtD g ((Ys pl.q (Zr pl.r)).getD XJ));exact ⟨g,rfl,rfl,d.arr⟩
   ·refine Za d λ g w d=>?_
    have d:Sat R (wtD g XJ::Own sl 3 (Zd (Zr pl.r))::Zm f pl.r::Yq q pl.q::Zt (A++C)::pts p (Zq b m1 m2)::MapAt m1 m::MapAt m2 MB::Zu xs::fqC b4 f q::Hs) w:=d;refine ⟨?_,?_⟩
    ·exact (d.arr (Hs':=fqC b4 f q::wtD g XJ::Own sl 3 (Zd (Zr pl.r))::Zm f pl.r::Yq q pl.q::Zt (A++C)::pts p (Zq b m1 m2)::MapAt m1 m::MapAt m2 MB::Zu xs::Hs)).cons λ _ h=>h.allTru
    have d:Sat R (wtD g XJ::Own sl 3 (Zd (Zr pl.r))::Zm f pl.r::Yq q pl.q::Zt (A++C)::pts p (Zq b m1 m2)::MapAt m1 m::MapAt m2 MB::Zu xs::fqC b4 f q::Hs) w:=d;have d:=d.m3.m2;refine (Zav s (VS T) d).u λ w d=>?_;refine ⟨_,_,_,_,_,_,rfl,?_,?_⟩
    ·exact (d.arr (Hs':=fqC b4 f q::wtD g XJ::Zm f pl.r::Yq q pl.q::Zt (A++C)::pts p (Zq b m1 m2)::MapAt m1 m::MapAt m2 MB::Zu xs::Hs)).cons λ _ h=>h.allTru
    have d:=d.m1;refine ZO d (by kernel_rfl) rfl (by simp [Value.cells,wtV]) λ w d=>?_;have d:=d.re (wtD g ((Ys pl.q (Zr pl.r)).getD XJ));exact ⟨g,rfl,rfl,d.arr⟩
  ·refine Za d λ g w d=>?_
   have d:Sat R (wtD g XJ::Zm f pl.r::Yq q pl.q::Zt (A++C)::pts p (Zq b m1 m2)::MapAt m1 m::MapAt m2 MB::Zu xs::fqC b4 f q::Hs) w:=d;refine ⟨?_,?_⟩
   ·exact (d.arr (Hs':=fqC b4 f q::wtD g XJ::Zm f pl.r::Yq q pl.q::Zt (A++C)::pts p (Zq b m1 m2)::MapAt m1 m::MapAt m2 MB::Zu xs::Hs)).cons λ _ h=>h.allTru
   have d:Sat R (wtD g XJ::Zm f pl.r::Yq q pl.q::Zt (A++C)::pts p (Zq b m1 m2)::MapAt m1 m::MapAt m2 MB::Zu xs::fqC b4 f q::Hs) w:=d;refine (Vf d.swap).u1 λ sl w d=>?_;refine ⟨sl,rfl,?_,?_⟩
   ·exact (d.arr (Hs':=fqC b4 f q::wtD g XJ::Own sl 3 (Zd (Zr pl.r))::Zm f pl.r::Yq q pl.q::Zt (A++C)::pts p (Zq b m1 m2)::MapAt m1 m::MapAt m2 MB::Zu xs::Hs)).cons λ _ h=>h.allTru
   have d:=d.m2.m3.m2;refine (Zav s (VS T) d).u λ w d=>?_;refine ⟨_,_,_,_,_,_,rfl,?_,?_⟩
   ·exact (d.arr (Hs':=fqC b4 f q::wtD g XJ::Zm f pl.r::Yq q pl.q::Zt (A++C)::pts p (Zq b m1 m2)::MapAt m1 m::MapAt m2 MB::Zu xs::Hs)).cons λ _ h=>h.allTru
   have d:=d.m1;refine ZO d (by kernel_rfl) rfl (by simp [Value.cells,wtV]) λ w d=>?_;have d:=d.re (wtD g ((Ys pl.q (Zr pl.r)).getD XJ));exact ⟨g,rfl,rfl,d.arr⟩
 clear d;rintro _ _ _ w ⟨g,rfl,rfl,d⟩;refine ⟨λ w5 G w=>∃ j b' pl D g,ZuA n b A C f q MB j b' pl D/\w5=some ⟨g,0,none⟩/\G=(Ys pl.q (Zr pl.r)).isSome/\Zrn R Hs p m1 m2 f q b4 g b pl A C m MB D w,λ _ _ w=>ZaY q w,⟨201,b,pl,xs,g,P,rfl,rfl,d⟩,?_⟩;clear d P s T l;rintro _ _ _ w ⟨j,b',pl',D,g,hi,rfl,rfl,d⟩;have h2:ZaY q w=pl'.q.length:=Zju d.swap;have l:=Yg hi.here;have T:=hi.core.good pl' l.1;have s:=hi.core.qok pl' l.1;have h3:ZfT A C n pl':=⟨l.2,hm.a,hm.c⟩;obtain ⟨j,rfl⟩:∃ i,j=i + 1:=⟨j - 1,by have:=hi.len;omega⟩;have o:=hi.prom;unfold ZcA at o;rw [hi.here] at o;dsimp only at o;cases K:Ys pl'.q (Zr pl'.r) with
 |none=>
  rw [K] at o;dsimp only at o;refine Br.f rfl ⟨rfl,A++(f,q,pl')::C,D,?_,?_,hi.mb,?_⟩
  ·rw [o];exact hi.book
  ·rw [W];exact GN hm.num l.2
  ·rw [o,show Zq b' m1 m2=Zq b m1 m2 by unfold Zq;rw [hi.now,hi.next]]
   have d:=d.m5.b2;have d:=Wf.2 d;have d:=d.b3;exact d.cons λ _ h=>h.cons λ _ h=>h.cons λ _ h=>h.cons λ _ h=>h.cons λ _ h=>h.drop.drop
 |some x=>
  rw [K] at o;dsimp only at o;obtain ⟨hx,h9,hb⟩:=ZbW hi.core l.1 K;obtain ⟨y,h4,L,hc,hd,he,hh⟩:=hi.core.waits l.1 hx;obtain ⟨N,a,O,rfl,h5⟩:=ZaG hi.book hi.core.ids h4;have X:ZL x.id MB=some (nP a):=by rw [<-hi.mb,<-L];exact ZhE h5
  have Q:UC x.id pl'.q=true:=Zao.2 ⟨x,hx,rfl⟩;have h0:ZfV pl'.q x.id=(Zbd x.id pl'.q,0):=by unfold ZfV;rw [qf Q]
  have h6:=ZfE Q;have d:Sat R (Zm f pl'.r::Yq q pl'.q::pts p (Zq b m1 m2)::MapAt m1 m::MapAt m2 MB::Zt (A++C)::Zu (N++(a,y)::O)::fqC b4 f q::wtD g x::Hs) w:=by
   have:=d;unfold Zrn at this;rw [K] at this;exact this
  refine Br.t rfl ⟨some ⟨q,0,none⟩,oA d,Zb.mk rfl ⟨x.id,oA d,?_⟩⟩;refine (Zbt (by have:=s.len;omega) d.swap).u λ w d=>?_;rw [h0] at d ⊢;refine ⟨_,rfl,some ⟨f,0,none⟩,oA d,Zb.mk rfl ⟨x.id,oA d,Zb.mk rfl ⟨x.cls,oA d,Zb.mk rfl ⟨x.many,oA d,?_⟩⟩⟩⟩;refine (Zg6 d.swap).u λ w d=>?_;refine ⟨_,rfl,?_⟩;refine Zi d λ w d=>Zb.mk rfl ⟨some m2,oS,Zb.mk rfl ⟨x.id,oS,some ⟨a,0,none⟩,λ w' h=>?_,Zb.mk rfl ?_⟩⟩
  ·have h7:Sat R (MapAt m2 MB::Zm f (Zy pl'.r x.id x.cls x.many).1::Yq q (Zbd x.id pl'.q)::pts p (Zq b m1 m2)::MapAt m1 m::Zt (A++C)::Zu (N++(a,y)::O)::fqC b4 f q::wtD g x::Hs) w':=Sat.arr h
   have:=MapAt.look ZqT h7 x.id false;rw [X] at this;exact this
  have d:=d.m6;have d:=Vm.1 d;refine sRu d λ w d=>?_;have d:=Vm.2 (d.re (pts a (ZZ (Gj y))));refine Zb.mk rfl ⟨x.id,x.cls,x.many,x.time,x.sc,oA d,?_⟩;refine Za d λ E w d=>?_;refine sRu d λ w d=>?_;have d:=d.re (wtD E x);have F:Core (Za5 b' n x):=Zdc hi.core l.1 l.2 K;have H:(Za5 b' n x).at n=some (GY x pl'):=Zit hi.core hi.here;have I:=Yg H;have h1:ZuA n b A C f q MB j (Za5 b' n x) (GY x pl') (N++(a,Gj y)::O):=
   ⟨o,by have:=hi.len;show (Zbd x.id pl'.q).length<j;omega,F,H,hi.now,hi.next,⟨hi.book.fset h3 (GY x),by
    have:=hi.book.bset hi.core.ids Gj;rw [L] at this;exact this⟩,(ZoD (show (Gj y).id=y.id from rfl)).trans hi.mb⟩
  obtain ⟨z,J⟩:=xx (GY x pl');have d:Sat R (Zm f z.r::Yq q z.q::wtD E x::pts p (Zq b m1 m2)::MapAt m1 m::MapAt m2 MB::Zt (A++C)::Zu (N++(a,Gj y)::O)::fqC b4 f q::wtD g x::Hs) w:=by
   have d:Sat R (wtD E x::Zu (N++(a,Gj y)::O)::Zm f z.r::Yq q z.q::pts p (Zq b m1 m2)::MapAt m1 m::MapAt m2 MB::Zt (A++C)::fqC b4 f q::wtD g x::Hs) w:=by
    rw [J];exact d
   exact d.arr
  have ha:z.q.length + 1=pl'.q.length:=by rw [J];exact h6
  rw [<-J] at h1 H I;have h8:=F.good z I.1;have Y:=F.qok z I.1;clear J;refine Zj (Sat R [fqC b4 f q,VC.tru]) d (λ w d=>?_) λ w d=>?_
  ·exact (d.arr (Hs':=fqC b4 f q::Zm f z.r::Yq q z.q::wtD E x::pts p (Zq b m1 m2)::MapAt m1 m::MapAt m2 MB::Zt (A++C)::Zu (N++(a,Gj y)::O)::wtD g x::Hs)).cons λ _ h=>h.allTru
  refine ⟨some ⟨q,0,none⟩,oS,some ⟨f,0,none⟩,oS,?_⟩;refine (Vf d).u1 λ sl w d=>?_;refine ⟨sl,rfl,?_,?_⟩
  ·exact (d.arr (Hs':=fqC b4 f q::Own sl 3 (Zd (Zr z.r))::Zm f z.r::Yq q z.q::wtD E x::pts p (Zq b m1 m2)::MapAt m1 m::MapAt m2 MB::Zt (A++C)::Zu (N++(a,Gj y)::O)::wtD g x::Hs)).cons λ _ h=>h.allTru
  have d:=d.m1.b3;refine (Zav Y (VS h8) d).u λ w d=>?_;refine ⟨_,_,_,_,_,_,rfl,?_,?_⟩
  ·exact (d.arr (Hs':=fqC b4 f q::Zm f z.r::Yq q z.q::wtD E x::pts p (Zq b m1 m2)::MapAt m1 m::MapAt m2 MB::Zt (A++C)::Zu (N++(a,Gj y)::O)::wtD g x::Hs)).cons λ _ h=>h.allTru
  have d:=d.m1;refine ZO d (by kernel_rfl) rfl (by simp [Value.cells,wtV]) λ w d=>?_;have d:=d.re (wtD E ((Ys z.q (Zr z.r)).getD XJ));have d:=d.b8.m1.m9;have d:=d.drop;refine ⟨⟨j,_,z,_,E,h1,rfl,rfl,d⟩,?_⟩;show ZaY q _<ZaY q _;rw [Zju d.swap,h2];omega
def X5 {p m1 m2 f q:Nat} {b:ZF} {A C:List FE} {xs:List BE} {pl:Pl} (hl:Xo b (A++(f,q,pl)::C) xs) {a MB:List (Int × Value)} (d:a=(A++(f,q,pl)::C).map flV) (o:MB=xs.map bkV)
  (h:Sat R (Zm f pl.r::Yq q pl.q::pts p (Zq b m1 m2)::MapAt m1 a::MapAt m2 MB::Zt (A++C)::Zu xs::Hs) w):Sat R (Zp p b::Hs) w:=by
 subst d o;have h:=h.m5.b2;have h:=Wf.2 h;have h:=h.b3;exact Sat.book.2 ⟨m1,m2,_,xs,hl,h⟩
def Zfu {b:ZF} {fs:List FE} {xs:List BE} (hl:Xo b fs xs) (k:Core b) {n:Int} {v:Value} (h:ZL n (fs.map flV)=some v):
  ∃ A f q C pl,fs=A++(f,q,pl)::C/\ZfT A C n pl/\b.at n=some pl/\v=.agg #[nP f,nP q]:=by
 cases a:b.at n with
 |none=>rw [(Zc2 hl).2 a] at h;cases h
 |some pl=>
  obtain ⟨A,f,q,C,rfl,hm⟩:=Ug hl k.nums a;rw [Zek hm] at h;exact ⟨A,f,q,C,pl,rfl,hm,rfl,(jp h).symm⟩
def Zkc {b:ZF} {fs:List FE} {xs:List BE} (hl:Xo b fs xs) (k:Core b) (v:Value):Gl b.next v (xs.map bkV)=xs.map bkV++[(b.next,v)]:=by
 have:ZL b.next (xs.map bkV)=none:=by
  rw [Zi0 hl];unfold ZF.bk;rw [UA];intro x h e;have:=(k.each x h).id.2;omega
 unfold Gl;rw [this];rfl
def Zka {xs:List BE} {a:Nat} {x:Bk} (h:Sat R (pts a (ZZ x)::Zu xs::Hs) w):Sat R (Zu (xs++[(a,x)])::Hs) w:=by
 have:Sat R (pts a (ZZ x)::Zu (xs++[])::Hs) w:=by rw [jl];exact h
 exact Vm.2 this
def ZoQ {p:Nat} {b:ZF} {c:Cm} {sg sp:Sl} (hk:c.kind=2) (k:Core b) (hr:Z9 c) (i:Sat R (Zp p b::Hs) w):
  XG prog 40 #[nP p,.agg #[nI c.kind,xZ c.pnr,nI c.flt,nI c.cls,nI c.many,nI c.time,xF c.sc,xZ c.lab,nI c.rows,.slice sg.a sg.len sg.cap,.slice sp.a sp.len sp.cap]] w
   (λ ch w'=>∃ e,ch=Zen e/\XE b c=(b,Z4 e)/\Sat R (Zp p b::Hs) w')
   (λ v w'=>∃ sl sb:Sl,v=.agg (rpV (XE b c).2 sl sb).toArray/\Sat R (Own sl 3 (Zd (XE b c).2.left)::Own sb 9 ((XE b c).2.labs.map Value.string)::Zp p (XE b c).1::Hs) w'):=by
 apply ZqS
 suffices H:∀ (X:List PanicEntry->xE) (K:Value->xE),(∀ e w',XE b c=(b,Z4 e)->Sat R (Zp p b::Hs) w'->X (Zen e) w')->
   (∀ sl sb w',Sat R (Own sl 3 (Zd (XE b c).2.left)::Own sb 9 ((XE b c).2.labs.map Value.string)::Zp p (XE b c).1::Hs) w'->K (.agg (rpV (XE b c).2 sl sb).toArray) w')->B40 (some ⟨p,0,none⟩) c.kind c.pnr c.flt c.cls c.many c.time c.sc c.lab c.rows sg sp X K w from
  H _ _ (λ e w' h1 P=>⟨e,rfl,h1,P⟩) (λ sl sb w' P=>⟨sl,sb,rfl,P⟩)
 intro X K N hK;obtain ⟨m1,m2,fs,xs,hl,i⟩:=Sat.book.1 i;have h4:=Zkb hl;refine Za i λ b3 w i=>Za i λ b4 w i=>?_;have i:Sat R (ZK b4::cmC b3 c sg sp::pts p (Zq b m1 m2)::MapAt m1 (fs.map flV)::MapAt m2 (xs.map bkV)::Zt fs::Zu xs::Hs) w:=i;refine ⟨c.flt,oA i,?_⟩;have i:=i.m3.m3;refine (ZfR i).use ?_ ?_
 rotate_left
 ·clear i
  rintro _ w ⟨rfl,h5,i⟩;refine .inr ⟨_,rfl,N 2 w ?_ ?_⟩
  ·unfold XE
   rw [(Zc2 hl).1 h5]
  ·have i:=i.m3.m3
   exact Sat.book.2 ⟨m1,m2,fs,xs,hl,i.drop.drop⟩
 clear i;rintro _ w ⟨⟨v1,v2,h6,rfl⟩,i⟩;obtain ⟨A,f,q,C,pl,rfl,hm,O,hv⟩:=Zfu hl k h6;simp only [Value.agg.injEq,zm,jT,Value.pointer.injEq,vv] at hv;obtain ⟨rfl,rfl⟩:=hv;obtain ⟨j,G⟩:=xx ((A++(f,q,pl)::C).map flV);obtain ⟨MB,l⟩:=xx (xs.map bkV);have Q:MB.length=b.L.length:=by rw [l,qa];exact h4
 rw [<-G,<-l] at i;have i:=i.m2.m3.m5;have i:=Wf.1 i;refine .inl ⟨_,_,rfl,?_⟩;refine Za i λ b5 w i=>?_;refine sRu i λ w i=>?_;have i:=i.re (fqC b5 f q);refine Xk i λ w i=>?_;refine Zb.mk rfl ⟨b.next,oS,c.flt,oS,c.cls,oS,c.many,oS,c.time,oS,?_⟩;refine Za i λ g w i=>⟨i.absorb,?_⟩;have i:Sat R (pts g (ZZ (Xc b c))::fqC b5 f q::Zm f pl.r::Yq q pl.q::Zt (A++C)::cmC b3 c sg sp::ZK b4::pts p (Zq b m1 m2)::MapAt m1 j::MapAt m2 MB::Zu xs::Hs) w:=by
  have i:Sat R (pts g (ZZ (Xc b c))::VC.tru::fqC b5 f q::Zm f pl.r::Yq q pl.q::Zt (A++C)::cmC b3 c sg sp::ZK b4::pts p (Zq b m1 m2)::MapAt m1 j::MapAt m2 MB::Zu xs::Hs) w:=i;exact i.cons λ _ h=>h.drop
 have close:∀ {w},Sat R (pts g (ZZ (Xc b c))::fqC b5 f q::Zm f pl.r::Yq q pl.q::Zt (A++C)::cmC b3 c sg sp::ZK b4::pts p (Zq b m1 m2)::MapAt m1 j::MapAt m2 MB::Zu xs::Hs) w->Sat R (Zp p b::Hs) w:=λ {w} i=>by
  have i:=i.m4.m9.m9.m9.m7.m7.m9.m9.m9.m9;exact X5 hl G l i.drop.drop.drop.drop
 have z:∀ {e},XE b c=e↔(if c.time<=b.now then (b,Z4 1) else if b.full then (b,Z4 3)
   else if (Zy pl.r b.next c.cls c.many).2≠0 then (b,Z4 (Zy pl.r b.next c.cls c.many).2)
   else ({ b.put c.flt (takeP b.next c.cls c.many) (b.L++[Xc b c]) with next:=b.next + 1 },Xp (takeP b.next c.cls c.many pl) (Xc b c)))=e:=by
  intro e;unfold XE;rw [O]
 refine ⟨λ w=>¬ c.time<=b.now/\Sat R (pts g (ZZ (Xc b c))::fqC b5 f q::Zm f pl.r::Yq q pl.q::Zt (A++C)::cmC b3 c sg sp::ZK b4::pts p (Zq b m1 m2)::MapAt m1 j::MapAt m2 MB::Zu xs::Hs) w,?_,?_⟩
 ·refine ⟨c.kind,oA i,Br.e (λ _=>?_) (λ h=>absurd hk h)⟩
  refine Zi i λ w i=>⟨c.time,oS,Zb.mk rfl ⟨b.now,oS,?_⟩⟩;refine WB (λ h=>.inl ⟨rfl,i,?_,i⟩) (λ h=>.inr ⟨_,rfl,N 1 w ?_ (close i)⟩)
  ·have:=qF h;omega
  ·have:=qQ h
   exact z.2 (by rw [qf (by omega)])
 clear i;rintro _ w ⟨ht,i⟩;refine ⟨λ w=>¬ b.full/\Sat R (pts g (ZZ (Xc b c))::fqC b5 f q::Zm f pl.r::Yq q pl.q::Zt (A++C)::cmC b3 c sg sp::ZK b4::pts p (Zq b m1 m2)::MapAt m1 j::MapAt m2 MB::Zu xs::Hs) w,?_,?_⟩
 ·refine Zb.mk rfl ⟨some m2,oA i,(MB.length:Int),λ w' e=>?_,?_⟩
  ·rw [show w'=w from e]
   have h7:Sat R (MapAt m2 MB::pts g (ZZ (Xc b c))::fqC b5 f q::Zm f pl.r::Yq q pl.q::Zt (A++C)::cmC b3 c sg sp::ZK b4::pts p (Zq b m1 m2)::MapAt m1 j::Zu xs::Hs) w:=i.arr;exact MapAt.len (by kernel_rfl) h7
  rw [Q]
  with_reducible refine Br.d (λ h3=>?_) (λ h3=>?_)
  ·refine Zb.mk rfl ⟨b.next,oA i,?_⟩
   refine WB (λ h=>.inl ⟨rfl,?_,i⟩) (λ h=>.inr ⟨_,rfl,N 3 w ?_ (close i)⟩)
   ·have:=qF h
    unfold ZF.full;omega
   ·have:=qQ h
    exact z.2 (by rw [qc ht,qf (.inr (by omega))])
  ·exact WB (λ h=>by cases h) (λ h=>.inr ⟨_,rfl,N 3 w (z.2 (by rw [qc ht,qf (.inl (by omega))])) (close i)⟩)
 clear i;rintro _ w ⟨B,i⟩;have h8:=k.next;have hc:b.L.length<300/\b.next<28629151:=by unfold ZF.full at B;omega
 obtain ⟨T,U⟩:=xx ((Zy pl.r b.next c.cls c.many).1);refine ⟨λ w=>(Zy pl.r b.next c.cls c.many).2=0/\Sat R (pts g (ZZ (Xc b c))::fqC b5 f q::Zm f T::Yq q pl.q::Zt (A++C)::cmC b3 c sg sp::ZK b4::pts p (Zq b m1 m2)::MapAt m1 j::MapAt m2 MB::Zu xs::Hs) w,?_,?_⟩
 ·refine ⟨c.kind,oA i,Br.e (λ _=>?_) (λ h=>absurd hk h)⟩
  refine Zj (Sat R [fqC b5 f q,pts g (ZZ (Xc b c)),VC.tru]) i (λ w i=>?_) λ w i=>?_
  ·exact (i.arr (Hs':=fqC b5 f q::pts g (ZZ (Xc b c))::Zm f pl.r::Yq q pl.q::Zt (A++C)::cmC b3 c sg sp::ZK b4::pts p (Zq b m1 m2)::MapAt m1 j::MapAt m2 MB::Zu xs::Hs)).cons λ _ h=>h.restTru2
  refine ⟨some ⟨f,0,none⟩,oS,b.next,oS,c.cls,oS,c.many,oS,?_⟩;have i:=i.m2;refine (Zg6 i).u λ w i=>?_;refine .inl ⟨_,rfl,?_⟩;refine GI (λ I=>.inl ⟨rfl,?_,I,?_⟩) (λ I=>.inr ⟨_,rfl,N _ w (z.2 (by rw [qc ht,qc B,qf I])) ?_⟩)
  ·exact (i.arr (Hs':=fqC b5 f q::pts g (ZZ (Xc b c))::Zm f (Zy pl.r b.next c.cls c.many).1::Yq q pl.q::Zt (A++C)::cmC b3 c sg sp::ZK b4::pts p (Zq b m1 m2)::MapAt m1 j::MapAt m2 MB::Zu xs::Hs)).cons λ _ h=>h.restTru2
  ·rw [U];exact i.arr
  ·rw [ZhX I] at i
   have i:=i.b2;exact close i
 clear i;rintro _ w ⟨I,i⟩;have J:=Zaz k hr O B I;have s:XE b c=({ b.put c.flt (takeP b.next c.cls c.many) (b.L++[Xc b c]) with next:=b.next + 1 },Xp (takeP b.next c.cls c.many pl) (Xc b c)):=z.2 (by rw [qc ht,qc B,qc (λ h=>h I)]);obtain ⟨nb,E⟩:=xx ({ b.put c.flt (takeP b.next c.cls c.many) (b.L++[Xc b c]) with next:=b.next + 1 });obtain ⟨y,t⟩:=xx (takeP b.next c.cls c.many pl);rw [<-E] at s J;rw [<-t] at s;have V:y.n=c.flt:=by rw [t];exact (WT (r:=pl.r) (o:=b.next) (c:=c.cls) (m:=c.many)).1.trans hm.num
 have h9:ZfT A C c.flt y:=⟨V,hm.a,hm.c⟩;have D:j=(A++(f,q,y)::C).map flV:=by rw [G];exact GN V hm.num
 have ha:Xo nb (A++(f,q,y)::C) (xs++[(g,Xc b c)]):=by
  refine ⟨?_,?_⟩
  ·rw [E,t]
   exact hl.fset hm (takeP b.next c.cls c.many)
  ·rw [E,qe,hl.bk]
   rfl
 have W:MB++[(b.next,Value.pointer (some ⟨g,0,none⟩))]=(xs++[(g,Xc b c)]).map bkV:=by rw [l,qe];rfl
 have Y:Gl b.next (nP g) MB=MB++[(b.next,Value.pointer (some ⟨g,0,none⟩))]:=by rw [l];exact Zkc hl k _
 have S:T=y.r:=by rw [U,t];rfl
 have hb:pl.q=y.q:=by rw [t];rfl
 rw [S,hb] at i;refine Zi i λ w i=>Zb.mk rfl ⟨some m2,oS,b.next,oS,?_⟩;have i:=i.m9;refine MapAt.put ZqT i b.next (nP g) λ w i=>?_;rw [Y] at i;refine Zb.mk rfl ⟨b.next,oA i,Zb.mk rfl ?_⟩;have i:=i.m8;rw [Zc (x:=b.next + 1)];refine sRu i λ w i=>?_;have i:Sat R (pts p (Zq nb m1 m2)::MapAt m2 (MB++[(b.next,Value.pointer (some ⟨g,0,none⟩))])::pts g (ZZ (Xc b c))::fqC b5 f q::Zm f y.r::Yq q y.q::Zt (A++C)::cmC b3 c sg sp::ZK b4::MapAt m1 j::Zu xs::Hs) w:=by
  rw [E];exact i.re (pts p (Zq { b.put c.flt (takeP b.next c.cls c.many) (b.L++[Xc b c]) with next:=b.next + 1 } m1 m2))
 refine ⟨c.kind,oA i,Br.e (λ h=>by omega) (λ _=>?_)⟩;have i:Sat R (pts p (Zq nb m1 m2)::MapAt m1 ((A++(f,q,y)::C).map flV)::pts g (ZZ (Xc b c))::Zm f y.r::MapAt m2 (MB++[(b.next,Value.pointer (some ⟨g,0,none⟩))])::fqC b5 f q::Yq q y.q::Zt (A++C)::cmC b3 c sg sp::ZK b4::Zu xs::Hs) w:=by
  rw [<-D];exact i.arr
 refine (GV (x:=Xc b c) (by show 0<=b.next/\b.next<28629151;omega) h9 i).use ?_;clear i;rintro _ w ⟨sl,sb,rfl,i⟩;refine .inl ⟨_,_,_,_,_,_,_,sl,sb,rfl,?_⟩;rw [<-D] at i;have i:=i.m10.m8.m10.m9.m7.m7.m10.m10.m12.m11.m11.m11.m12;refine sRu i λ w i=>?_;have i:=i.re (rpC b4 (Xp y (Xc b c)) sl sb);refine ⟨_,_,_,_,_,_,_,sl,sb,oA i,?_⟩;have F:=hK sl sb w;rw [s] at F;refine F ?_;refine i.drop.cons λ _ i=>i.cons λ _ i=>?_;have i:=Zka i;have i:=i.b6;exact (X5 ha D W i).cons λ _ h=>h.drop.drop
def ZiZ {b:ZF} {fs:List FE} {xs:List BE} (hl:Xo b fs xs) (k:Core b) (v:Value):ZL b.next (xs.map bkV++[(b.next,v)])=some v:=by
 refine Zfr λ e h=>?_;obtain ⟨e',a,rfl⟩:=qm.1 h;have:e'.2∈b.L:=by rw [<-hl.bk];exact qm.2 ⟨e',a,rfl⟩
 have:=(k.each _ this).id.2;show e'.2.id≠b.next;omega
def ZoP {p:Nat} {b:ZF} {c:Cm} {sg sp:Sl} (hk:c.kind=7) (k0:YK b) (hr:Z9 c) (T:c.sc<18446744073709551616) (o:Sat R (Zp p b::Hs) w):
  XG prog 40 #[nP p,.agg #[nI c.kind,xZ c.pnr,nI c.flt,nI c.cls,nI c.many,nI c.time,xF c.sc,xZ c.lab,nI c.rows,.slice sg.a sg.len sg.cap,.slice sp.a sp.len sp.cap]] w
   (λ ch w'=>∃ e,ch=Zen e/\YU b c=(b,Z4 e)/\Sat R (Zp p b::Hs) w')
   (λ v w'=>∃ sl sb:Sl,v=.agg (rpV (YU b c).2 sl sb).toArray/\Sat R (Own sl 3 (Zd (YU b c).2.left)::Own sb 9 ((YU b c).2.labs.map Value.string)::Zp p (YU b c).1::Hs) w'):=by
 apply ZqS
 suffices H:∀ (X:List PanicEntry->xE) (K:Value->xE),(∀ e w',YU b c=(b,Z4 e)->Sat R (Zp p b::Hs) w'->X (Zen e) w')->
   (∀ sl sb w',Sat R (Own sl 3 (Zd (YU b c).2.left)::Own sb 9 ((YU b c).2.labs.map Value.string)::Zp p (YU b c).1::Hs) w'->K (.agg (rpV (YU b c).2 sl sb).toArray) w')->B40 (some ⟨p,0,none⟩) c.kind c.pnr c.flt c.cls c.many c.time c.sc c.lab c.rows sg sp X K w from
  H _ _ (λ e w' t J=>⟨e,rfl,t,J⟩) (λ sl sb w' J=>⟨sl,sb,rfl,J⟩)
 intro X K P hK;have k:=k0.core;obtain ⟨m1,m2,fs,xs,hl,o⟩:=Sat.book.1 o;have hp:=Zkb hl;refine Za o λ b3 w o=>Za o λ b4 w o=>?_;have o:Sat R (ZK b4::cmC b3 c sg sp::pts p (Zq b m1 m2)::MapAt m1 (fs.map flV)::MapAt m2 (xs.map bkV)::Zt fs::Zu xs::Hs) w:=o;refine ⟨c.flt,oA o,?_⟩;have o:=o.m3.m3;refine (ZfR o).use ?_ ?_
 rotate_left
 ·clear o
  rintro _ w ⟨rfl,Q,o⟩;refine .inr ⟨_,rfl,P 2 w ?_ ?_⟩
  ·unfold YU
   rw [(Zc2 hl).1 Q]
  ·have o:=o.m3.m3
   exact Sat.book.2 ⟨m1,m2,fs,xs,hl,o.drop.drop⟩
 clear o;rintro _ w ⟨⟨v1,v2,hq,rfl⟩,o⟩;obtain ⟨A,f,q,C,pl,rfl,hm,U,hv⟩:=Zfu hl k hq;simp only [Value.agg.injEq,zm,jT,Value.pointer.injEq,vv] at hv;obtain ⟨rfl,rfl⟩:=hv;obtain ⟨m,F⟩:=xx ((A++(f,q,pl)::C).map flV);obtain ⟨MB,s⟩:=xx (xs.map bkV);have h8:MB.length=b.L.length:=by rw [s,qa];exact hp
 rw [<-F,<-s] at o;have o:=o.m2.m3.m5;have o:=Wf.1 o;refine .inl ⟨_,_,rfl,?_⟩;refine Za o λ b5 w o=>?_;refine sRu o λ w o=>?_;have o:=o.re (fqC b5 f q);refine Xk o λ w o=>?_;refine Zb.mk rfl ⟨b.next,oS,c.flt,oS,c.cls,oS,c.many,oS,c.time,oS,?_⟩;refine Za o λ i w o=>⟨o.absorb,?_⟩;have o:Sat R (pts i (ZZ (Xc b c))::fqC b5 f q::Zm f pl.r::Yq q pl.q::Zt (A++C)::cmC b3 c sg sp::ZK b4::pts p (Zq b m1 m2)::MapAt m1 m::MapAt m2 MB::Zu xs::Hs) w:=by
  have o:Sat R (pts i (ZZ (Xc b c))::VC.tru::fqC b5 f q::Zm f pl.r::Yq q pl.q::Zt (A++C)::cmC b3 c sg sp::ZK b4::pts p (Zq b m1 m2)::MapAt m1 m::MapAt m2 MB::Zu xs::Hs) w:=o;exact o.cons λ _ h=>h.drop
 have close:∀ {w},Sat R (pts i (ZZ (Xc b c))::fqC b5 f q::Zm f pl.r::Yq q pl.q::Zt (A++C)::cmC b3 c sg sp::ZK b4::pts p (Zq b m1 m2)::MapAt m1 m::MapAt m2 MB::Zu xs::Hs) w->Sat R (Zp p b::Hs) w:=λ {w} o=>by
  have o:=o.m4.m9.m9.m9.m7.m7.m9.m9.m9.m9;exact X5 hl F s o.drop.drop.drop.drop
 have g:∀ {e},YU b c=e↔(if (pl.r.lims.length:Int)<=c.cls then (b,Z4 1) else if b.full then (b,Z4 3)
   else if (WW pl.q (WK b c)).2≠0 then (b,Z4 (WW pl.q (WK b c)).2)
   else (ZH c.flt (XL b c),match (ZH c.flt (XL b c)).bk b.next with
    |none=>Z4 0
    |some x=>YW (ZH c.flt (XL b c)) x))=e:=by
  intro e;unfold YU;rw [U];exact zU
 have hs:=Yg U;have closeW:∀ {w},Sat R (pts i (ZZ (V7 b c))::fqC b5 f q::Zm f pl.r::Yq q pl.q::Zt (A++C)::cmC b3 c sg sp::ZK b4::pts p (Zq b m1 m2)::MapAt m1 m::MapAt m2 MB::Zu xs::Hs) w->Sat R (Zp p b::Hs) w:=λ {w} o=>by
  have o:=o.m4.m9.m9.m9.m7.m7.m9.m9.m9.m9;exact X5 hl F s o.drop.drop.drop.drop
 refine ⟨λ w=>¬ (pl.r.lims.length:Int)<=c.cls/\Sat R (pts i (ZZ (V7 b c))::fqC b5 f q::Zm f pl.r::Yq q pl.q::Zt (A++C)::cmC b3 c sg sp::ZK b4::pts p (Zq b m1 m2)::MapAt m1 m::MapAt m2 MB::Zu xs::Hs) w,?_,?_⟩
 ·refine ⟨c.kind,oA o,Br.e (λ h=>by omega) (λ _=>?_)⟩
  refine Zj (Sat R [cmC b3 c sg sp,fqC b5 f q,VC.tru]) o (λ w o=>?_) λ w o=>?_
  ·exact (o.arr (Hs':=cmC b3 c sg sp::fqC b5 f q::pts i (ZZ (Xc b c))::Zm f pl.r::Yq q pl.q::Zt (A++C)::ZK b4::pts p (Zq b m1 m2)::MapAt m1 m::MapAt m2 MB::Zu xs::Hs)).cons λ _ h=>h.restTru2
  refine ⟨c.cls,oS,some ⟨f,0,none⟩,oS,?_⟩;have o:=o.m2;refine (Vf o).u1 λ sl w o=>?_;have hu:=Own.len o;rw [qa,Zai] at hu;have o:Sat R (pts i (ZZ (Xc b c))::fqC b5 f q::Zm f pl.r::Yq q pl.q::Zt (A++C)::cmC b3 c sg sp::ZK b4::pts p (Zq b m1 m2)::MapAt m1 m::MapAt m2 MB::Zu xs::Hs) w:=by
   have o:=o.drop;exact o.arr
  have hS:Sat R [cmC b3 c sg sp,fqC b5 f q,VC.tru] w:=(o.arr (Hs':=cmC b3 c sg sp::fqC b5 f q::pts i (ZZ (Xc b c))::Zm f pl.r::Yq q pl.q::Zt (A++C)::ZK b4::pts p (Zq b m1 m2)::MapAt m1 m::MapAt m2 MB::Zu xs::Hs)).cons λ _ h=>h.restTru2;refine .inl ⟨sl,rfl,hS,?_⟩;refine WB (λ h=>.inl ⟨rfl,hS,?_⟩) (λ h=>.inr ⟨_,rfl,P 1 w ?_ (close o)⟩)
  ·have:=qF h
   clear hS;refine sRu o λ w o=>?_;refine ZO o (by kernel_rfl) rfl (by rw [XR];simp [Value.cells]) λ w o=>?_;have o:=o.re (pts i (ZZ (V7 b c)));exact ⟨by omega,o⟩
  ·have:=qQ h
   exact g.2 (by rw [qf (by omega)])
 clear o;rintro _ w ⟨ht,o⟩;refine ⟨λ w=>¬ b.full/\Sat R (pts i (ZZ (V7 b c))::fqC b5 f q::Zm f pl.r::Yq q pl.q::Zt (A++C)::cmC b3 c sg sp::ZK b4::pts p (Zq b m1 m2)::MapAt m1 m::MapAt m2 MB::Zu xs::Hs) w,?_,?_⟩
 ·refine Zb.mk rfl ⟨some m2,oA o,(MB.length:Int),λ w' e=>?_,?_⟩
  ·rw [show w'=w from e]
   have hx:Sat R (MapAt m2 MB::pts i (ZZ (V7 b c))::fqC b5 f q::Zm f pl.r::Yq q pl.q::Zt (A++C)::cmC b3 c sg sp::ZK b4::pts p (Zq b m1 m2)::MapAt m1 m::Zu xs::Hs) w:=o.arr;exact MapAt.len (by kernel_rfl) hx
  rw [h8]
  with_reducible refine Br.d (λ h3=>?_) (λ h3=>?_)
  ·refine Zb.mk rfl ⟨b.next,oA o,?_⟩
   refine WB (λ h=>.inl ⟨rfl,?_,o⟩) (λ h=>.inr ⟨_,rfl,P 3 w ?_ (closeW o)⟩)
   ·have:=qF h
    unfold ZF.full;omega
   ·have:=qQ h
    exact g.2 (by rw [qc ht,qf (.inr (by omega))])
  ·exact WB (λ h=>by cases h) (λ h=>.inr ⟨_,rfl,P 3 w (g.2 (by rw [qc ht,qf (.inl (by omega))])) (closeW o)⟩)
 clear o;rintro _ w ⟨hf,o⟩;have hy:=k.next;have hC:b.L.length<300/\b.next<28629151:=by unfold ZF.full at hf;omega
 have h9:=k.qok pl hs.1;obtain ⟨q2,ha⟩:=xx ((WW pl.q (WK b c)).1);refine ⟨λ w=>(WW pl.q (WK b c)).2=0/\Sat R (pts i (ZZ (V7 b c))::fqC b5 f q::Zm f pl.r::Yq q q2::Zt (A++C)::cmC b3 c sg sp::ZK b4::pts p (Zq b m1 m2)::MapAt m1 m::MapAt m2 MB::Zu xs::Hs) w,?_,?_⟩
 ·refine ⟨c.kind,oA o,Br.e (λ h=>by omega) (λ _=>?_)⟩
  refine Zj (Sat R [fqC b5 f q,pts i (ZZ (V7 b c)),pts p (Zq b m1 m2),cmC b3 c sg sp,VC.tru]) o (λ w o=>?_) λ w o=>?_
  ·exact (o.arr (Hs':=fqC b5 f q::pts i (ZZ (V7 b c))::pts p (Zq b m1 m2)::cmC b3 c sg sp::Zm f pl.r::Yq q pl.q::Zt (A++C)::ZK b4::MapAt m1 m::MapAt m2 MB::Zu xs::Hs)).cons λ _ h=>h.cons λ _ h=>h.cons λ _ h=>h.restTru2
  refine ⟨some ⟨q,0,none⟩,oS,b.next,oS,c.cls,oS,c.many,oS,Zb.mk rfl ⟨b.now,oS,c.sc,oS,?_⟩⟩;have o:=o.m3;refine (ZmU (x:=WK b c) h9 o).u λ w o=>?_;have hS:Sat R [fqC b5 f q,pts i (ZZ (V7 b c)),pts p (Zq b m1 m2),cmC b3 c sg sp,VC.tru] w:=(o.arr (Hs':=fqC b5 f q::pts i (ZZ (V7 b c))::pts p (Zq b m1 m2)::cmC b3 c sg sp::Zm f pl.r::Yq q (WW pl.q (WK b c)).1::Zt (A++C)::ZK b4::MapAt m1 m::MapAt m2 MB::Zu xs::Hs)).cons λ _ h=>h.cons λ _ h=>h.cons λ _ h=>h.restTru2;refine .inl ⟨_,rfl,hS,?_⟩;refine GI (λ D=>.inl ⟨rfl,hS,D,?_⟩) (λ D=>.inr ⟨_,rfl,P _ w (g.2 (by rw [qc ht,qc hf,qf D])) ?_⟩)
  ·rw [ha];exact o.arr
  ·have Q:(WW pl.q (WK b c)).1=pl.q:=by
    unfold WW at D ⊢;split at D<;>rename_i t
    ·rw [qf t]
    ·rw [qc t]
     split at D<;>rename_i J
     ·rw [qf J]
     ·rw [qc J]
      split at D<;>rename_i h3
      ·rw [qf h3]
      ·exact absurd rfl D
   rw [Q] at o;have o:=o.b3;exact closeW o
 clear o;rintro _ w ⟨D,o⟩;have j:=Zay k hr T U ht hf D;obtain ⟨y,V,hb,hD,hE,hF,hG,E⟩:∃ y,y∈(ZH c.flt (XL b c)).L/\y.id=b.next/\y.flt=c.flt/\y.cls=c.cls/\y.many=c.many/\y.till=0/\YU b c=(ZH c.flt (XL b c),YW (ZH c.flt (XL b c)) y):=by
  rcases ZdD k0 hr T with ⟨t,_⟩|⟨_,y,_,_,_,_,_,t,J,h3,h4,h5,h6,h7⟩
  ·exfalso
   rw [g.2 (by rw [qc ht,qc hf,qc (λ h=>h D)])] at t;refine t ?_;dsimp only;split
   ·rfl
   ·exact Zb7
  ·exact ⟨y,t,J,h3,h4,h5,h6,h7⟩
 obtain ⟨nb,G⟩:=xx (XL b c);obtain ⟨z,I⟩:=xx (Zo7 (WK b c) pl);rw [<-G] at E j V;have W:z.n=c.flt:=by rw [I];exact hm.num
 have hH:ZfT A C c.flt z:=⟨W,hm.a,hm.c⟩;have hc:m=(A++(f,q,z)::C).map flV:=by rw [F];exact GN W hm.num
 have hd:Xo nb (A++(f,q,z)::C) (xs++[(i,V7 b c)]):=by
  refine ⟨?_,?_⟩
  ·rw [G,I]
   exact hl.fset hm (Zo7 (WK b c))
  ·rw [G,qe,hl.bk]
   rfl
 have N:MB++[(b.next,Value.pointer (some ⟨i,0,none⟩))]=(xs++[(i,V7 b c)]).map bkV:=by rw [s,qe];rfl
 have he:Gl b.next (nP i) MB=MB++[(b.next,Value.pointer (some ⟨i,0,none⟩))]:=by rw [s];exact Zkc hl k _
 have Y:ZL b.next (MB++[(b.next,Value.pointer (some ⟨i,0,none⟩))])=some (nP i):=by rw [s];exact ZiZ hl k _
 have hg:q2=z.q:=by rw [ha,I,(Zd1 D).2.2.2];rfl
 have hh:pl.r=z.r:=by rw [I];rfl
 rw [hh,hg] at o;have hi:nb.at c.flt=some z:=(UL j).2 ⟨hd.fl.mem_iff.1 (qm.2 ⟨(f,q,z),by simp,rfl⟩),W⟩;refine Zi o λ w o=>Zb.mk rfl ⟨some m2,oS,b.next,oS,?_⟩;have o:=o.m9;refine MapAt.put ZqT o b.next (nP i) λ w o=>?_;rw [he] at o;refine Zb.mk rfl ⟨b.next,oA o,Zb.mk rfl ?_⟩;have o:=o.m8;rw [Zc (x:=b.next + 1)];refine sRu o λ w o=>?_;have o:Sat R (pts p (Zq nb m1 m2)::MapAt m2 (MB++[(b.next,Value.pointer (some ⟨i,0,none⟩))])::pts i (ZZ (V7 b c))::fqC b5 f q::Zm f z.r::Yq q z.q::Zt (A++C)::cmC b3 c sg sp::ZK b4::MapAt m1 m::Zu xs::Hs) w:=by
  rw [G];exact o.re (pts p (Zq (XL b c) m1 m2))
 refine ⟨c.kind,oA o,Br.e (λ _=>?_) (λ h=>absurd hk h)⟩;refine ⟨c.flt,oA o,?_⟩;have o:=o.m8.m8.m5.m4.m9.m5.m9.m9.m9.m10.m10;have o:=Zka o;have o:=o.b3;have o:=Wf.2 o;rw [hc,N] at o;have o:=o.b4.b4;refine (Uu j hd hi o).use ?_;clear o;rintro _ w ⟨rfl,hI,hJ,S,hz,hj,o⟩;refine .inl ⟨rfl,?_⟩;have l:=(XC (n:=c.flt) j).1;obtain ⟨A3,a3,C3,rfl,hn⟩:=ZaG S l.ids V;have hA:a3=i:=by
  have t:=ZhE (a:=a3) hn;rw [hj,<-N,hb,Y] at t;simpa using t.symm
 subst hA;obtain ⟨p3,ho⟩:=l.at_of V;obtain ⟨D3,f3,q3,E3,rfl,hB⟩:=Ug S l.nums ho;rw [<-hz,<-hj] at o;have B:YW (ZH c.flt nb) y=Xp p3 y:=by unfold YW;rw [ho]
 rw [B] at E;have o:=o.m4.m4;have o:=Wf.1 o;have o:=o.m3;have o:=Vm.1 o;have o:=o.m1.b2.m6.m6;refine (GV (x:=y) (by omega) hB o).use ?_;clear o;rintro _ w ⟨sl,sb,rfl,o⟩;refine .inl ⟨_,_,_,_,_,_,_,sl,sb,rfl,?_⟩;have o:=o.m11.m11.m10.m11.m7.m7.m11.m10.m11.m11.m11.m11.m12;refine sRu o λ w o=>?_;have o:=o.re (rpC b4 (Xp p3 y) sl sb);refine ⟨_,_,_,_,_,_,_,sl,sb,oA o,?_⟩;have O:=hK sl sb w;rw [E] at O;refine O ?_;refine o.drop.cons λ _ o=>o.cons λ _ o=>?_;have o:=Vm.2 o;have o:=o.b6;exact (X5 S rfl rfl o).cons λ _ h=>h.drop.drop
def U0 {p m1 m2 f q a:Nat} {b:ZF} {A C:List FE} {d o:List BE} {pl:Pl} {x:Bk} (hl:Xo b (A++(f,q,pl)::C) (d++(a,x)::o)) {i MB:List (Int × Value)} (u:i=(A++(f,q,pl)::C).map flV) (v:MB=(d++(a,x)::o).map bkV)
  (h:Sat R (Zm f pl.r::Yq q pl.q::pts a (ZZ x)::pts p (Zq b m1 m2)::MapAt m1 i::MapAt m2 MB::Zt (A++C)::Zu (d++o)::Hs) w):Sat R (Zp p b::Hs) w:=by
 have h:=h.m7.m3;have h:=Vm.2 h;have h:=h.b6;exact X5 hl u v h
def Zb6 {p m1 m2 f q a b6:Nat} {b:ZF} {A C:List FE} {z g:List BE} {pl:Pl} {x:Bk} {X:List PanicEntry->xE} {K:Value->xE} (hl:Xo b (A++(f,q,pl)::C) (z++(a,x)::g)) {k MB:List (Int × Value)} (J:k=(A++(f,q,pl)::C).map flV) (L:MB=(z++(a,x)::g).map bkV)
  (j:0<=x.id/\x.id<28629151) (hm:ZfT A C x.flt pl)
  (hK:∀ sl sb w',Sat R (Own sl 3 (Zd (Zr pl.r))::Own sb 9 ((YD pl.r x.id).map Value.string)::Zp p b::Hs) w'->K (.agg (rpV (Xp pl x) sl sb).toArray) w')
  (h:Sat R (Zm f pl.r::Yq q pl.q::pts a (ZZ x)::pts p (Zq b m1 m2)::MapAt m1 k::MapAt m2 MB::Zt (A++C)::Zu (z++g)::ZK b6::Hs) w):
  nC 53 #[nP p,nP a] w λ e y=>
   (∃ l:Int,∃ t1:ByteArray,∃ t2:Int,∃ m:Int,∃ n:Int,∃ s:Int,∃ t:Int,∃ o:Sl,∃ i:Sl,(e=xR (.agg #[nI l,xZ t1,nI t2,nI m,nI n,nI s,nI t,.slice o.a o.len o.cap,.slice i.a i.len i.cap]))/\
    ∃ d:World,((Instr.storeAt 33 (xP ((some ⟨b6,0,none⟩))) (.agg #[nI l,xZ t1,nI t2,nI m,nI n,nI s,nI t,.slice o.a o.len o.cap,.slice i.a i.len i.cap])).run prog y=.ok () d)/\
    ∃ c:Int,∃ u1:ByteArray,∃ D:Int,∃ E:Int,∃ F:Int,∃ G:Int,∃ H:Int,∃ u:Sl,∃ v:Sl,(At (λ w'=>w'=d) ⟨b6,0,none⟩ [nI c,xZ u1,nI D,nI E,nI F,nI G,nI H,.slice u.a u.len u.cap,.slice v.a v.len v.cap])/\
    K (.agg #[nI c,xZ u1,nI D,nI E,nI F,nI G,nI H,.slice u.a u.len u.cap,.slice v.a v.len v.cap]) d)\/
   (∃ I:List PanicEntry,(e=.panicked I)/\X I y):=by
 subst J L;have h:=h.m2.m4.m4;refine (GV j hm h).use ?_;clear h;rintro _ w ⟨sl,sb,rfl,h⟩;refine .inl ⟨_,_,_,_,_,_,_,sl,sb,rfl,?_⟩;have h:=h.m9.m9.m9.m6.m6.m7.m9.m9.m9.m9.m10;refine sRu h λ w h=>?_;have h:=h.re (rpC b6 (Xp pl x) sl sb);refine ⟨_,_,_,_,_,_,_,sl,sb,oA h,hK sl sb w ?_⟩;exact h.drop.cons λ _ h=>h.cons λ _ h=>U0 hl rfl rfl h
def Zod {id:Int}:∀ {l:List Wt},UC id l=false->Zbd id l=l
 |[],_=>rfl
 |w::l,h=>by
  have a:¬ w.id=id/\UC id l=false:=by simpa [UC] using h
  show (if w.id=id then l else w::Zbd id l)=_
  rw [qc a.1,Zod a.2]
def Zjv {id:Int} {l:List Wt}:(ZfV l id).1=Zbd id l:=by
 unfold ZfV;cases h:UC id l with
 |true=>rfl
 |false=>exact (Zod h).symm
def ZpA {p m1 m2 a:Nat} {b:ZF} {c:Cm} {x:Bk} {fs:List FE} {j l:List BE} {sg sp:Sl} (hk:c.kind=3\/c.kind=4\/c.kind=5\/c.kind=6) (k:Core b) (hj:c.lab.size<=16) (hl:Xo b fs (j++(a,x)::l)) (hc:ZoW j l x)
  (d:Sat R (pts p (Zq b m1 m2)::MapAt m1 (fs.map flV)::MapAt m2 ((j++(a,x)::l).map bkV)::Zt fs::Zu (j++(a,x)::l)::Hs) w):
  XG prog 42 #[nP p,nP a,.agg #[nI c.kind,xZ c.pnr,nI c.flt,nI c.cls,nI c.many,nI c.time,xF c.sc,xZ c.lab,nI c.rows,.slice sg.a sg.len sg.cap,.slice sp.a sp.len sp.cap]] w
   (λ ch w'=>∃ e,ch=Zen e/\Gm b x c=(b,Z4 e)/\Sat R (Zp p b::Hs) w')
   (λ v w'=>∃ sl sb:Sl,v=.agg (rpV (Gm b x c).2 sl sb).toArray/\Sat R (Own sl 3 (Zd (Gm b x c).2.left)::Own sb 9 ((Gm b x c).2.labs.map Value.string)::Zp p (Gm b x c).1::Hs) w'):=by
 apply Zv2
 suffices H:∀ (X:List PanicEntry->xE) (K:Value->xE),(∀ e w',Gm b x c=(b,Z4 e)->Sat R (Zp p b::Hs) w'->X (Zen e) w')->
   (∀ sl sb w',Sat R (Own sl 3 (Zd (Gm b x c).2.left)::Own sb 9 ((Gm b x c).2.labs.map Value.string)::Zp p (Gm b x c).1::Hs) w'->K (.agg (rpV (Gm b x c).2 sl sb).toArray) w')->B42 (some ⟨p,0,none⟩) (some ⟨a,0,none⟩) c.kind c.pnr c.flt c.cls c.many c.time c.sc c.lab c.rows sg sp X K w from
  H _ _ (λ e w' m B=>⟨e,rfl,m,B⟩) (λ sl sb w' B=>⟨sl,sb,rfl,B⟩)
 intro X K T hK;have U:x∈b.L:=by rw [<-hl.bk];exact qm.2 ⟨(a,x),by simp,rfl⟩
 have P:=k.each x U;have hn:=k.next;have V:0<=x.id/\x.id<28629151:=⟨by have:=P.id;omega,by have:=P.id;omega⟩;obtain ⟨pl,W⟩:=k.at_of U;obtain ⟨A,f,q,C,rfl,hm⟩:=Ug hl k.nums W;have h7:=Yg W;have hg:=k.good pl h7.1;have h8:=k.qok pl h7.1;obtain ⟨I,E⟩:=xx ((A++(f,q,pl)::C).map flV);obtain ⟨MB,F⟩:=xx ((j++(a,x)::l).map bkV);have h9:ZL x.flt I=some (.agg #[nP f,nP q]):=by rw [E];exact Zek hm
 rw [<-E,<-F] at d;have y:∀ {e},Gm b x c=e↔(if c.kind=3 then (if x.state≠1 then (b,Z4 7) else ({ b with L:=V5 Bk.id x.id X6 b.L },Xp pl (X6 x)))
  else if c.kind=4 then (ZH x.flt (ZbU b x),⟨0,c.pnr,0,0,0,0,0,[],[]⟩)
  else if x.state=3 then (b,Z4 7)
  else if c.kind=5 then
   (if (ZR pl.r x.id c.lab).2≠0 then (b,Z4 (ZR pl.r x.id c.lab).2)
    else (b.put x.flt (Xe (ZR pl.r x.id c.lab).1) b.L,Xp (Xe (ZR pl.r x.id c.lab).1 pl) x))
  else (if (ZQ pl.r x.id).2.2≠0 then (b,Z4 (ZQ pl.r x.id).2.2)
    else (b.put x.flt (Xe (ZQ pl.r x.id).1) b.L,Xp (Xe (ZQ pl.r x.id).1 pl) x)))=e:=by
  intro e;unfold Gm;rw [W]
 refine Za d λ b5 w d=>Za d λ b6 w d=>?_;have d:Sat R (Zt (A++(f,q,pl)::C)::Zu (j++(a,x)::l)::pts p (Zq b m1 m2)::MapAt m1 I::MapAt m2 MB::cmC b5 c sg sp::ZK b6::Hs) w:=by
  have d:Sat R (ZK b6::cmC b5 c sg sp::pts p (Zq b m1 m2)::MapAt m1 I::MapAt m2 MB::Zt (A++(f,q,pl)::C)::Zu (j++(a,x)::l)::Hs) w:=d;exact d.arr
 have d:=Wf.1 d;have d:=d.m3;have d:=Vm.1 d;refine Xk d λ w d=>?_;refine Zb.mk rfl ⟨some m1,oS,Zb.mk rfl ⟨x.flt,oS,some ⟨f,0,none⟩,some ⟨q,0,none⟩,λ w' h=>?_,?_⟩⟩
 ·have hd:Sat R (MapAt m1 I::VC.tru::pts a (ZZ x)::Zu (j++l)::Zm f pl.r::Yq q pl.q::Zt (A++C)::pts p (Zq b m1 m2)::MapAt m2 MB::cmC b5 c sg sp::ZK b6::Hs) w':=Sat.arr h
  have:=MapAt.look Zqq hd x.flt false;rw [h9] at this;exact this
 refine Za d λ b7 w d=>⟨d.absorb,?_⟩;refine sRu d λ w d=>?_;have d:=d.re (fqC b7 f q);have d:Sat R (Zm f pl.r::Yq q pl.q::pts a (ZZ x)::pts p (Zq b m1 m2)::MapAt m1 I::MapAt m2 MB::Zt (A++C)::Zu (j++l)::ZK b6::fqC b7 f q::cmC b5 c sg sp::Hs) w:=by
  have d:Sat R (fqC b7 f q::pts a (ZZ x)::Zu (j++l)::Zm f pl.r::Yq q pl.q::Zt (A++C)::pts p (Zq b m1 m2)::MapAt m1 I::MapAt m2 MB::cmC b5 c sg sp::ZK b6::Hs) w:=d.cons λ _ h=>h.drop;exact d.arr
 have close:∀ {w},Sat R (Zm f pl.r::Yq q pl.q::pts a (ZZ x)::pts p (Zq b m1 m2)::MapAt m1 I::MapAt m2 MB::Zt (A++C)::Zu (j++l)::ZK b6::fqC b7 f q::cmC b5 c sg sp::Hs) w->Sat R (Zp p b::Hs) w:=λ {w} d=>
  (U0 hl E F d).cons λ _ h=>h.drop.drop.drop
 refine Zb.mk rfl ⟨x.state,oA d,c.kind,oA d,?_⟩;refine Br.e (λ O=>?_) (λ O=>Br.e (λ Q=>?_) (λ Q=>Br.e (λ h5=>?_) (λ h5=>Br.e (λ h6=>?_) (λ h6=>by omega))))
 ·-- confirmed
  refine Zb.mk rfl ⟨x.state,oA d,?_⟩;refine WB (λ h=>.inl ⟨rfl,?_⟩) (λ h=>.inr ⟨_,rfl,T 7 w (y.2 ?_) (close d)⟩)
  rotate_left
  ·have m:¬ x.state=1:=by simpa using h
   rw [qf O,qf m]
  have m:x.state=1:=by simpa using h
  have g:=y.2 (by rw [qf O,qc (λ h=>h m)]);refine Zb.mk rfl ?_;have d:=d.m2;refine sRu d λ w d=>Zb.mk rfl ?_;refine ZO d (by kernel_rfl) rfl (by rw [XR];simp [Value.cells]) λ w d=>?_;have d:=d.re (pts a (ZZ (X6 x)));have d:=d.b2;have s:Xo { b with L:=V5 Bk.id x.id X6 b.L } (A++(f,q,pl)::C) (j++(a,X6 x)::l):=⟨hl.fl,hl.bset k.ids X6⟩;refine Zb6 (Hs:=fqC b7 f q::cmC b5 c sg sp::Hs) (b:={ b with L:=V5 Bk.id x.id X6 b.L }) (x:=X6 x) (MB:=MB) s E (by rw [F];exact (ZoD (show (X6 x).id=x.id from rfl)).symm) V hm (λ sl sb w' d=>?_) d
  have i:=hK sl sb w';rw [g] at i;exact i (d.cons λ _ h=>h.cons λ _ h=>h.cons λ _ h=>h.drop.drop)
 ·-- cancelled
  have g:=y.2 (by rw [qc O,qf Q]);have J:=Zdd k U;obtain ⟨z,G⟩:=xx (if x.state=3 then ZmP x.id pl else Zar x.id pl:Pl)
  refine ⟨λ w=>Sat R (Zm f z.r::Yq q z.q::pts a (ZZ x)::pts p (Zq b m1 m2)::MapAt m1 I::MapAt m2 MB::Zt (A++C)::Zu (j++l)::ZK b6::fqC b7 f q::cmC b5 c sg sp::Hs) w,?_,?_⟩
  ·refine Br.e (λ hs=>?_) (λ hs=>?_)
   ·rw [qf hs] at G
    refine Zi d λ w d=>⟨some ⟨q,0,none⟩,oS,Zb.mk rfl ⟨x.id,oS,?_⟩⟩;refine (Zbt (by have:=h8.len;omega) d.swap).u λ w d=>?_;rw [Zjv] at d;refine .inl ⟨_,rfl,?_⟩;rw [G];exact d.swap
   ·rw [qc hs] at G
    refine Zi d λ w d=>⟨some ⟨f,0,none⟩,oS,Zb.mk rfl ⟨x.id,oS,?_⟩⟩;refine (Zg7 d).u λ w d=>?_;refine .inl ⟨_,rfl,?_⟩;rw [G];exact d
  clear d;rintro _ w d;have D:z.n=x.flt:=by
   rw [G];split
   ·exact hm.num
   ·exact (Uf (r:=pl.r) (o:=x.id)).1.trans hm.num
  have ha:I=(A++(f,q,z)::C).map flV:=by rw [E];exact GN D hm.num
  have s:Xo (ZbU b x) (A++(f,q,z)::C) (j++l):=by
   refine ⟨?_,?_⟩
   ·have m:=hl.fset hm (ZmP x.id)
    have B:=hl.fset hm (Zar x.id);unfold ZbU;rw [G];split
    ·exact m
    ·exact B
   ·have m:=hl.bdel k.ids
    unfold ZbU;split
    ·exact m
    ·exact m
  have hb:(ZbU b x).at x.flt=some z:=(UL J).2 ⟨s.fl.mem_iff.1 (qm.2 ⟨(f,q,z),by simp,rfl⟩),D⟩;have he:Zq (ZbU b x) m1 m2=Zq b m1 m2:=by
   unfold ZbU;split<;>rfl
  refine Zi d λ w d=>Zb.mk rfl ⟨some m2,oS,Zb.mk rfl ⟨x.id,oS,?_⟩⟩;have d:=d.m5;refine MapAt.del ZqT d x.id λ w d=>?_;rw [F,ZoC hc] at d;refine Zb.mk rfl ⟨x.flt,oA d,?_⟩;have d:Sat R (Zm f z.r::Yq q z.q::Zt (A++C)::MapAt m2 ((j++l).map bkV)::pts a (ZZ x)::pts p (Zq (ZbU b x) m1 m2)::MapAt m1 ((A++(f,q,z)::C).map flV)::Zu (j++l)::ZK b6::fqC b7 f q::cmC b5 c sg sp::Hs) w:=by
   rw [he,<-ha];exact d.arr
  have d:=Wf.2 d;have d:=d.b4.b3.b5;refine (Uu J s hb d).use ?_;clear d;rintro _ w ⟨rfl,Y,S,hf,hh,hi,d⟩;refine .inl ⟨rfl,c.pnr,oA d,?_⟩;have d:=d.m6;refine sRu d λ w d=>?_;have d:=d.re (rpC b6 ⟨0,c.pnr,0,0,0,0,0,[],[]⟩ Ze Ze);refine ⟨_,_,_,_,_,_,_,Ze,Ze,oA d,?_⟩;have i:=hK Ze Ze w;rw [g] at i;refine i (Own.nil (Own.nil ?_));rw [<-hh,<-hi] at d;have d:Sat R (pts p (Zq (ZH x.flt (ZbU b x)) m1 m2)::MapAt m1 (Y.map flV)::MapAt m2 (S.map bkV)::Zt Y::Zu S::pts a (ZZ x)::fqC b7 f q::cmC b5 c sg sp::Hs) w:=d.drop;exact (Sat.book.2 ⟨m1,m2,Y,S,hf,d⟩).cons λ _ h=>h.drop.drop.drop
 ·-- a seat
  refine WB (λ h=>.inl ⟨rfl,?_⟩) (λ h=>.inr ⟨_,rfl,T 7 w (y.2 ?_) (close d)⟩)
  rotate_left
  ·have m:x.state=3:=by simpa using h
   rw [qc O,qc Q,qf m]
  have m:¬ x.state=3:=by simpa using h
  refine Zj (Sat R [pts a (ZZ x),fqC b7 f q,cmC b5 c sg sp,VC.tru]) d (λ w d=>?_) λ w d=>?_
  ·exact (d.arr (Hs':=pts a (ZZ x)::fqC b7 f q::cmC b5 c sg sp::Zm f pl.r::Yq q pl.q::pts p (Zq b m1 m2)::MapAt m1 I::MapAt m2 MB::Zt (A++C)::Zu (j++l)::ZK b6::Hs)).cons λ _ h=>h.cons λ _ h=>h.restTru2
  refine ⟨some ⟨f,0,none⟩,oS,Zb.mk rfl ⟨x.id,oS,c.lab,oS,?_⟩⟩;refine (Znn (by omega) d).u λ w d=>?_;refine .inl ⟨_,rfl,?_⟩;refine GI (λ N=>.inl ⟨rfl,?_,?_⟩) (λ N=>.inr ⟨_,rfl,T _ w (y.2 (by rw [qc O,qc Q,qc m,qf h5,qf N])) ?_⟩)
  rotate_left 2
  ·rw [Zjp N] at d
   exact close d
  ·exact (d.arr (Hs':=pts a (ZZ x)::fqC b7 f q::cmC b5 c sg sp::Zm f (ZR pl.r x.id c.lab).1::Yq q pl.q::pts p (Zq b m1 m2)::MapAt m1 I::MapAt m2 MB::Zt (A++C)::Zu (j++l)::ZK b6::Hs)).cons λ _ h=>h.cons λ _ h=>h.restTru2
  have g:=y.2 (by rw [qc O,qc Q,qc m,qf h5,qc (λ h=>h N)]);have D:(Xe (ZR pl.r x.id c.lab).1 pl).n=x.flt:=(Zh1 hg N).num.trans hm.num;have s:Xo (b.put x.flt (Xe (ZR pl.r x.id c.lab).1) b.L) (A++(f,q,Xe (ZR pl.r x.id c.lab).1 pl)::C) (j++(a,x)::l):=⟨hl.fset hm (Xe (ZR pl.r x.id c.lab).1),hl.bk⟩;refine Zb6 (Hs:=fqC b7 f q::cmC b5 c sg sp::Hs) s (by rw [E];exact (GN hm.num D).symm) F V ⟨D,hm.a,hm.c⟩ (λ sl sb w' d=>?_) d;have i:=hK sl sb w';rw [g] at i;exact i (d.cons λ _ h=>h.cons λ _ h=>h.cons λ _ h=>h.drop.drop)
 ·-- seats of themselves
  refine WB (λ h=>.inl ⟨rfl,?_⟩) (λ h=>.inr ⟨_,rfl,T 7 w (y.2 ?_) (close d)⟩)
  rotate_left
  ·have m:x.state=3:=by simpa using h
   rw [qc O,qc Q,qf m]
  have m:¬ x.state=3:=by simpa using h
  refine Zi d λ w d=>⟨some ⟨f,0,none⟩,oS,Zb.mk rfl ⟨x.id,oS,?_⟩⟩;refine (Zno d).u1 λ t w d=>?_;have d:=d.drop;refine .inl ⟨_,_,rfl,?_⟩;refine GI (λ N=>.inl ⟨rfl,?_⟩) (λ N=>.inr ⟨_,rfl,T _ w (y.2 (by rw [qc O,qc Q,qc m,qc h5,qf N])) ?_⟩)
  rotate_left
  ·rw [ZoM N] at d
   exact close d
  have g:=y.2 (by rw [qc O,qc Q,qc m,qc h5,qc (λ h=>h N)]);have D:(Xe (ZQ pl.r x.id).1 pl).n=x.flt:=(Zi4 N).num.trans hm.num;have s:Xo (b.put x.flt (Xe (ZQ pl.r x.id).1) b.L) (A++(f,q,Xe (ZQ pl.r x.id).1 pl)::C) (j++(a,x)::l):=⟨hl.fset hm (Xe (ZQ pl.r x.id).1),hl.bk⟩;refine Zb6 (Hs:=fqC b7 f q::cmC b5 c sg sp::Hs) s (by rw [E];exact (GN hm.num D).symm) F V ⟨D,hm.a,hm.c⟩ (λ sl sb w' d=>?_) d;have i:=hK sl sb w';rw [g] at i;exact i (d.cons λ _ h=>h.cons λ _ h=>h.cons λ _ h=>h.drop.drop)
def ZeM {l m:List Int} (i:l.Perm m) (h:m.Pairwise λ a b=>a<b):ZbC l=m:=by
 have tr:∀ a b c:Int,decide (a<=b)=true->decide (b<=c)=true->decide (a<=c)=true:=λ a b c d o=>by simp only [qV] at *;omega
 have to:∀ a b:Int,(decide (a<=b)||decide (b<=a))=true:=λ a b=>by simp only [jy,qV];omega
 exact uN (λ a b _ _ d o=>by simp only [qV] at d o;omega) (vK tr to l) (h.imp λ u=>by simp only [qV];omega) ((up l _).trans i)
def Zuw {b:ZF} {fs:List FE} {xs:List BE} (hl:Xo b fs xs):(xs.map bkV).map (·.1)=b.L.map Bk.id:=by
 rw [<-hl.bk,qZ,qZ];rfl
def ZrY {b:ZF} {fs:List FE} {xs:List BE} (hl:Xo b fs xs):((fs.map flV).map (·.1)).Perm (b.fl.map Pl.n):=by
 have:=hl.fl.map Pl.n;rw [qZ] at this ⊢;exact this
def Zjs {b:ZF} (k:Core b):(b.L.map Bk.id).Pairwise λ a b=>a<b:=vt.2 k.ids
def ZgD {b:ZF} (k:Core b):(b.fl.map Pl.n).Pairwise λ a b=>a<b:=vt.2 k.nums
def ZuY {l:List Int} (h:l.Pairwise λ a b=>a<b):l.Nodup:=h.imp λ d=>by omega
def ZdI {m:Nat} {b:ZF} {fs:List FE} {xs:List BE} {K:Sl->xE} (k:Core b) (hl:Xo b fs xs) (z:Sat R (MapAt m (xs.map bkV)::Hs) w)
  (j:∀ s w',Sat R (Own s 3 (Zd (b.L.map Bk.id))::MapAt m (xs.map bkV)::Hs) w'->K s w'):
  nC 66 #[.map (some m)] w λ e n=>∃ t:Value,e=xR t/\nC 61 #[t] n λ e p=>∃ t:Sl,e=xR (.slice t.a t.len t.cap)/\K t p:=by
 have hk:=Zuw hl;obtain ⟨l,c,hs,u,q⟩:=MapAt.iff.1 z;obtain ⟨r,d,f,h⟩:=Zal hs u (by rw [hk];exact ZuY (Zjs k)) (λ i hi=>by
  rw [hk] at hi;obtain ⟨x,A,rfl⟩:=qm.1 hi;have:=(k.each x A).id;have:=k.next;omega) (by rw [qa,Zkb hl];have:=k.many;omega) q.at
 refine (callsIn_wide.1 (Tryz.maps_Keys_66 (some m) w)).mono ?_;rintro _ _ ⟨rfl,rfl⟩;refine ⟨_,rfl,?_⟩;refine (callsIn_wide.1 (Tryz.slices_Sorted_keys_61_66 m _ r _ w d (by unfold maxLen;omega) (by omega))).mono ?_;rintro _ w' ⟨v,ss,rfl,hS,o,g,D⟩;have y:Sat R (MapAt m (xs.map bkV)::Hs) (w.alloc (.cells #[.map (some m)] 78)):=(Sat.alloc _ z).drop;obtain ⟨s,rfl,E⟩:=Sat.ownsRow y D o;refine ⟨s,rfl,j s _ ?_⟩;have e:=ZeM (uk hk) (Zjs k);rw [<-VO (h ss hS)] at e;rw [<-e];exact E
def ZdH {m:Nat} {b:ZF} {fs:List FE} {xs:List BE} {K:Sl->xE} (k:Core b) (hl:Xo b fs xs) (z:Sat R (MapAt m (fs.map flV)::Hs) w)
  (j:∀ s w',Sat R (Own s 3 (Zd (b.fl.map Pl.n))::MapAt m (fs.map flV)::Hs) w'->K s w'):
  nC 62 #[.map (some m)] w λ e p=>∃ t:Value,e=xR t/\nC 61 #[t] p λ e q=>∃ t:Sl,e=xR (.slice t.a t.len t.cap)/\K t q:=by
 have hk:=ZrY hl;obtain ⟨l,c,hs,u,f⟩:=MapAt.iff.1 z;obtain ⟨A,d,D,h⟩:=Zal hs u (hk.nodup_iff.2 (ZuY (ZgD k))) (λ i hi=>by
  obtain ⟨x,E,rfl⟩:=qm.1 (hk.mem_iff.1 hi);have:=(k.good x E).num;show -1000000000<=x.r.num/\x.r.num<=1000000000;omega) (by rw [qa,Zn1 hl];have:=k.few;omega) f.at
 refine (callsIn_wide.1 (Tryz.maps_Keys_62 (some m) w)).mono ?_;rintro _ _ ⟨rfl,rfl⟩;refine ⟨_,rfl,?_⟩;refine (callsIn_wide.1 (Tryz.slices_Sorted_keys_61_62 m _ A _ w d (by unfold maxLen;omega) (by omega))).mono ?_;rintro _ w' ⟨v,ss,rfl,hS,o,g,F⟩;have y:Sat R (MapAt m (fs.map flV)::Hs) (w.alloc (.cells #[.map (some m)] 77)):=(Sat.alloc _ z).drop;obtain ⟨s,rfl,G⟩:=Sat.ownsRow y F o;refine ⟨s,rfl,j s _ ?_⟩;have e:=ZeM hk (ZgD k);rw [<-VO (h ss hS)] at e;rw [<-e];exact G
def Zqw {i u:FuncId} {m:Nat} {K:Sl->xE} {v y:Ending->xE}
  (h:Calls prog i #[.map (some m)] w λ e d=>∃ t:Value,e=xR t/\Calls prog u #[t] d λ e o=>∃ t:Sl,e=xR (.slice t.a t.len t.cap)/\K t o):
  Calls prog i #[.map (some m)] w λ e d=>(∃ t:Value,(e=xR t)/\Calls prog u #[t] d λ e o=>(∃ t:Sl,(e=xR (.slice t.a t.len t.cap))/\K t o)\/y e o)\/v e d:=by
 refine h.mono ?_;rintro _ w ⟨t,rfl,h⟩;refine .inl ⟨t,rfl,h.mono ?_⟩;rintro _ w ⟨t,rfl,h⟩;exact .inl ⟨t,rfl,h⟩
def Zm2 {p:Nat} {b:ZF} {n:Int} (k:Core b) (y:n∈b.fl.map Pl.n) (h:Sat R (Zp p b::Hs) w):
  Zg prog 103 #[nP p,nI n] w λ v w'=>v=.tuple #[]/\Sat R (Zp p (ZH n b)::Hs) w':=by
 obtain ⟨pl,a,d⟩:=qm.1 y;obtain ⟨m1,m2,fs,xs,hl,h⟩:=Sat.book.1 h;refine (Uu k hl ((UL k).2 ⟨a,d⟩) h).use ?_;clear h;rintro _ w ⟨rfl,o,i,u,z,g,h⟩;refine ⟨_,rfl,rfl,Sat.book.2 ⟨m1,m2,o,i,u,?_⟩⟩;rw [z,g];exact h
structure ExpI (b:ZF) (t:Int) (j:Nat) (b':ZF):Prop where
 res:WO b t=VY (b.L.drop j) b'
 core:Core b'
 now:b'.now=t
 left:∀ x∈b.L.drop j,x∈b'.L
structure Zyh (ns:List Int) (t:Int) (B:ZF) (j:Nat) (b':ZF):Prop where
 res:XU ns B=XU (ns.drop j) b'
 core:Core b'
 now:b'.now=t
 nums:b'.fl.map Pl.n=ns
def Zly {p:Nat} {b:ZF} {c:Cm} {sg sp:Sl} (k:Core b) (hr:Z9 c) (i:Sat R (Zp p b::Hs) w):
  XG prog 41 #[nP p,.agg #[nI c.kind,xZ c.pnr,nI c.flt,nI c.cls,nI c.many,nI c.time,xF c.sc,xZ c.lab,nI c.rows,.slice sg.a sg.len sg.cap,.slice sp.a sp.len sp.cap]] w
   (λ ch w'=>∃ e,ch=Zen e/\YH b c=(b,Z4 e)/\Sat R (Zp p b::Hs) w')
   (λ v w'=>∃ sl sb:Sl,v=.agg (rpV (YH b c).2 sl sb).toArray/\Sat R (Own sl 3 (Zd (YH b c).2.left)::Own sb 9 ((YH b c).2.labs.map Value.string)::Zp p (YH b c).1::Hs) w'):=by
 apply Zv3
 suffices H:∀ (X:List PanicEntry->xE) (K:Value->xE),(∀ e w',YH b c=(b,Z4 e)->Sat R (Zp p b::Hs) w'->X (Zen e) w')->
   (∀ w',¬ c.time<b.now->Sat R (Zp p (YH b c).1::Hs) w'->K (.agg (rpV ⟨0,emS,0,0,0,0,c.time,[],[]⟩ Ze Ze).toArray) w')->B41 (some ⟨p,0,none⟩) c.kind c.pnr c.flt c.cls c.many c.time c.sc c.lab c.rows sg sp X K w from
  H _ _ (λ e w' I h2=>⟨e,rfl,I,h2⟩) (λ w' I h2=>by
   have e:(YH b c).2=⟨0,emS,0,0,0,0,c.time,[],[]⟩:=by unfold YH;rw [qc I]
   rw [e];exact ⟨Ze,Ze,rfl,Own.nil (Own.nil h2)⟩)
 intro X K hX hK;have h5:=hr.time;obtain ⟨m1,m2,fs,xs,hl,i⟩:=Sat.book.1 i;refine Za i λ b3 w i=>Za i λ b4 w i=>?_;have i:Sat R (pts p (Zq b m1 m2)::MapAt m1 (fs.map flV)::MapAt m2 (xs.map bkV)::Zt fs::Zu xs::ZK b4::cmC b3 c sg sp::Hs) w:=by
  have i:Sat R (ZK b4::cmC b3 c sg sp::pts p (Zq b m1 m2)::MapAt m1 (fs.map flV)::MapAt m2 (xs.map bkV)::Zt fs::Zu xs::Hs) w:=i;exact i.arr
 refine Zi i λ w i=>⟨c.time,oS,Zb.mk rfl ⟨b.now,oS,?_⟩⟩;refine WB (λ h=>.inl ⟨rfl,i,?_⟩) (λ h=>.inr ⟨_,rfl,hX 7 w ?_ ((Sat.book.2 ⟨m1,m2,fs,xs,hl,i⟩).cons λ _ h=>h.drop.drop)⟩)
 rotate_left
 ·have:=qQ h
  unfold YH;rw [qf (by omega)]
 have ht:¬ c.time<b.now:=by have:=qF h;omega
 have g:(YH b c).1=XU (b.fl.map Pl.n) (WO b c.time):=by unfold YH;rw [qc ht]
 refine ⟨c.time,oA i,Zb.mk rfl ?_⟩;rw [Zs];refine sRu i λ w i=>?_;have k1:=ZfH k h5;obtain ⟨V,E⟩:=xx ({ b with now:=c.time });have i:Sat R (pts p (Zq V m1 m2)::MapAt m1 (fs.map flV)::MapAt m2 (xs.map bkV)::Zt fs::Zu xs::ZK b4::cmC b3 c sg sp::Hs) w:=by
  rw [E];exact i.re (pts p (Zq { b with now:=c.time } m1 m2))
 have h6:Xo V fs xs:=by rw [E];exact ⟨hl.fl,hl.bk⟩
 rw [<-E] at k1;have h7:V.L=b.L:=by rw [E]
 refine Zb.mk rfl ⟨some m2,oA i,?_⟩;have i:=i.m2;refine Zqw (ZdI k1 h6 i ?_);clear i;intro s w i;have i:Sat R (Own s 3 (Zd (b.L.map Bk.id))::Zp p V::ZK b4::cmC b3 c sg sp::Hs) w:=by
  rw [h7] at i;refine i.cons λ _ i=>Sat.book.2 ⟨m1,m2,fs,xs,h6,?_⟩;exact i.arr
 obtain ⟨ids,F⟩:=xx (b.L.map Bk.id);have he:ids.length=b.L.length:=by rw [F,qa]
 rw [<-F] at i;have hq:=k.many;refine ⟨λ t w=>∃ (j:Nat) (b':ZF),t=j/\j<=b.L.length/\ExpI b c.time j b'/\Sat R (Own s 3 (Zd ids)::Zp p b'::ZK b4::cmC b3 c sg sp::Hs) w,λ t _=>b.L.length - t.toNat,⟨0,V,rfl,jB _,⟨by rw [E];rfl,k1,by rw [E],λ x hx=>by rw [h7];exact hx⟩,i⟩,?_⟩;clear i;rintro _ _ w ⟨j,b',rfl,hj,hi,i⟩;have hf:=Own.len i;rw [qa,he] at hf;refine Br.d (λ hg=>?_) (λ hh=>?_)
 ·have l:j<b.L.length:=by omega
  obtain ⟨x,hx⟩:=xx (b.L[j]);have z:b.L.drop j=x::b.L.drop (j + 1):=by rw [hx];exact qv l
  have h8:∀ h:j<ids.length,ids[j]=x.id:=λ h=>by subst F;rw [qX,hx]
  refine Own.ix i (eqS i) j rfl (by omega) ?_;rw [h8];obtain ⟨m1,m2,fs,xs,hl,i⟩:=Sat.book.1 i.swap;have W:x∈b'.L:=hi.left x (by rw [z];simp);obtain ⟨pl,hk⟩:=hi.core.at_of W;obtain ⟨A,f,q,C,rfl,hm⟩:=Ug hl hi.core.nums hk;obtain ⟨Y,a,S,rfl,h9⟩:=ZaG hl hi.core.ids W;obtain ⟨J,N⟩:=xx ((A++(f,q,pl)::C).map flV);obtain ⟨MB,O⟩:=xx ((Y++(a,x)::S).map bkV);have B:ZL x.flt J=some (.agg #[nP f,nP q]):=by rw [N];exact Zek hm
  have T:ZL x.id MB=some (nP a):=by rw [O];exact ZhE h9
  rw [<-N,<-O] at i;have i:=i.m4.m4;have i:=Wf.1 i;have i:=i.m3;have i:=Vm.1 i;have i:=i.b3.m4.b7.b7;refine Zb.mk rfl ⟨some m2,oA i,some ⟨a,0,none⟩,λ w' e=>?_,?_⟩
  ·rw [show w'=w from e]
   have P:Sat R (MapAt m2 MB::Zm f pl.r::Yq q pl.q::pts a (ZZ x)::pts p (Zq b' m1 m2)::MapAt m1 J::Zt (A++C)::Zu (Y++S)::Own s 3 (Zd ids)::ZK b4::cmC b3 c sg sp::Hs) w:=i.arr;have:=MapAt.look ZqT P x.id false;rw [T] at this;exact this
  refine ⟨λ t w=>t=old b'.now x/\Sat R (Zm f pl.r::Yq q pl.q::pts a (ZZ x)::pts p (Zq b' m1 m2)::MapAt m1 J::MapAt m2 MB::Zt (A++C)::Zu (Y++S)::Own s 3 (Zd ids)::ZK b4::cmC b3 c sg sp::Hs) w,?_,?_⟩
  ·refine Zi i λ w i=>Zb.mk rfl ⟨x.state,oS,Br.e (λ I=>?_) (λ I=>?_)⟩
   ·refine Zb.mk rfl ⟨x.till,oS,Zb.mk rfl ⟨b'.now,oS,?_,i⟩⟩
    unfold old;rw [qE I,vB]
   ·refine ⟨?_,i⟩
    unfold old;rw [qz I,Bool.false_and]
  clear i;rintro _ _ w ⟨rfl,i⟩;have D:∀ b2,(if old b'.now x then Uh b' x else b')=b2->WO b c.time=VY (b.L.drop (j + 1)) b2:=λ b2 e=>by
   rw [hi.res,z,<-e];rfl
  have h0:wI ((j:Int) + 1)=((j + 1:Nat):Int):=by rw [Zc];omega
  rw [h0];cases hold:old b'.now x with
  |false=>
   rw [hold] at D;refine Br.f rfl ⟨⟨j + 1,b',rfl,l,⟨D _ rfl,hi.core,hi.now,λ y hy=>hi.left y (by rw [z];exact qj _ hy)⟩,?_⟩,by dsimp only;omega⟩;have i:=U0 hl N O i;exact i.swap
  |true=>
   rw [hold] at D;have hs:x.state=1:=by
    unfold old at hold;simp only [ql,qV] at hold;exact hold.1
   refine Br.t rfl ?_;refine Zj (Sat R [pts p (Zq b' m1 m2),pts a (ZZ x),MapAt m1 J,VC.tru]) i (λ w i=>?_) λ w i=>?_
   ·exact (i.arr (Hs':=pts p (Zq b' m1 m2)::pts a (ZZ x)::MapAt m1 J::Zm f pl.r::Yq q pl.q::MapAt m2 MB::Zt (A++C)::Zu (Y++S)::Own s 3 (Zd ids)::ZK b4::cmC b3 c sg sp::Hs)).cons λ _ h=>h.cons λ _ h=>h.restTru2
   refine Zb.mk rfl ⟨some m1,oS,Zb.mk rfl ⟨x.flt,oS,some ⟨f,0,none⟩,some ⟨q,0,none⟩,λ w' h=>?_,?_⟩⟩
   ·have P:Sat R (MapAt m1 J::pts p (Zq b' m1 m2)::pts a (ZZ x)::[VC.tru]) w':=Sat.arr h
    have:=MapAt.look Zqq P x.flt false;rw [B] at this;exact this
   refine (Zg7 i).u λ w i=>?_;refine .inl ⟨_,rfl,?_,Zb.mk rfl ⟨some m2,oA i,?_⟩⟩
   ·exact (i.arr (Hs':=pts p (Zq b' m1 m2)::pts a (ZZ x)::MapAt m1 J::Zm f (Xg pl.r x.id).1::Yq q pl.q::MapAt m2 MB::Zt (A++C)::Zu (Y++S)::Own s 3 (Zd ids)::ZK b4::cmC b3 c sg sp::Hs)).cons λ _ h=>h.cons λ _ h=>h.restTru2
   have i:Sat R (Zm f (Zar x.id pl).r::Yq q (Zar x.id pl).q::pts a (ZZ x)::pts p (Zq (Uh b' x) m1 m2)::MapAt m1 J::MapAt m2 MB::Zt (A++C)::Zu (Y++S)::Own s 3 (Zd ids)::ZK b4::cmC b3 c sg sp::Hs) w:=i;have i:=i.m5;refine MapAt.del ZqT i x.id λ w i=>?_;rw [O,ZoC h9] at i;have ho:(Zar x.id pl).n=x.flt:=(Uf (r:=pl.r) (o:=x.id)).1.trans hm.num;have hp:Xo (Uh b' x) (A++(f,q,Zar x.id pl)::C) (Y++S):=⟨hl.fset hm (Zar x.id),hl.bdel hi.core.ids⟩;have ha:J=(A++(f,q,Zar x.id pl)::C).map flV:=by rw [N];exact GN ho hm.num
   have Q:∀ y∈b.L.drop (j + 1),y.id≠x.id:=λ y hy=>by
    have I:=k.ids.sublist (List.drop_sublist j b.L);rw [z] at I;have:=(qC.1 I).1 y hy;omega
   refine ⟨⟨j + 1,Uh b' x,rfl,l,⟨D _ rfl,ZaA hi.core W (by omega),hi.now,λ y hy=>?_⟩,?_⟩,by dsimp only;omega⟩
   ·exact WY.2 ⟨hi.left y (by rw [z];exact qj _ hy),Q y hy⟩
   ·have i:=i.m3.b8.b4
    have i:=X5 hp ha rfl i;exact i.swap.cons λ _ h=>h.cons λ _ h=>h.drop
 ·have h3:j=b.L.length:=by omega
  subst h3;have hb:WO b c.time=b':=by rw [hi.res,uS];rfl
  obtain ⟨m1,m2,fs,xs,hl,i⟩:=Sat.book.1 i.swap;refine Zb.mk rfl ⟨some m1,oA i,?_⟩;have i:=i.m1;refine Zqw (ZdH hi.core hl i ?_);clear i;intro s2 w i;obtain ⟨ns,U⟩:=xx (b'.fl.map Pl.n);rw [<-U] at i;have hu:ns.length<=8:=by rw [U,qa];exact hi.core.few
  have G:=(Zb5 k h5).2.2.2.2;rw [hb,<-U] at G;rw [<-G,hb] at g;have i:Sat R (Own s2 3 (Zd ns)::Zp p b'::Own s 3 (Zd ids)::ZK b4::cmC b3 c sg sp::Hs) w:=by
   refine i.cons λ _ i=>Sat.book.2 ⟨m1,m2,fs,xs,hl,?_⟩;exact i.arr
  refine ⟨λ t w=>∃ (j:Nat) (b2:ZF),t=j/\j<=ns.length/\Zyh ns c.time b' j b2/\Sat R (Own s2 3 (Zd ns)::Zp p b2::Own s 3 (Zd ids)::ZK b4::cmC b3 c sg sp::Hs) w,λ t _=>ns.length - t.toNat,⟨0,b',rfl,jB _,⟨rfl,hi.core,hi.now,U.symm⟩,i⟩,?_⟩;clear i;rintro _ _ w ⟨j,b2,rfl,hj,m,i⟩;have hc:=Own.len i;rw [qa] at hc;refine Br.d (λ hg=>?_) (λ hh=>?_)
  ·have l:j<ns.length:=by omega
   obtain ⟨n,hn⟩:=xx (ns[j]);have z:ns.drop j=n::ns.drop (j + 1):=by rw [hn];exact qv l
   refine Own.ix i (eqS i) j rfl l ?_;rw [<-hn];have h0:wI ((j:Int) + 1)=((j + 1:Nat):Int):=by rw [Zc];omega
   rw [h0];refine (Zm2 m.core (by rw [m.nums,hn];exact qh l) i.swap).u λ w i=>?_;have h4:=XC (n:=n) m.core;refine .inl ⟨rfl,⟨j + 1,ZH n b2,rfl,l,⟨?_,h4.1,h4.2.1.now.trans m.now,h4.2.1.keys.trans m.nums⟩,i.swap⟩,by dsimp only;omega⟩;rw [m.res,z];rfl
  ·have h3:j=ns.length:=by omega
   subst h3;have hd:XU ns b'=b2:=by rw [m.res,uS];rfl
   rw [hd] at g;obtain ⟨m1,m2,fs,xs,hl,i⟩:=Sat.book.1 i.swap;refine Zb.mk rfl ⟨b2.now,oA i,?_⟩;rw [m.now];have i:=i.m7;refine sRu i λ w i=>?_;have i:=i.re (rpC b4 ⟨0,emS,0,0,0,0,c.time,[],[]⟩ Ze Ze);refine ⟨_,_,_,_,_,_,_,Ze,Ze,oA i,hK w ht ?_⟩;rw [g];exact (Sat.book.2 ⟨m1,m2,fs,xs,hl,i.drop⟩).cons λ _ h=>h.drop.drop.drop
abbrev cmA (c:Cm) (sg sp:Sl):Value:=.agg #[nI c.kind,xZ c.pnr,nI c.flt,nI c.cls,nI c.many,nI c.time,xF c.sc,xZ c.lab,nI c.rows,.slice sg.a sg.len sg.cap,.slice sp.a sp.len sp.cap]
abbrev Zwx (b4:Nat) (K:Value->xE) (w:nW):Prop:=
 ∃ u:Int,∃ u1:ByteArray,∃ u2:Int,∃ u3:Int,∃ u4:Int,∃ u5:Int,∃ u6:Int,∃ u7:Sl,∃ u8:Sl,(At (λ w'=>w'=w) ⟨b4,0,none⟩ [nI u,xZ u1,nI u2,nI u3,nI u4,nI u5,nI u6,.slice u7.a u7.len u7.cap,.slice u8.a u8.len u8.cap])/\
  K (.agg #[nI u,xZ u1,nI u2,nI u3,nI u4,nI u5,nI u6,.slice u7.a u7.len u7.cap,.slice u8.a u8.len u8.cap]) w
def ZxW {b4:Nat} {r:Rp} {sl sb:Sl} {K:Value->xE} (h:Sat R (rpC b4 r sl sb::Hs) w) (k:K (.agg (rpV r sl sb).toArray) w):Zwx b4 K w:=
 ⟨_,_,_,_,_,_,_,sl,sb,oA h,k⟩
def ZeT {b4:Nat} {r j:Rp} {sl sb l0 b0:Sl} {K:Value->xE} (h:Sat R (rpC b4 j l0 b0::Hs) w) (k:∀ w',Sat R Hs w'->K (.agg (rpV r sl sb).toArray) w'):
  ∃ u:Int,∃ t1:ByteArray,∃ t2:Int,∃ v:Int,∃ y:Int,∃ z:Int,∃ g:Int,∃ d:Sl,∃ o:Sl,(Ending.returned (.agg (rpV r sl sb).toArray)=xR (.agg #[nI u,xZ t1,nI t2,nI v,nI y,nI z,nI g,.slice d.a d.len d.cap,.slice o.a o.len o.cap]))/\
   ∃ i:World,((Instr.storeAt 33 (xP ((some ⟨b4,0,none⟩))) (.agg #[nI u,xZ t1,nI t2,nI v,nI y,nI z,nI g,.slice d.a d.len d.cap,.slice o.a o.len o.cap])).run prog w=.ok () i)/\
    Z3 prog 36 [xP ((some ⟨b4,0,none⟩))] .returning (Zwx b4 K) i:=by
 refine ⟨_,_,_,_,_,_,_,sl,sb,rfl,?_⟩;refine sRu h λ w h=>?_;have h:=h.re (rpC b4 r sl sb);exact Zot (ZxW h (k w h.drop))
def Wy {b4:Nat} {a:Rp} {l0 b0:Sl} {e:Int} {K:Value->xE} (h:Sat R (rpC b4 a l0 b0::Hs) w) (k:∀ w',Sat R Hs w'->K (.agg (rpV (Z4 e) Ze Ze).toArray) w'):
  Z3 prog 36 [xP ((some ⟨b4,0,none⟩))] (.panicking (Zen e)) (Zwx b4 K) w:=
 Zsk h λ w h=>ZxW h (k w h.drop)
def W6 {b4:Nat} (h:Sat R (ZK b4::Hs) w):Sat R (rpC b4 ⟨0,emS,0,0,0,0,0,[],[]⟩ Ze Ze::Hs) w:=h
def Zkk (p a:Nat) (b:ZF) (x:Bk) (R:Cx) (Hs:List HP) (w:nW):Prop:=∃ (m1 m2:Nat) (fs:List FE) (A2 C2:List BE),Xo b fs (A2++(a,x)::C2)/\ZoW A2 C2 x/\
 Sat R (pts p (Zq b m1 m2)::MapAt m1 (fs.map flV)::MapAt m2 ((A2++(a,x)::C2).map bkV)::Zt fs::Zu (A2++(a,x)::C2)::Hs) w
def Zd8 {p:Nat} {b:ZF} {s:ByteArray} (k:Core b) (d:Sat R (Zp p b::Hs) w):
  XG prog 43 #[nP p,xZ s] w
   (λ g w'=>∃ e,g=Zen e/\Xi b s=(none,e)/\Sat R (Zp p b::Hs) w')
   (λ v w'=>∃ a x,v=nP a/\Xi b s=(some x,0)/\x∈b.L/\Zkk p a b x R Hs w'):=by
 obtain ⟨m1,m2,fs,xs,hl,d⟩:=Sat.book.1 d;have d:=d.m1.b2;refine (ZiY d).use ?_ ?_
 ·clear d
  rintro _ w ⟨⟨n,i,u,rfl⟩,d⟩;refine .inl ⟨_,rfl,?_⟩;cases o:b.bk (Xj (ZE s)).1 with
  |none=>rw [(Zi0 hl).2 o] at u;cases u
  |some x=>
   have z:=(Zew k).1 o;obtain ⟨j,a,l,rfl,y⟩:=ZaG hl k.ids z.1;have:=ZhE (a:=a) y;rw [z.2,u] at this;simp only [qM,Value.pointer.injEq] at this;subst this;refine ⟨a,x,rfl,?_,z.1,m1,m2,fs,j,l,hl,y,?_⟩
   ·unfold Xi
    rw [qc (λ h=>h i),o]
   ·exact d.arr
 ·clear d
  rintro _ w ⟨⟨e,rfl,m⟩,d⟩;refine .inr ⟨_,rfl,e,rfl,?_,Sat.book.2 ⟨m1,m2,fs,xs,hl,?_⟩⟩
  ·rcases m with ⟨i,rfl⟩|⟨i,rfl,u⟩
   ·unfold Xi
    rw [qf i]
   ·unfold Xi
    rw [qc (λ h=>h i),(Zi0 hl).1 u]
  ·exact d.arr
def Zkk.close {p a:Nat} {b:ZF} {x:Bk} (h:Zkk p a b x R Hs w):Sat R (Zp p b::Hs) w:=by
 obtain ⟨m1,m2,fs,o,i,hl,_,d⟩:=h;exact Sat.book.2 ⟨m1,m2,fs,_,hl,d⟩
def Zl0 {p a:Nat} {b:ZF} {x:Bk} (k:Core b) (h:Zkk p a b x R Hs w):
  Zg prog 53 #[nP p,nP a] w λ v w'=>∃ sl sb:Sl,v=.agg (rpV (YW b x) sl sb).toArray/\
   Sat R (Own sl 3 (Zd (YW b x).left)::Own sb 9 ((YW b x).labs.map Value.string)::Zp p b::Hs) w':=by
 obtain ⟨m1,m2,fs,g,j,hl,l,d⟩:=h;have u:x∈b.L:=by rw [<-hl.bk];exact qm.2 ⟨(a,x),by simp,rfl⟩
 have m:=k.next;have n:=(k.each x u).id;obtain ⟨pl,y⟩:=k.at_of u;obtain ⟨A,f,q,C,rfl,hm⟩:=Ug hl k.nums y;have i:YW b x=Xp pl x:=by unfold YW;rw [y]
 rw [i];obtain ⟨r,o⟩:=xx ((A++(f,q,pl)::C).map flV);obtain ⟨MB,z⟩:=xx ((g++(a,x)::j).map bkV);rw [<-o,<-z] at d;have d:=d.m4.m4;have d:=Wf.1 d;have d:=d.m3;have d:=Vm.1 d;have d:=d.m1.m4.m7.m5.m5.m5.m7.m7;rw [o] at d;refine (GV (by omega) hm d).use ?_;clear d;rintro _ w ⟨sl,sb,rfl,d⟩;refine ⟨_,rfl,sl,sb,rfl,?_⟩;refine d.cons λ _ d=>d.cons λ _ d=>?_;rw [<-o] at d;have d:=d.m2.m4.m4;exact U0 hl o z d
def Zgm {p:Nat} {b:ZF} {c:Cm} {sg sp:Sl} (k:Core b) (W:RoI R sg c.grps) (J:c.grps.length<=17592186043904) (X:sp.len=c.parts.length) (i:Sat R (Zp p b::Hs) w):
  Zg prog 16 #[nP p,cmA c sg sp] w
   λ v w'=>∃ sl sb:Sl,v=.agg (rpV (Xv b c) sl sb).toArray/\Sat R (Own sl 3 (Zd (Xv b c).left)::Own sb 9 ((Xv b c).labs.map Value.string)::Zp p b::Hs) w':=by
 apply Zwn
 suffices H:∀ K:Value->xE,(∀ sl sb w',Sat R (Own sl 3 (Zd (Xv b c).left)::Own sb 9 ((Xv b c).labs.map Value.string)::Zp p b::Hs) w'->K (.agg (rpV (Xv b c) sl sb).toArray) w')->B16 (some ⟨p,0,none⟩) c.kind c.pnr c.flt c.cls c.many c.time c.sc c.lab c.rows sg sp K w from
  H _ (λ sl sb w' h=>⟨sl,sb,rfl,h⟩)
 intro K hK;have g:∀ e w',Xv b c=Z4 e->Sat R (Zp p b::Hs) w'->K (.agg (rpV (Z4 e) Ze Ze).toArray) w':=λ e w' Y i=>by
  have:=hK Ze Ze w';rw [Y] at this;exact this (Own.nil (Own.nil i))
 refine Za i λ b3 w i=>Za i λ b4 w i=>?_;have i:Sat R (ZK b4::cmC b3 c sg sp::Zp p b::Hs) w:=i;refine ⟨λ w=>(Z9 c/\c.kind=9)/\Sat R (ZK b4::cmC b3 c sg sp::Zp p b::Hs) w,?_,?_⟩
 ·refine ⟨c.kind,c.pnr,c.flt,c.cls,c.many,c.time,c.sc,c.lab,c.rows,sg,sp,oA i,?_⟩
  refine (GR W J X i).u λ w i=>?_;refine .inl ⟨_,rfl,Br.d (λ m=>?_) (λ m=>?_)⟩
  ·refine ⟨c.kind,oA i,?_⟩
   refine WB (λ h=>.inl ⟨rfl,⟨m,by simpa using h⟩,i⟩) (λ h=>.inr ⟨_,rfl,Wy (W6 i) λ w i=>g 1 w ?_ i.drop⟩);unfold Xv;rw [qf (.inr (by simpa using h))]
  ·refine WB (λ h=>by cases h) (λ h=>.inr ⟨_,rfl,Wy (W6 i) λ w i=>g 1 w ?_ i.drop⟩)
   unfold Xv;rw [qf (.inl m)]
 clear i;rintro _ w ⟨m,i⟩;have n:¬ (¬ Z9 c\/c.kind≠9):=λ h=>h.elim (λ h=>h m.1) (λ h=>h m.2);refine ⟨c.pnr,oA i,Br.sne (λ hs=>?_) (λ hs=>?_)⟩
 ·refine ⟨c.pnr,oA i,?_⟩
  have j:c.pnr≠emS:=hs;have z:∀ y,Xi b c.pnr=y->Xv b c=(match y with|(none,e)=>Z4 e|(some x,_)=>YW b x):=λ y L=>by
   unfold Xv;rw [qc n,qf j,L];obtain ⟨o,e⟩:=y;cases o<;>rfl
  have i:=i.m2;refine (Zd8 k i).use ?_ ?_
  ·clear i
   rintro _ w ⟨a,x,rfl,N,S,i⟩;have l:=z _ N;refine .inl ⟨_,rfl,?_⟩;refine (Zl0 k i).use ?_;clear i;rintro _ w ⟨sl,sb,rfl,i⟩;refine .inl ?_;have i:=i.m3;refine ZeT (W6 i) λ w i=>?_;have:=hK sl sb w;rw [l] at this;exact this (i.cons λ _ h=>h.cons λ _ h=>h.cons λ _ h=>h.drop)
  ·clear i
   rintro _ w ⟨e,rfl,N,i⟩;have i:Sat R (ZK b4::Zp p b::cmC b3 c sg sp::Hs) w:=i.swap;exact .inr ⟨_,rfl,Wy (W6 i) λ w i=>g e w (z _ N) (i.cons λ _ h=>h.drop)⟩
 ·have j:¬ c.pnr≠emS:=λ h=>h hs
  have z:∀ y,b.at c.flt=y->Xv b c=(match y with|none=>Z4 2|some p=>⟨0,emS,0,c.flt,0,(p.q.length:Int),0,Zr p.r,[]⟩):=λ y L=>by
   unfold Xv;rw [qc n,qc j,L];cases y<;>rfl
  refine ⟨c.flt,oA i,?_⟩;have i:=i.m2;obtain ⟨m1,m2,fs,xs,hl,i⟩:=Sat.book.1 i;refine (ZfR i).use ?_ ?_
  ·clear i
   rintro _ w ⟨⟨B,T,O,rfl⟩,i⟩;obtain ⟨A,f,q,C,pl,rfl,hm,s,V⟩:=Zfu hl k O;simp only [Value.agg.injEq,zm,jT,Value.pointer.injEq,vv] at V;obtain ⟨rfl,rfl⟩:=V;have l:=z _ s;have Q:=Yg s;have D:=k.qok pl Q.1;obtain ⟨U,E⟩:=xx ((A++(f,q,pl)::C).map flV);obtain ⟨MB,F⟩:=xx (xs.map bkV);rw [<-E,<-F] at i;have i:=i.m5.m6.m5;have i:=Wf.1 i;refine .inl ⟨_,_,rfl,?_⟩;refine Za i λ b5 w i=>?_;refine sRu i λ w i=>?_;have i:=i.re (fqC b5 f q);have toS:∀ {A:List HP} {R:Cx} {w:World},Sat R (cmC b3 c sg sp::fqC b5 f q::A) w->Sat R [cmC b3 c sg sp,fqC b5 f q,VC.tru] w:=λ h=>h.cons λ _ h=>h.restTru2;refine Zj (Sat R [cmC b3 c sg sp,fqC b5 f q,VC.tru]) i (λ w i=>?_) λ w i=>?_
   ·exact toS (i.arr (Hs':=cmC b3 c sg sp::fqC b5 f q::Zm f pl.r::Yq q pl.q::Zt (A++C)::ZK b4::pts p (Zq b m1 m2)::MapAt m1 U::MapAt m2 MB::Zu xs::Hs))
   refine ⟨c.flt,oS,some ⟨f,0,none⟩,oS,some ⟨q,0,none⟩,oS,?_⟩;refine (Vf i.swap).u1 λ sl w i=>?_;refine .inl ⟨sl,rfl,?_,?_⟩
   ·exact toS (i.arr (Hs':=cmC b3 c sg sp::fqC b5 f q::Own sl 3 (Zd (Zr pl.r))::Zm f pl.r::Yq q pl.q::Zt (A++C)::ZK b4::pts p (Zq b m1 m2)::MapAt m1 U::MapAt m2 MB::Zu xs::Hs))
   have i:=i.m2.b5.m2;refine (ZmT (by have:=D.len;omega) i).u1 λ t w i=>?_;have G:=Zn.len i;rw [qa] at G;have i:=i.drop;refine .inl ⟨t,rfl,?_,?_⟩
   ·exact toS (i.arr (Hs':=cmC b3 c sg sp::fqC b5 f q::Yq q pl.q::Own sl 3 (Zd (Zr pl.r))::Zm f pl.r::Zt (A++C)::ZK b4::pts p (Zq b m1 m2)::MapAt m1 U::MapAt m2 MB::Zu xs::Hs))
   rw [G];have i:=i.m5.m5.m10.m6.m10.m10.m10.m7.m9.m9.m10;refine sRu i λ w i=>?_;have i:=i.re (rpC b4 ⟨0,emS,0,c.flt,0,(pl.q.length:Int),0,Zr pl.r,[]⟩ sl Ze);refine Zot (ZxW i ?_);have:=hK sl Ze w;rw [l] at this;refine this ?_;refine i.drop.cons λ _ i=>Own.nil ?_;exact (X5 hl E F i).cons λ _ h=>h.drop.drop
  ·clear i
   rintro _ w ⟨rfl,I,i⟩;have i:=i.m6.m6;refine .inr ⟨_,rfl,Wy (W6 i) λ w i=>g 2 w (z _ ((Zc2 hl).1 I)) (Sat.book.2 ⟨m1,m2,fs,xs,hl,i.drop⟩)⟩
def V4 {g:FuncId} {u:Array Value} {p b3 b4:Nat} {b nb:ZF} {c:Cm} {res:Rp} {sg sp:Sl} {K:Value->xE}
  (h:XG prog g u w (λ j w'=>∃ e,j=Zen e/\(nb,res)=(b,Z4 e)/\Sat R (Zp p b::ZK b4::cmC b3 c sg sp::Hs) w')
   (λ v w'=>∃ sl sb:Sl,v=.agg (rpV res sl sb).toArray/\Sat R (Own sl 3 (Zd res.left)::Own sb 9 (res.labs.map Value.string)::Zp p nb::ZK b4::cmC b3 c sg sp::Hs) w'))
  (hK:∀ sl sb w',Sat R (Own sl 3 (Zd res.left)::Own sb 9 (res.labs.map Value.string)::Zp p nb::Hs) w'->K (.agg (rpV res sl sb).toArray) w'):
  Calls prog g u w λ e y=>
   (∃ m:Int,∃ t1:ByteArray,∃ t2:Int,∃ n:Int,∃ q:Int,∃ r:Int,∃ s:Int,∃ o:Sl,∃ i:Sl,(e=xR (.agg #[nI m,xZ t1,nI t2,nI n,nI q,nI r,nI s,.slice o.a o.len o.cap,.slice i.a i.len i.cap]))/\
    ∃ z:World,((Instr.storeAt 33 (xP ((some ⟨b4,0,none⟩))) (.agg #[nI m,xZ t1,nI t2,nI n,nI q,nI r,nI s,.slice o.a o.len o.cap,.slice i.a i.len i.cap])).run prog y=.ok () z)/\
    Z3 prog 36 [xP ((some ⟨b4,0,none⟩))] .returning (λ k=>Zwx b4 K k) z)\/
   (∃ j:List PanicEntry,(e=.panicked j)/\Z3 prog 36 [xP ((some ⟨b4,0,none⟩))] (.panicking j) (λ l=>Zwx b4 K l) y):=by
 refine h.use ?_ ?_
 ·rintro _ w ⟨sl,sb,rfl,d⟩
  have d:=d.m3;exact .inl (ZeT (W6 d) λ w d=>hK sl sb w (d.cons λ _ h=>h.cons λ _ h=>h.cons λ _ h=>h.drop))
 ·rintro _ w ⟨e,rfl,t,d⟩
  have x:=qH Prod.fst t;have f:=qH Prod.snd t;dsimp only at x f;subst x f;exact .inr ⟨_,rfl,Wy (W6 d.swap) λ w d=>hK Ze Ze w (Own.nil (Own.nil (d.cons λ _ h=>h.drop)))⟩
def ZlH {p:Nat} {b:ZF} {c:Cm} {sg sp:Sl} (k:YK b) (J:c.sc<18446744073709551616) (L:RoI R sg c.grps) (f:c.grps.length<=17592186043904) (Q:SlR R.m sp (GM c.parts)) (i:Sat R (Zp p b::Hs) w):
  Zg prog 12 #[nP p,cmA c sg sp] w
   λ v w'=>∃ sl sb:Sl,v=.agg (rpV (ZT b c).2 sl sb).toArray/\Sat R (Own sl 3 (Zd (ZT b c).2.left)::Own sb 9 ((ZT b c).2.labs.map Value.string)::Zp p (ZT b c).1::Hs) w':=by
 have g:sp.len=c.parts.length:=by have:=Q.len;simpa using this
 apply Zwp
 suffices H:∀ K:Value->xE,(∀ sl sb w',Sat R (Own sl 3 (Zd (ZT b c).2.left)::Own sb 9 ((ZT b c).2.labs.map Value.string)::Zp p (ZT b c).1::Hs) w'->K (.agg (rpV (ZT b c).2 sl sb).toArray) w')->B12 (some ⟨p,0,none⟩) c.kind c.pnr c.flt c.cls c.many c.time c.sc c.lab c.rows sg sp K w from
  H _ (λ sl sb w' h=>⟨sl,sb,rfl,h⟩)
 intro K hK;refine Za i λ b3 w i=>Za i λ b4 w i=>?_;have i:Sat R (ZK b4::cmC b3 c sg sp::Zp p b::Hs) w:=i;refine ⟨c.kind,c.pnr,c.flt,c.cls,c.many,c.time,c.sc,c.lab,c.rows,sg,sp,oA i,?_⟩;refine (GR L f g i).u λ w i=>?_;refine .inl ⟨_,rfl,WB (λ h=>.inl ⟨rfl,?_⟩) (λ h=>.inr ⟨_,rfl,?_⟩)⟩
 rotate_left
 ·have j:¬ Z9 c:=qQ h
  have e:ZT b c=(b,Z4 1):=by unfold ZT;rw [qf j]
  rw [e] at hK;exact Wy (W6 i) λ w i=>hK Ze Ze w (Own.nil (Own.nil i.drop))
 have j:Z9 c:=qF h;have z:¬ ¬ Z9 c:=λ h=>h j;have i:=i.m2;refine ⟨c.kind,oA i,Br.e (λ l=>?_) (λ l=>?_)⟩
 ·refine ⟨c.kind,c.pnr,c.flt,c.cls,c.many,c.time,c.sc,c.lab,c.rows,sg,sp,oA i,?_⟩
  have e:ZT b c=Wi b c:=by unfold ZT;rw [qc z,qf l]
  rw [e] at hK;refine V4 (b:=b) (nb:=(Wi b c).1) (res:=(Wi b c).2) (c:=c) (p:=p) (b3:=b3) (sg:=sg) (sp:=sp) ?_ hK;refine (ZlD (by have:=k.core.few;omega) L Q i).use ?_ ?_
  ·rintro _ w ⟨n,sl,rfl,i⟩
   refine .inl ⟨_,rfl,sl,Ze,?_⟩;rw [n];exact ⟨rfl,i.cons λ _ h=>Own.nil h⟩
  ·rintro _ w ⟨e,rfl,n,i⟩
   exact .inr ⟨_,rfl,e,rfl,n,i⟩
 refine ⟨λ t w=>t=decide (c.kind=2\/c.kind=7)/\Sat R (Zp p b::ZK b4::cmC b3 c sg sp::Hs) w,?_,?_⟩
 ·refine Br.e (λ q=>⟨?_,i⟩) (λ q=>⟨?_,i⟩)
  ·rw [qE (.inl q),q];rfl
  ·by_cases s:c.kind=7
   ·rw [qE (.inr s),s];rfl
   ·rw [qz (by omega)]
    exact jW.2 s
 clear i;rintro _ _ w ⟨rfl,i⟩;refine Br.d (λ D=>?_) (λ D=>?_)
 ·refine ⟨c.kind,c.pnr,c.flt,c.cls,c.many,c.time,c.sc,c.lab,c.rows,sg,sp,oA i,?_⟩
  rcases D with q|s
  ·have e:ZT b c=XE b c:=by unfold ZT;rw [qc z,qc l,qf q]
   rw [e] at hK;exact V4 (b:=b) (nb:=(XE b c).1) (res:=(XE b c).2) (c:=c) (p:=p) (ZoQ q k.core j i) hK
  ·have e:ZT b c=YU b c:=by unfold ZT;rw [qc z,qc l,qc (by omega),qf s]
   rw [e] at hK;exact V4 (b:=b) (nb:=(YU b c).1) (res:=(YU b c).2) (c:=c) (p:=p) (ZoP s k j J i) hK
 refine Br.e (λ I=>?_) (λ I=>Br.e (λ M=>?_) (λ M=>?_))
 ·refine ⟨c.kind,c.pnr,c.flt,c.cls,c.many,c.time,c.sc,c.lab,c.rows,sg,sp,oA i,?_⟩
  have e:ZT b c=YH b c:=by unfold ZT;rw [qc z,qc l,qc (by omega),qc (by omega),qf I]
  rw [e] at hK;exact V4 (b:=b) (nb:=(YH b c).1) (res:=(YH b c).2) (c:=c) (p:=p) (Zly k.core j i) hK
 ·refine ⟨c.kind,c.pnr,c.flt,c.cls,c.many,c.time,c.sc,c.lab,c.rows,sg,sp,oA i,?_⟩
  have e:ZT b c=(b,Xv b c):=by unfold ZT;rw [qc z,qc l,qc (by omega),qc (by omega),qc I,qf M]
  rw [e] at hK;refine V4 (b:=b) (nb:=b) (res:=Xv b c) (c:=c) (p:=p) (b3:=b3) (sg:=sg) (sp:=sp) ?_ hK;refine (Zgm k.core L f g i).use ?_;rintro _ w ⟨sl,sb,rfl,i⟩;exact .inl ⟨_,rfl,sl,sb,rfl,i⟩
 ·have E:∀ y,Xi b c.pnr=y->ZT b c=(match y with|(none,e)=>(b,Z4 e)|(some x,_)=>Gm b x c):=λ y U=>by
   unfold ZT;rw [qc z,qc l,qc (by omega),qc (by omega),qc I,qc M,U];obtain ⟨o,e⟩:=y;cases o<;>rfl
  have F:c.kind=3\/c.kind=4\/c.kind=5\/c.kind=6:=by have:=j.kind;omega
  have toS:∀ {A:List HP} {R:Cx} {w:World},Sat R (cmC b3 c sg sp::A) w->Sat R [cmC b3 c sg sp,VC.tru] w:=λ h=>h.restTru2;refine Zj (Sat R [cmC b3 c sg sp,VC.tru]) i (λ w i=>?_) λ w i=>?_
  ·exact toS (i.arr (Hs':=cmC b3 c sg sp::Zp p b::ZK b4::Hs))
  refine ⟨c.pnr,oS,c.kind,c.pnr,c.flt,c.cls,c.many,c.time,c.sc,c.lab,c.rows,sg,sp,oS,?_⟩;refine (Zd8 k.core i).use ?_ ?_
  ·clear i
   rintro _ w ⟨a,x,rfl,N,V,G⟩;have e:=E _ N;rw [e] at hK;refine .inl ⟨_,rfl,?_,?_⟩
   ·exact toS (G.close.arr (Hs':=cmC b3 c sg sp::Zp p b::ZK b4::Hs))
   obtain ⟨m1,m2,fs,P,C2,hl,O,i⟩:=G;refine (ZpA F k.core (by have:=j.lab;omega) hl O i).use ?_ ?_
   ·clear i
    rintro _ w ⟨sl,sb,rfl,i⟩;have hS:=toS (i.arr (Hs':=cmC b3 c sg sp::Own sl 3 (Zd (Gm b x c).2.left)::Own sb 9 ((Gm b x c).2.labs.map Value.string)::Zp p (Gm b x c).1::ZK b4::Hs));have i:=i.m3;refine .inl ?_;obtain ⟨W,t1,t2,X,Y,S,C,B,T,n,h⟩:=ZeT (r:=(Gm b x c).2) (sl:=sl) (sb:=sb) (K:=K) (W6 i) λ w i=>hK sl sb w (i.cons λ _ h=>h.cons λ _ h=>h.cons λ _ h=>h.drop);exact ⟨W,t1,t2,X,Y,S,C,B,T,n,hS,h⟩
   ·clear i
    rintro _ w ⟨e,rfl,n,i⟩;dsimp only at hK;rw [n] at hK;exact .inr ⟨_,rfl,Wy (W6 i.swap) λ w i=>hK Ze Ze w (Own.nil (Own.nil (i.cons λ _ h=>h.drop)))⟩
  ·clear i
   rintro _ w ⟨e,rfl,N,i⟩;have e2:=E _ N;rw [e2] at hK;exact .inr ⟨_,rfl,Wy (W6 i.swap) λ w i=>hK Ze Ze w (Own.nil (Own.nil (i.cons λ _ h=>h.drop)))⟩
def Zq9 {k:Nat} (h:k<31):Zcd[k]? =some (UInt8.ofNat (G2.getD k 0).toNat)/\((UInt8.ofNat (G2.getD k 0).toNat).toNat:Int)=G2.getD k 0:=by
 have:=ZbI (d:=(k:Int)) (by omega);unfold Vw at this;rwa [qo] at this
def Wd {l:List Int} {k:Nat} (h:k<l.length):l.getD k 0=l[k]:=by
 rw [List.getD_eq_getElem?_getD,List.getElem?_eq_getElem h];rfl
def Zqb {s:ByteArray} {k:Nat} (hk:k<s.size):s[k]? =some (s.get! k):=by
 rw [getElem?_pos s k hk];obtain ⟨a⟩:=s;exact qH some (getElem!_pos a k hk).symm
def Zf4 {c:Int} (u:Sat R Hs w):Zg prog 193 #[.int .u8 c] w λ v w'=>v=nI (ZA c)/\Sat R Hs w':=by
 apply Ztg;refine ⟨λ i w=>∃ k:Nat,i=k/\k<=31/\(∀ j,j<k->G2.getD j 0≠c)/\Sat R Hs w,λ i _=>(31 - i).toNat,⟨0,rfl,by omega,λ j hj=>by omega,u⟩,?_⟩;clear u;rintro _ _ w ⟨k,rfl,hk,o,u⟩;refine Br.d (λ h=>?_) (λ h=>?_)
 ·have a:k<31:=by omega
  obtain ⟨g,l⟩:=Zq9 a;refine ⟨_,by omega,by rw [qo];exact g,?_⟩;rw [l];refine Br.e (λ y=>?_) (λ y=>?_)
  ·refine ⟨?_,u⟩
   have z:k<G2.length:=a;have:=(UO c 0 G2).1 k z (λ j hj=>by rw [<-Wd];exact o j hj) (by rw [<-Wd];exact y);unfold ZA;rw [this,jb]
  ·rw [Zc]
   refine ⟨⟨k + 1,by omega,by omega,λ j hj=>?_,u⟩,by dsimp only;omega⟩;rcases (by omega:j<k\/j=k) with m|rfl
   ·exact o j m
   ·exact y
 ·refine ⟨?_,u⟩
  have:=(UO c 0 G2).2 λ x n=>by
   obtain ⟨j,hj,rfl⟩:=List.mem_iff_getElem.1 n;rw [<-Wd];exact o j (by rw [Zgl] at hj;omega)
  unfold ZA;rw [this]
abbrev ZoZ (b:Nat) (l:List Int):HP:=pts b (.cells (Zd l).toArray 248 (0,0))
def ZdF {a b c d e f:Int} (o:0<=a/\a<100) (i:0<=b/\b<100) (u:0<=c/\c<100) (hd:0<=d/\d<100) (y:0<=e/\e<100) (z:0<=f/\f<100) (h:Sat R Hs w):
  Zg prog 194 #[.agg (Zd [a,b,c,d,e,f]).toArray] w λ v w'=>v=nI (Vp 2 [a,b,c,d,e] + f)/\Sat R Hs w':=by
 apply Ztf;refine Za h λ p w h=>?_;have h:Sat R (ZoZ p [a,b,c,d,e,f]::Hs) w:=h;refine ⟨a,by rw [Zs];exact oA h,b,by rw [Zs];exact oA h,c,by rw [Zs];exact oA h,
  d,by rw [Zs];exact oA h,e,by rw [Zs];exact oA h,f,by rw [Zs];exact oA h,?_,h.drop⟩
 rw [Zc (x:=2 * a),Zc (x:=3 * b),Zc (x:=4 * c),Zc (x:=5 * d),Zc (x:=6 * e)];rw [Zc (x:=2 * a + 3 * b)];rw [Zc (x:=2 * a + 3 * b + 4 * c)];rw [Zc (x:=2 * a + 3 * b + 4 * c + 5 * d)];rw [Zc (x:=2 * a + 3 * b + 4 * c + 5 * d + 6 * e)];rw [Zc (x:=2 * a + 3 * b + 4 * c + 5 * d + 6 * e + f)]
 congr 1
 simp only [Vp];omega
def Zm5 (l:List Int) (k:Nat):List Int:=l.take k++List.replicate (6 - k) 0
def Zjy {l:List Int} {k:Nat} (hl:l.length=6) (hk:k<=6):(Zm5 l k).length=6:=by
 unfold Zm5;rw [qb,qd,vo];omega
def Zps:∀ {l:List Int} {k:Nat},l.length=6->k<6->(Zm5 l k).set k (l.getD k 0)=Zm5 l (k + 1)
 |[_,_,_,_,_,_],0,_,_=>rfl
 |[_,_,_,_,_,_],1,_,_=>rfl
 |[_,_,_,_,_,_],2,_,_=>rfl
 |[_,_,_,_,_,_],3,_,_=>rfl
 |[_,_,_,_,_,_],4,_,_=>rfl
 |[_,_,_,_,_,_],5,_,_=>rfl
def Zpt:∀ {l:List Int} {k:Nat},l.length=6->k<6->(Zm5 l (k + 1)).getD k 0=l.getD k 0
 |[_,_,_,_,_,_],0,_,_=>rfl
 |[_,_,_,_,_,_],1,_,_=>rfl
 |[_,_,_,_,_,_],2,_,_=>rfl
 |[_,_,_,_,_,_],3,_,_=>rfl
 |[_,_,_,_,_,_],4,_,_=>rfl
 |[_,_,_,_,_,_],5,_,_=>rfl
def Znq {l:List Int} {k:Nat} (hk:k<5) (hl:l.length=6):Ze9 (l.take (k + 1))=Ze9 (l.take k) * 31 + l.getD k 0:=by
 rw [qp,List.getElem?_eq_getElem (by omega:k<l.length),Wd (by omega)];exact ZjL _ _
def Zgu {s:ByteArray} (y:Sat R Hs w):Zg prog 116 #[xZ s] w λ v w'=>v=.tuple #[nI (Xj (ZE s)).1,nI (Xj (ZE s)).2]/\Sat R Hs w':=by
 apply Zuf
 suffices H:∀ K:Value->xE,(∀ w',Sat R Hs w'->K (.tuple #[nI (Xj (ZE s)).1,nI (Xj (ZE s)).2]) w')->B116 s K w from H _ λ w' h=>⟨rfl,h⟩
 intro K hK;have Q:=Yf s;have D:∀ k,k<s.size->s[k]? =some (s.get! k)/\((s.get! k).toNat:Int)=(ZE s).getD k 0:=λ k hk=>by
  refine ⟨?_,?_⟩
  ·exact Zqb hk
  ·rw [ZhA hk,Wd (by omega)]
 obtain ⟨bs,U⟩:=xx (ZE s);rw [<-U] at hK Q D;refine Br.ne (λ h=>?_) (λ h=>?_)
 ·have:=hK w y
  unfold Xj at this;rw [qf (.inl (by omega))] at this;exact this
 have S:s.size=6:=by omega
 have F:bs.length=6:=by omega
 obtain ⟨o,j⟩:=xx (bs.map ZA);have q:o.length=6:=by rw [j,qa,F]
 have r:∀ k,k<6->o.getD k 0=ZA (bs.getD k 0):=λ k hk=>by
  rw [Wd (by omega),Wd (by omega)];subst j;rw [qX]
 have t:∀ x∈o,x<31:=λ x E=>by
  rw [j] at E;obtain ⟨c,_,rfl⟩:=qm.1 E;have:=ZeD c;omega
 refine Za y λ p w y=>?_;have y:Sat R (ZoZ p (Zm5 o 0)::Hs) w:=y;refine ⟨λ n i w=>∃ k:Nat,i=k/\k<=6/\(∀ d∈o.take k,0<=d)/\n=Ze9 (o.take (min k 5))/\Sat R (ZoZ p (Zm5 o k)::Hs) w,λ _ i _=>(6 - i).toNat,⟨0,rfl,by omega,by simp,by simp [Ze9],y⟩,?_⟩;clear y;rintro _ _ _ w ⟨k,rfl,hk,z,rfl,y⟩;refine Br.d (λ h=>?_) (λ h=>?_)
 ·have g:k<6:=by omega
  obtain ⟨C,T⟩:=D k (by omega);refine ⟨_,by omega,by rw [qo];exact C,?_⟩;rw [T];refine (Zf4 y).u λ w y=>?_;refine ⟨_,rfl,Rng.mk (by omega) (by omega) ?_⟩;rw [qo,<-r k g];refine Gv (by kernel_rfl) y (by rw [Zjy q (by omega)];exact g) λ w y=>?_;rw [Zps q g] at y;have G:At (λ w'=>w'=w) (Addr.add ⟨p,0,none⟩ k) [nI (o.getD k 0)]:=by
   have V:k<(Zm5 o (k + 1)).length:=by rw [Zjy q (by omega)];exact g
   have:=At.ints (b:=p) (xs:=Zm5 o (k + 1)) (eqS y) V;rwa [<-Wd,Zpt q g] at this
  refine Rng.mk (by omega) (by omega) ⟨_,G,?_⟩;have W:o.getD k 0∈o:=by rw [Wd (by omega)];exact qh _
  have P:=t _ W;refine Br.d (λ m=>?_) (λ m=>?_)
  ·have:=hK w y.drop
   rw [ZjK] at this
   ·exact this
   ·refine ⟨bs.getD k 0,by rw [Wd (by omega)];exact qh _,?_⟩
    rw [<-r k g];exact m
  have A:∀ d∈o.take (k + 1),0<=d:=λ d hd=>by
   rw [qp,List.getElem?_eq_getElem (by omega:k<o.length)] at hd;rcases qt.1 hd with hd|hd
   ·exact z d hd
   ·simp at hd;rw [hd,<-Wd];omega
  refine Br.d (λ N=>?_) (λ N=>?_)
  ·have I:k<5:=by omega
   refine Rng.mk (by omega) (by omega) ⟨_,G,?_⟩;rw [show min k 5=k by omega];have hb:0<=Ze9 (o.take k)/\Ze9 (o.take k)<31 ^ 4:=by
    have O:=Znr (l:=o.take k) λ d hd=>⟨z d hd,t d (qw hd)⟩;rw [qd,show min k o.length=k by omega] at O;have h2:=p31 I;exact ⟨O.1,by have:=O.2;omega⟩
   have h7:0<=o.getD k 0:=by omega
   have h8:Ze9 (o.take k)<923521:=by have:=hb.2;omega
   rw [Zc (x:=Ze9 (o.take k) * 31),Zc (x:=Ze9 (o.take k) * 31 + o.getD k 0),Zc (x:=(k:Int) + 1),<-Znq I q];exact ⟨⟨k + 1,by omega,by omega,A,by rw [show min (k + 1) 5=k + 1 by omega],y⟩,by dsimp only;omega⟩
  ·rw [Zc (x:=(k:Int) + 1)]
   exact ⟨⟨k + 1,by omega,by omega,A,by rw [show min (k + 1) 5=min k 5 by omega],y⟩,by dsimp only;omega⟩
 ·have g:k=6:=by omega
  subst g;have J:Zm5 o 6=o:=by
   unfold Zm5;rw [qg (by omega)];simp
  rw [J] at y;rw [qg (by omega:o.length<=6)] at z
  match o,q,j,z,t,y with
  |[a,b,c,d,e,f],_,j,z,t,y=>
   refine ⟨Zd [a,b,c,d,e,f],rfl,oA y,?_⟩;have B:∀ x∈[a,b,c,d,e,f],0<=x/\x<100:=λ x E=>⟨z x E,by have:=t x E;omega⟩;refine (ZdF (B a (by simp)) (B b (by simp)) (B c (by simp)) (B d (by simp)) (B e (by simp)) (B f (by simp)) y).u λ w y=>?_;have N:(bs.take 5).map ZA=[a,b,c,d,e]:=by
    rw [jk,<-j];rfl
   have X:ZA (bs.getD 5 0)=f:=by
    rw [<-r 5 (by omega)];rfl
   have m:¬ (bs.length≠6\/∃ c∈bs,ZA c<0):=by
    rintro (h|⟨x,E,h⟩)
    ·exact h F
    ·have:ZA x∈[a,b,c,d,e,f]:=by rw [j];exact qm.2 ⟨x,E,rfl⟩
     have:=z _ this;omega
   have L:0<=Vp 2 [a,b,c,d,e] + f:=by
    have O:=B a (by simp);have h2:=B b (by simp);have h3:=B c (by simp);have h4:=B d (by simp);have N:=B e (by simp);have h6:=B f (by simp);simp only [Vp];omega
   have M:Xj bs=if (Vp 2 [a,b,c,d,e] + f) % 31≠0 then (0,6) else (Ze9 [a,b,c,d,e],0):=by
    unfold Xj;rw [qc m,N,X]
   rw [M] at hK;refine ⟨_,rfl,?_⟩;rw [jj L];refine Br.ne (λ Y=>?_) (λ Y=>?_)
   ·have:=hK w y.drop
    rw [qf Y] at this;exact this
   ·have:=hK w y.drop
    rw [qc (λ h=>h Y)] at this;exact this
def _root_.Go.VC.At.vals {S:xE} {b:Nat} {vs:List Value} {T:TypeId} {fr:Nat × Nat} (hS:∀ w,S w->Sat R Hs w)
  [t:VM b Hs (.cells vs.toArray T fr) Rest] {i:Nat} (hi:i<vs.length):At S (Addr.add ⟨b,0,none⟩ i) [vs[i]]:=by
 rw [Zs];refine At.own hS ?_;rw [jb,qv hi];exact ⟨rfl,trivial⟩
def wtN (x:Wt):List Nat:=[x.id.toNat,x.cls.toNat,x.many.toNat,x.time.toNat,ZnD x.sc]
def Zdv (l:List Nat):List Int:=(l.map GS).flatten
def ZuI (x:Wt):wtB x=Zdv (wtN x):=by
 simp [wtB,Zdv,wtN,Zf,Zx7]
def Zd4 {l:List Nat} {j:Nat} (hj:j<l.length):Zdv (l.take (j + 1))=Zdv (l.take j)++GS l[j]:=by
 unfold Zdv;rw [qp,List.getElem?_eq_getElem hj,qe,ja];simp
def ZgZ {l:List Nat} (h:∀ x∈l,x<18446744073709551616):(Zdv l).length<=9 * l.length:=YT λ x a=>YS (h x a)
def Zqh {x:Wt} (h:x.Ok) (a:x.sc<18446744073709551616):∀ y∈wtN x,y<18446744073709551616:=by
 obtain ⟨o,i,u,v⟩:=h;intro y d;simp only [wtN,qk,qO,jP] at d;have:=Zqx a;omega
def VW {α β:Type} {f:α->List β} {l:List α} {j:Nat} (hj:j<l.length):((l.take (j + 1)).map f).flatten=((l.take j).map f).flatten++f l[j]:=by
 rw [qp,List.getElem?_eq_getElem hj,qe,ja];simp
def ZmS {q:Nat} {l:List Wt} (A:QOk l) (o:Sat R (Yq q l::Hs) w):
  Zg prog 65 #[nP q] w λ v w'=>∃ t:Sl,v=.slice t.a t.len t.cap/\Sat R (Own t 5 (b8 (qB l))::Yq q l::Hs) w':=by
 apply ZvJ
 suffices H:∀ K:Value->xE,(∀ (t:Sl) w',Sat R (Own t 5 (b8 (qB l))::Yq q l::Hs) w'->K (.slice t.a t.len t.cap) w')->B65 (some ⟨q,0,none⟩) K w from H _ λ t w' h=>⟨t,rfl,h⟩
 intro K hK;have Q:=A.len;obtain ⟨s,o⟩:=Sat.qu.1 o;have D:=Zn.len o.swap;rw [qa] at D;refine Zb.mk rfl ⟨s,oA o,?_⟩;rw [ZM];refine (Wo (by omega) o).u1 λ U w o=>?_;refine ⟨U,rfl,Zb.mk rfl ⟨s,oA o,?_⟩⟩;have e0:GS s.len=Zf [(l.length:Int)]:=by rw [D];simp [Zf]
 rw [e0] at o;refine ⟨λ t i w=>∃ k:Nat,i=k/\k<=l.length/\Sat R (Own t 5 (b8 (Zf [(l.length:Int)]++((l.take k).map wtB).flatten))::pts q (X1 s)::Zn 5 s wtT (l.map wtV)::Hs) w,
  λ _ i _=>l.length - i.toNat,⟨0,rfl,by omega,by simpa using o⟩,?_⟩
 clear o;rintro _ t _ w ⟨k,rfl,hk,o⟩;refine Br.d (λ h=>?_) (λ h=>?_)
 ·have p:k<l.length:=by omega
  have L:=qh p;have F:=A.ok _ L;have G:=A.fl _ L;have M:=Zqh F G;obtain ⟨B,V,P,W⟩:=id F;refine (Zn.readsM (n:=5) (s:=s) (T:=wtT) (rows:=l.map wtV) o (eqS o)).rngM (E:=l) (g:=wtV) p λ a _ X=>?_;refine ⟨_,_,_,_,_,X.z (by exact ⟨rfl,rfl,rfl,rfl,rfl,trivial⟩),?_⟩;refine Za o λ b2 w o=>?_;refine sRu o λ w o=>?_;have o:=o.re (wtC b2 l[k]);refine Xk o λ w o=>?_;refine ⟨l[k].id,oS,l[k].cls,oS,l[k].many,oS,l[k].time,oS,l[k].sc,oS,?_⟩;refine (ZpM G o).u λ w o=>?_;refine ⟨_,rfl,o,?_⟩;rw [ZM (x:=l[k].id),ZM (x:=l[k].cls),ZM (x:=l[k].many),ZM (x:=l[k].time)];refine Za o λ b5 w o=>⟨o.absorb,?_⟩;obtain ⟨us,y⟩:=xx (wtN l[k]);have Y:us.length=5:=by rw [y];rfl
  have o:Sat R (pts b5 (.cells (us.map λ n=>Value.int .u64 (n:Nat)).toArray 141 (0,0))::wtC b2 l[k]::Own t 5 (b8 (Zf [(l.length:Int)]++((l.take k).map wtB).flatten))::pts q (X1 s)::Zn 5 s wtT (l.map wtV)::Hs) w:=by
   have e:([.int .u64 l[k].id,.int .u64 l[k].cls,.int .u64 l[k].many,.int .u64 l[k].time,.int .u64 ((ZnD l[k].sc:Nat):Int)]:List Value)=us.map λ n=>Value.int .u64 (n:Nat):=by
    subst y;simp only [wtN,qi,jR,jx V.1,jx W.1,jx (show 0<=l[k].id by omega),jx (show 0<=l[k].many by omega)]
   rw [<-e];exact o.cons λ _ h=>h.drop
  rw [<-y] at M;have r:=YT (l:=l.take k) (code:=wtB) (m:=45) λ w o=>ZhQ (A.ok w (qw o)) (A.fl w (qw o));rw [qd] at r;have h0:=Zl (x:=(l.length:Int)) (by omega);obtain ⟨bs,f⟩:=xx (Zf [(l.length:Int)]++((l.take k).map wtB).flatten);have S:bs.length<=10000:=by rw [f,qb];omega
  rw [<-f] at o;refine ⟨λ t i w=>∃ j:Nat,i=j/\j<=5/\Sat R (Own t 5 (b8 (bs++Zdv (us.take j)))::pts b5 (.cells (us.map λ n=>Value.int .u64 (n:Nat)).toArray 141 (0,0))::wtC b2 l[k]::pts q (X1 s)::Zn 5 s wtT (l.map wtV)::Hs) w,
   λ _ i _=>5 - i.toNat,⟨0,rfl,by omega,?_⟩,?_⟩
  ·have o:=o.m2
   simpa [Zdv] using o
  clear o;rintro _ t _ w ⟨j,rfl,hj,o⟩;refine Br.d (λ N=>?_) (λ N=>?_)
  ·have c:j<us.length:=by omega
   have I:=ZgZ (l:=us.take j) λ x L=>M x (qw L);rw [qd] at I;have J:=M _ (qh c);refine Rng.mk (by omega) (by omega) ⟨((us[j]:Nat):Int),?_,?_⟩
   ·have O:j<(us.map λ n=>Value.int .u64 (n:Nat)).length:=by rw [qa];exact c
    have:=At.vals (b:=b5) (vs:=us.map λ n=>Value.int .u64 (n:Nat)) (eqS o) O;rw [qX] at this;exact this
   refine (Wo J o).u1 λ t1 w o=>?_;refine ⟨t1,rfl,?_⟩;have C:=YS J;refine YI ZbX (s:=t) (n:=1099511627790) underlying47 o.swap (by rw [qb];omega) (by omega) (by omega) λ s2 w o=>?_;have o:=o.cons λ _ h=>h.drop;rw [Zc (x:=(j:Int) + 1)];refine ⟨⟨j + 1,by omega,by omega,?_⟩,by dsimp only;omega⟩;rw [Zd4 c,<-qn];exact o
  ·rw [qg (by omega:us.length<=j),y,<-ZuI,f,qn,<-VW p] at o
   rw [Zc (x:=(k:Int) + 1)];exact ⟨⟨k + 1,by omega,by omega,o.cons λ _ h=>h.drop.drop⟩,by dsimp only;omega⟩
 ·rw [qg (by omega:l.length<=k)] at o
  exact hK t w (o.cons λ _ h=>Sat.qu.2 ⟨s,h⟩)
def nn3s {a b c:Int} (h:0<=a) (d:0<=b) (o:0<=c):Zf ([a,b,c].map nn)=Zf [a]++(Zf [b]++Zf [c]):=by
 show Zf [nn a,nn b,nn c]=_;rw [Ve h,Ve d,Ve o,YR a,YR b]
def nn6s {a b c d e f:Int} (h:0<=a) (o:0<=b) (i:0<=c) (u:0<=d) (v:0<=e) (y:0<=f):Zf ([a,b,c,d,e,f].map nn)=Zf [a]++(Zf [b]++(Zf [c]++(Zf [d]++(Zf [e]++Zf [f])))):=by
 show Zf [nn a,nn b,nn c,nn d,nn e,nn f]=_;rw [Ve h,Ve o,Ve i,Ve u,Ve v,Ve y,YR a,YR b,YR c,YR d,YR e]
def Zf0 {p:Nat} {s:Sl} {d bs:List Int} {T:TypeId} (hl:bs.length + d.length<=1099511627776) (hd:d.length<=1099511627776) (h:Sat R (Own s T (b8 d)::WrB p bs::Hs) w):
  Zg prog 63 #[nP p,.slice s.a s.len s.cap] w λ v w'=>v=.tuple #[]/\Sat R (WrB p (bs++XI d)::Hs) w':=by
 obtain ⟨u,o,i,h⟩:=Own.leak h;refine (ZdA hl hd (i.ro) h).mono ?_;rintro _ w ⟨rfl,h⟩;exact ⟨rfl,o.back h⟩
def ZlC {p:Nat} {b:ZF} (k:Core b) (o:Sat R (Zp p b::Hs) w):
  Zg prog 18 #[nP p] w λ v w'=>∃ t:Sl,v=.slice t.a t.len t.cap/\Sat R (Own t 5 (b8 (Gi b))::Zp p b::Hs) w':=by
 apply Zwl
 suffices H:∀ K:Value->xE,(∀ (t:Sl) w',Sat R (Own t 5 (b8 (Gi b))::Zp p b::Hs) w'->K (.slice t.a t.len t.cap) w')->B18 (some ⟨p,0,none⟩) K w from H _ λ t w' h=>⟨t,rfl,h⟩
 intro K hK;have k1:=k.now;have k2:=k.next;have k3:=k.few;have k4:=k.many;have a1:=Zl (x:=b.now) (by omega);have a2:=Zl (x:=b.next) (by omega);have a3:=Zl (x:=(b.fl.length:Int)) (by omega);have a4:=Zl (x:=(b.L.length:Int)) (by omega);have a5:∀ j,(((b.fl.take j).map plB).flatten).length<=304000:=λ j=>by
  have:=YT (l:=b.fl.take j) (code:=plB) (m:=38000) λ p hp=>Zim (k.good p (qw hp)) (k.qok p (qw hp));rw [qd] at this;omega
 have a6:∀ j,(((b.L.take j).map bkB).flatten).length<=16200:=λ j=>by
  have:=YT (l:=b.L.take j) (code:=bkB) (m:=54) λ x B=>ZfP k2.2 (k.each x (qw B));rw [qd] at this;omega
 obtain ⟨m1,m2,fs,xs,hl,o⟩:=Sat.book.1 o;have P:=Zn1 hl;have h2:=Zkb hl;refine Za o λ pw w o=>?_;have o:Sat R (WrB pw []::pts p (Zq b m1 m2)::MapAt m1 (fs.map flV)::MapAt m2 (xs.map bkV)::Zt fs::Zu xs::Hs) w:=Sat.wrB.2 ⟨Ze,(Own.nil o).swap⟩;have toS:∀ {A:List HP} {R:Cx} {w:World},Sat R (pts p (Zq b m1 m2)::MapAt m1 (fs.map flV)::A) w->Sat R [pts p (Zq b m1 m2),MapAt m1 (fs.map flV),VC.tru] w:=λ h=>h.cons λ _ h=>h.restTru2;refine Zj (Sat R [pts p (Zq b m1 m2),MapAt m1 (fs.map flV),VC.tru]) o (λ w o=>?_) λ w o=>?_
 ·exact toS (o.arr (Hs':=pts p (Zq b m1 m2)::MapAt m1 (fs.map flV)::WrB pw []::MapAt m2 (xs.map bkV)::Zt fs::Zu xs::Hs))
 refine Zb.mk rfl ⟨b.now,oS,Zb.mk rfl ⟨b.next,oS,Zb.mk rfl ⟨some m1,oS,((fs.map flV).length:Int),λ w' h=>MapAt.len (by kernel_rfl) h.swap,?_⟩⟩⟩;rw [qa,P];refine Za o λ h3 w o=>⟨?_,?_⟩
 ·exact toS (o.arr (Hs':=pts p (Zq b m1 m2)::MapAt m1 (fs.map flV)::pts h3 (.cells #[nI b.now,nI b.next,nI (b.fl.length:Int)] 3 (0,0))::WrB pw []::MapAt m2 (xs.map bkV)::Zt fs::Zu xs::Hs))
 refine (W3 (xs:=[b.now,b.next,(b.fl.length:Int)]) rfl (by simp;omega) (by simp) o).u λ w o=>?_;refine ⟨rfl,?_,?_⟩
 ·exact toS (o.arr (Hs':=pts p (Zq b m1 m2)::MapAt m1 (fs.map flV)::WrB pw ([]++Zf ([b.now,b.next,(b.fl.length:Int)].map nn))::MapAt m2 (xs.map bkV)::Zt fs::Zu xs::Hs))
 rw [nn3s (by omega) (by omega) (by omega),jr] at o;obtain ⟨G,I⟩:=xx (Zf [b.now]++(Zf [b.next]++Zf [(b.fl.length:Int)]));have h8:G.length<=27:=by rw [I];simp only [qb];omega
 rw [<-I] at o;have o:=o.b2;refine Zb.mk rfl ⟨some m1,oA o,?_⟩;refine ZdH k hl o.swap ?_;clear o;intro s w o;have h4:=Own.len o;rw [qa,qa] at h4;obtain ⟨E,J⟩:=xx (fs.map flV);obtain ⟨MB,c⟩:=xx (xs.map bkV);obtain ⟨nums,z⟩:=xx (b.fl.map Pl.n);have h9:nums.length=b.fl.length:=by rw [z,qa]
 rw [<-J,<-c,<-z] at o;have o:=o.m1.b2.m3;refine ⟨λ i w=>∃ j:Nat,i=j/\j<=b.fl.length/\Sat R (WrB pw (G++((b.fl.take j).map plB).flatten)::Own s 3 (Zd nums)::pts p (Zq b m1 m2)::MapAt m1 E::MapAt m2 MB::Zt fs::Zu xs::Hs) w,
  λ i _=>b.fl.length - i.toNat,⟨0,rfl,by omega,by simpa using o⟩,?_⟩
 clear o;rintro _ _ w ⟨j,rfl,hj,o⟩;have ha:=a5 j;refine Br.d (λ h=>?_) (λ h=>?_)
 ·have N:j<b.fl.length:=by omega
  obtain ⟨pl,O⟩:=xx (b.fl[j]);have y:pl∈b.fl:=by rw [O];exact qh _
  have h5:b.at pl.n=some pl:=(UL k).2 ⟨y,rfl⟩;have Q:nums[j]'(by omega)=pl.n:=by subst z;rw [qX,O]
  have hg:=k.good pl y;have hq:=k.qok pl y;have e1:=ZaW hg;have e2:=ZmW hq;have g:Sat R (Own s 3 (Zd nums)::WrB pw (G++((b.fl.take j).map plB).flatten)::pts p (Zq b m1 m2)::MapAt m1 E::MapAt m2 MB::Zt fs::Zu xs::Hs) w:=o.swap;refine Own.ix g (eqS g) j rfl (by omega) ?_;rw [Q];refine Zb.mk rfl ⟨some m1,oA o,?_⟩;obtain ⟨A,f,q,C,U,hm⟩:=Ug hl k.nums h5;have V:ZL pl.n E=some (.agg #[nP f,nP q]):=by rw [J,U];exact Zek hm
  refine ⟨some ⟨f,0,none⟩,some ⟨q,0,none⟩,λ w' e=>?_,?_⟩
  ·rw [show w'=w from e]
   have W:Sat R (MapAt m1 E::WrB pw (G++((b.fl.take j).map plB).flatten)::Own s 3 (Zd nums)::pts p (Zq b m1 m2)::MapAt m2 MB::Zt fs::Zu xs::Hs) w:=o.arr;have:=MapAt.look Zqq W pl.n false;rw [V] at this;exact this
  clear g;refine Za o λ b6 w o=>?_;refine sRu o λ w o=>?_;have o:=o.re (fqC b6 f q);rw [U] at o;have o:=o.m6;have o:=Wf.1 o;refine ⟨some ⟨f,0,none⟩,oA o,?_⟩;refine (Ziv o).u1 λ t1 w o=>?_;refine ⟨t1,rfl,?_⟩;have o:=o.m2.m5.m2;refine (Zf0 (by rw [qb];omega) (by omega) o).u λ w o=>?_;refine ⟨rfl,some ⟨q,0,none⟩,oA o,?_⟩;refine (ZmS hq o.swap).u1 λ t2 w o=>?_;refine ⟨t2,rfl,?_⟩;have e3:=Yr (d:=WL pl.r) (by omega);have o:=o.m1.b2;refine (Zf0 (by simp only [qb];omega) (by omega) o).u λ w o=>?_;rw [Zc (x:=(j:Int) + 1)];refine ⟨rfl,⟨j + 1,by omega,by omega,?_⟩,by dsimp only;omega⟩;have ebs:G++((b.fl.take j).map plB).flatten++XI (WL pl.r)++XI (qB pl.q)=G++((b.fl.take (j + 1)).map plB).flatten:=by
   rw [VW N,<-O];unfold plB;simp only [qn]
  rw [ebs] at o;have o:=o.b3.m1;have o:=Wf.2 o;rw [<-U] at o;have o:=o.b6.m1;exact o.drop
 ·have X:j=b.fl.length:=by omega
  rw [X,jz] at o;have a50:=a5 b.fl.length;rw [jz] at a50;refine Zb.mk rfl ⟨some m2,oA o,(MB.length:Int),λ w' e=>?_,?_⟩
  ·rw [show w'=w from e]
   have h6:Sat R (MapAt m2 MB::WrB pw (G++(b.fl.map plB).flatten)::Own s 3 (Zd nums)::pts p (Zq b m1 m2)::MapAt m1 E::Zt fs::Zu xs::Hs) w:=o.arr;exact MapAt.len (by kernel_rfl) h6
  rw [show MB.length=b.L.length by rw [c,qa,h2]];refine Za o λ hb w o=>?_;refine (W3 (xs:=[(b.L.length:Int)]) rfl (by simp;omega) (by simp only [qb,qr,qN];omega) o).u λ w o=>?_;rw [nn1 (by omega)] at o;obtain ⟨F,Y⟩:=xx (G++(b.fl.map plB).flatten++Zf [(b.L.length:Int)]);have hc:F.length<=305000:=by rw [Y];simp only [qb];omega
  rw [<-Y] at o;refine ⟨rfl,Zb.mk rfl ⟨some m2,oA o,?_⟩⟩;have o:=o.m1.b6.m3;rw [c] at o;refine ZdI k hl o ?_;clear o;intro s2 w o;have T:=Own.len o;rw [qa,qa] at T;obtain ⟨ids,D⟩:=xx (b.L.map Bk.id);have hd:ids.length=b.L.length:=by rw [D,qa]
  rw [<-c,<-D] at o;have o:Sat R (WrB pw F::Own s2 3 (Zd ids)::pts p (Zq b m1 m2)::MapAt m1 E::MapAt m2 MB::Zt fs::Zu xs::Hs) w:=by
   have h:Sat R (Own s 3 (Zd nums)::WrB pw F::Own s2 3 (Zd ids)::pts p (Zq b m1 m2)::MapAt m1 E::MapAt m2 MB::Zt fs::Zu xs::Hs) w:=o.arr;exact h.drop
  refine ⟨λ i w=>∃ j:Nat,i=j/\j<=b.L.length/\Sat R (WrB pw (F++((b.L.take j).map bkB).flatten)::Own s2 3 (Zd ids)::pts p (Zq b m1 m2)::MapAt m1 E::MapAt m2 MB::Zt fs::Zu xs::Hs) w,
   λ i _=>b.L.length - i.toNat,⟨0,rfl,by omega,by simpa using o⟩,?_⟩
  clear o;rintro _ _ w ⟨j,rfl,hj,o⟩;have he:=a6 j;refine Br.d (λ h=>?_) (λ h=>?_)
  ·have N:j<b.L.length:=by omega
   obtain ⟨x,B⟩:=xx (b.L[j]);have y:x∈b.L:=by rw [B];exact qh _
   have Q:ids[j]'(by omega)=x.id:=by subst D;rw [qX,B]
   obtain ⟨A,a,C,S,hm⟩:=ZaG hl k.ids y;have V:ZL x.id MB=some (nP a):=by rw [c,S];exact ZhE hm
   have ke:=k.each x y;have x1:=ke.id;have x2:=ke.flt;have x3:=ke.cls;have x4:=ke.many;have x5:=ke.state;have x6:=ke.till;have g:Sat R (Own s2 3 (Zd ids)::WrB pw (F++((b.L.take j).map bkB).flatten)::pts p (Zq b m1 m2)::MapAt m1 E::MapAt m2 MB::Zt fs::Zu xs::Hs) w:=o.swap;refine Own.ix g (eqS g) j rfl (by omega) ?_;rw [Q];refine Zb.mk rfl ⟨some m2,oA o,?_⟩;refine ⟨some ⟨a,0,none⟩,λ w' e=>?_,?_⟩
   ·rw [show w'=w from e]
    have W:Sat R (MapAt m2 MB::WrB pw (F++((b.L.take j).map bkB).flatten)::Own s2 3 (Zd ids)::pts p (Zq b m1 m2)::MapAt m1 E::Zt fs::Zu xs::Hs) w:=o.arr;have:=MapAt.look ZqT W x.id false;rw [V] at this;exact this
   clear g;rw [S] at o;have o:=o.m6;have o:=Vm.1 o;have toS2:∀ {A:List HP} {R:Cx} {w:World},Sat R (pts a (ZZ x)::A) w->Sat R [pts a (ZZ x),VC.tru] w:=λ h=>h.restTru2;refine Zj (Sat R [pts a (ZZ x),VC.tru]) o (λ w o=>toS2 o) λ w o=>?_;refine Zb.mk rfl ⟨x.flt,oS,Zb.mk rfl ⟨x.cls,oS,Zb.mk rfl ⟨x.many,oS,Zb.mk rfl ⟨x.state,oS,Zb.mk rfl ⟨x.till,oS,?_⟩⟩⟩⟩⟩;have o:=o.m2;refine Za o λ h7 w o=>?_;refine (W3 (xs:=[x.id,x.flt,x.cls,x.many,x.state,x.till]) rfl (by simp;omega) (by simp only [qb,qr,qN];omega) o).u λ w o=>?_;rw [nn6s (by omega) (by omega) (by omega) (by omega) (by omega) (by omega)] at o;have ebs:F++((b.L.take j).map bkB).flatten++(Zf [x.id]++(Zf [x.flt]++(Zf [x.cls]++(Zf [x.many]++(Zf [x.state]++Zf [x.till])))))=F++((b.L.take (j + 1)).map bkB).flatten:=by
    rw [VW N,<-B,qn];rfl
   rw [ebs] at o;rw [Zc (x:=(j:Int) + 1)];have o:=o.b2;refine ⟨rfl,toS2 o,⟨j + 1,by omega,by omega,?_⟩,by dsimp only;omega⟩;have o:=Vm.2 o;rw [<-S] at o;exact o.arr
  ·have X:j=b.L.length:=by omega
   rw [X,jz] at o;obtain ⟨t,o⟩:=Sat.wrB.1 o;refine ⟨t,oA o,hK t w ?_⟩;have e:F++(b.L.map bkB).flatten=Gi b:=by
    rw [Y,I];unfold Gi;simp only [qn]
   rw [e] at o;rw [J,c] at o;have o:=o.drop;refine o.cons λ _ h=>Sat.book.2 ⟨m1,m2,fs,xs,hl,h.drop⟩
end
end Go.Proofs.YtlplemdmegpoeaaGreatDoor



namespace Go.Proofs.YtlplemdmegpoeaaGreatDoor
section
open Go Go.VC Tryz
open Classical
variable {R:Cx} {Hs Rest:List HP} {w:World}
def Xy {a b:List Int} (h:ZV a) (d:ZV b):ZV (a++b):=λ x o=>(qt.1 o).elim (h x) (d x)
def ZlB {α:Type} {f:α->List Int} {l:List α} (h:∀ x∈l,ZV (f x)):ZV (l.map f).flatten:=λ y a=>by
 obtain ⟨r,d,o⟩:=jZ.1 a;obtain ⟨x,i,rfl⟩:=qm.1 d;exact h x i y o
def WI {x:Int} (h:0<=x/\x<18446744073709551616):ZV (Zf [x]):=WX λ y a=>by rw [qK.1 a];exact h
def ZlA {d:List Int} (h:ZV d) (hl:d.length<1000000):ZV (XI d):=Xy (Zip (by omega)) h
def Zhz {s:ByteArray} (h:s.size<1000000):ZV (ZhZ s):=ZlA (ZhC s) (by rw [Yf];exact h)
def Zj9 {r:Rp} (h:Zkh r):ZV (rpB r):=by
 have r1:=h.code;have r2:=h.pnr;have r3:=h.state;have r4:=h.flt;have r5:=h.cls;have r6:=h.many;have r7:=h.time;have r8:=h.ll;have r9:=h.bl;unfold rpB;rw [Ve r1.1,Ve r3.1,Ve r4.1,Ve r5.1,Ve r6.1,Ve r7.1,ZuX λ n d=>(h.left n d).1];refine Xy (WI (by omega)) (Xy (Zhz (by omega)) (Xy (WI (by omega)) (Xy (WI (by omega)) (Xy (WI (by omega)) (Xy (WI (by omega)) (Xy (WI (by omega)) (Xy (WI (by omega)) (Xy (WX λ x a=>?_) (Xy (WI (by omega)) (ZlB λ x a=>Zhz ?_))))))))))
 ·have:=h.left x a
  omega
 ·have:=h.labs x a
  omega
def ZdR {r:Rp} (h:Zkh r):RpW r:=by
 refine ⟨λ x a=>?_,by have:=h.pnr;omega,by have:=h.ll;omega,by have:=h.bl;omega,λ s hs=>by have:=h.labs s hs;omega⟩;have r1:=h.code;have r3:=h.state;have r4:=h.flt;have r5:=h.cls;have r6:=h.many;have r7:=h.time;rcases qt.1 a with a|a
 ·simp only [qk,qO,jP] at a
  omega
 ·have:=h.left x a
  omega
end
end Go.Proofs.YtlplemdmegpoeaaGreatDoor

namespace Go.Proofs.YtlplemdmegpoeaaGreatDoor
section
open Go Go.VC Tryz
open Classical
variable {R:Cx} {Hs Rest:List HP} {w:World}
def ZfI {t:Sl} {bs:List Int} {T:TypeId} (hl:bs.length<=9223372036854775807) (d:Sat R Hs w) [tk:ZaN (Own t T (b8 bs)) Hs Rest]:∀ w',(λ w'=>w'=w) w'->(convert 47 9 (.slice t.a t.len t.cap)).run prog w'=.ok (xZ (VC.strOf bs)) w':=λ w' e=>by
 rw [show w'=w from e]
 obtain ⟨_,o,_,h,_⟩:=Own.lend (d.perm tk.perm) (by rw [qa];exact hl);exact Uk underlying47 underlying5 underlying9 h o
end
end Go.Proofs.YtlplemdmegpoeaaGreatDoor



namespace Go.Proofs.YtlplemdmegpoeaaGreatDoor
section
open Go Go.VC Tryz
open Classical
abbrev mI:Int:=1099511627776
structure Rq where
 kind:Int
 client:Int
 seq:Int
 token:Int
 cmd:List Int
def inI (n:Int):Prop:=0<=n/\n<=1099511627776
structure Y4 (q:Rq):Prop where
 client:inI q.client
 seq:inI q.seq
 token:inI q.token
 cmd:q.cmd.length<=4000
 kind:(q.kind=1/\q.client=0/\q.seq=0/\q.cmd.length=0)\/(q.kind=2/\q.token=0)\/(q.kind=3/\q.token=0/\q.seq=0/\q.cmd.length=0)\/(q.kind=4/\q.client=0/\q.seq=0/\q.token=0)
def rqB (q:Rq):List Int:=Zf [q.kind,q.client,q.seq,q.token]++XI q.cmd
def Zms (m:Int) (r:Rd):Rq × Rd:=
 let k:=Zh m r
 let c:=Zh mI k.2
 let s:=Zh mI c.2
 let t:=Zh mI s.2
 let d:=Yn 4000 t.2
 (⟨k.1,c.1,s.1,t.1,d.1⟩,d.2)
def ZfZ:Rq:=⟨0,0,0,0,[]⟩
noncomputable def ZU (m:Int) (bs:List Int):Rq × Int:=if Xw (Zms m ⟨bs,false⟩).2=true/\Y4 (Zms m ⟨bs,false⟩).1 then ((Zms m ⟨bs,false⟩).1,0) else (ZfZ,6)
noncomputable def ZqC (q:Rq):List Int × Int:=if Y4 q then (rqB q,0) else ([],1)
def Y4.k4 {q:Rq} (h:Y4 q):1<=q.kind/\q.kind<=4:=by
 have:=h.kind;omega
def Zi3 {most:Int} {r:Rd} (h:r.bad=true):(Zh most r).2.bad=true:=by
 unfold Zh;rw [qf h];exact h
def Zqf {most:Int} {r:Rd} (h:r.bad=true):(Yn most r).2.bad=true:=by
 unfold Yn;rw [qf h];exact h
def ZoJ {r:Rd} (h:r.bad=true):Xw r=false:=by
 unfold Xw;rw [h];rfl
def Zql {m:Int} {r:Rd} (h:(Zh m r).2.bad=true):Xw (Zms m r).2=false:=ZoJ (Zqf (Zi3 (Zi3 (Zi3 h))))
def Zre {bs:List Int}:ZU 4 bs=ZU mI bs:=by
 unfold ZU;by_cases d:(Zh 4 ⟨bs,false⟩).2.bad=true
 ·rw [qc (λ h=>by rw [Zql d] at h;exact absurd h.1 (by simp))]
  rw [qc];rintro ⟨v,y⟩;have hk:=y.k4;have hk:1<=(Zh mI ⟨bs,false⟩).1/\(Zh mI ⟨bs,false⟩).1<=4:=hk;have a:(Zh mI ⟨bs,false⟩).2.bad=false:=by
   cases z:(Zh mI ⟨bs,false⟩).2.bad with
   |false=>rfl
   |true=>rw [Zql z] at v;cases v
  unfold Zh at d a hk;simp only [qy,jq] at d a hk;cases i:Xr bs with
  |none=>rw [i] at a;simp at a
  |some x=>
   obtain ⟨n,u,k⟩:=x;rw [i] at d a hk;dsimp only at d a hk;split at a
   ·rename_i o
    rw [qf o] at hk;rw [qf ⟨o.1,hk.2⟩] at d;cases d
   ·cases a
 ·have a:(Zh 4 ⟨bs,false⟩).2.bad=false:=by simpa using d
  have e:Zh 4 ⟨bs,false⟩=Zh mI ⟨bs,false⟩:=by
   unfold Zh at a ⊢;simp only [qy,jq] at a ⊢;cases i:Xr bs with
   |none=>rfl
   |some x=>
    obtain ⟨n,u,k⟩:=x;rw [i] at a;dsimp only at a ⊢;split at a
    ·rename_i o
     rw [qf o,qf ⟨o.1,by have:=o.2;show n<=1099511627776;omega⟩]
    ·cases a
  unfold Zms;rw [e]
def Zrf {q:Rq} (h:Y4 q):(rqB q).length<=5000:=by
 have o:=h.k4;obtain ⟨i,u⟩:=h.client;obtain ⟨v,y⟩:=h.seq;obtain ⟨z,g⟩:=h.token;have j:=h.cmd;unfold rqB;have l1:=Zx (l:=[q.kind,q.client,q.seq,q.token]) λ x a=>by
  simp only [qk,qO,jP] at a;rcases a with rfl|rfl|rfl|rfl<;>omega
 have l2:=Yr (d:=q.cmd) (by omega);rw [qb];simp only [qr,qN] at l1;omega
def ZuW (a b c d:Int) (rest:List Int):Zf [a,b,c,d]++rest=Zf [a]++(Zf [b]++(Zf [c]++(Zf [d]++rest))):=by
 rw [show Zf [a,b,c,d]=Zf [a]++(Zf [b]++(Zf [c]++Zf [d])) by rw [WA a,WA b,WA c]];simp only [qn]
def Zrd {q:Rq} (h:Y4 q):Zms mI ⟨rqB q,false⟩=(q,⟨[],false⟩):=by
 have a:=h.k4;obtain ⟨o,i⟩:=h.client;obtain ⟨u,v⟩:=h.seq;obtain ⟨y,z⟩:=h.token;have g:=h.cmd;unfold Zms rqB;rw [ZuW];rw [Yz (by omega) (by show q.kind<=1099511627776;omega) (by omega)];dsimp only;rw [Yz (by omega) (by show q.client<=1099511627776;omega) (by omega)];dsimp only;rw [Yz (by omega) (by show q.seq<=1099511627776;omega) (by omega)];dsimp only;rw [Yz (by omega) (by show q.token<=1099511627776;omega) (by omega)];dsimp only;have:=Zib (d:=q.cmd) (rest:=[]) (most:=4000) (by omega) (by omega);rw [jl] at this;rw [this]
def ZkJ {q:Rq} (h:Y4 q):ZU mI (rqB q)=(q,0):=by
 unfold ZU;rw [Zrd h,qf ⟨rfl,h⟩]
structure Zkg where
 code:Int
 client:Int
 seq:Int
 reply:List Int
def ZwO:Zkg:=⟨0,0,0,[]⟩
end
end Go.Proofs.YtlplemdmegpoeaaGreatDoor



