/- Package record: Scan's contract. Condition: bounds on lengths. -/
import Derived.Test.YtkfedbncmfnpnaaGreatDoorB3
import GoSem.Core.Float
import Derived.KernelRfl
import Derived.Test.YtkfedbncmfnpnaaGreatDoorB2
import Derived.Laws.MakeOwn
import Derived.Maps.RangeRun
import Derived.Shelf.Strings.Builder1
import Derived.Shelf.Strings.Builder2
import Derived.Shelf.Small.Bits
import Derived.Shelf.Small.Wraps
import Derived.Shelf.Strings.BuilderF
import Derived.Shelf.Strconv.Atoi
import Derived.Shelf.Strconv.Itoa0
import Derived.Shelf.Strconv.Itoa1
import Derived.Shelf.LaysM
import Derived.Shelf.Strconv.Itoa2
import Derived.Shelf.Strconv.Itoa3
import Derived.Shelf.Sort.Plain
import Derived.Shelf.GgClosure.StringsIndexFunc
import Derived.Ground.GgwProg
import Derived.Shelf.GgClosure.StringsIndexFuncTop
import Derived.Shelf.Strings.Prefix
import Derived.Shelf.Bits.Mul64
import Derived.Shelf.Strings.Repeat
import Derived.Shelf.Slices.In.SortNone
import Derived.Test.YtkfedbncmfnpnaaGreatDoorProg
import Derived.Lib.ItoaNum
import Derived.Lib.Repeat
import Derived.Lib.Atoi
import Derived.Lib.LaidTab
import Derived.Lib.Strings
import Derived.Lib.SmallJoins
set_option linter.unusedVariables false
set_option linter.unusedSimpArgs false
namespace Go.Proofs.YtkfedbncmfnpnaaGreatDoor
section
open Go Go.VC Tryz
variable {R:Cx} {Hs Rest:List HP} {w:World}
theorem Zqc (a:Act) (i:Nat):a.env i=a.tmps.getD i undef:=rfl
theorem ZnA {b4 b5 L D fn m:Nat} {tmps:Array Value} {s:Sl} {x:List Int} {pre:List (List Int)} {W:World} (hsz:tmps.size=22) (h4:tmps.getD 4 undef=.pointer (some ⟨b4,0,none⟩)) (h5:tmps.getD 5 undef=.pointer (some ⟨b5,0,none⟩))
  (hs:Ro R s (b8 x)) (hl:Zo (pre++[x])<=1099511627776)
  (hw:Sat R (pts L (Zh7 .ready fn tmps (ZqX f108) (Zbc f108) (Zdt f108) D)::Zfh b4 pre::pts b5 (.cells [.int .i64 (Zo pre:Nat)].toArray 3 (0,0))::Hs) W):
  YieldAt Fence.wide m prog L #[.slice s.a s.len s.cap] W λ e W'=>e=.returned (.bool true)/\
   Sat R (pts L (Zh7 .ready fn tmps (ZqX f108) (Zbc f108) (Zdt f108) D)::Zfh b4 (pre++[x])::pts b5 (.cells [.int .i64 (Zo (pre++[x]):Nat)].toArray 3 (0,0))::Hs) W':=by
 have hps:=Zw7;refine ZnB hw (by rw [hps];rfl) ?_;have hY:∀ l args w Q,(λ (_:Nat) (_:List Value) (_:World) (_:Ending->World->Prop)=>False) l args w Q->YieldAt (wf (some L)) (m - 1) prog l args.toArray w Q:=λ _ _ _ _ h=>h.elim;have hoka:=ZuB;have hokb:=ZuA;simp only [Bool.and_eq_true] at hoka hokb;have htm:((ZqX f108).zip #[Value.slice s.a s.len s.cap]).foldl (λ t (p,v)=>t.setIfInBounds p v) tmps=tmps.setIfInBounds 9 (.slice s.a s.len s.cap):=by
  rw [hps];simp
 rw [htm];generalize hA:({ tmps:=tmps.setIfInBounds 9 (.slice s.a s.len s.cap),defers:=[] }:Act)=A;have hAs:A.tmps.size=22:=by rw [<-hA];simp [hsz]
 have hAd:A.defers=[]:=by rw [<-hA]
 have hA9:A.env 9=.slice s.a s.len s.cap:=by rw [<-hA,Zqc];simp [hsz]
 have hA4:A.env 4=.pointer (some ⟨b4,0,none⟩):=by rw [<-h4,<-hA,Zqc];simp
 have hA5:A.env 5=.pointer (some ⟨b5,0,none⟩):=by rw [<-h5,<-hA,Zqc];simp
 have h1:ZhI prog cl (λ (_:Nat) (_:List Value) (_:World) (_:Ending->World->Prop)=>False) (Zbc f108) .leaf A.env (noC λ ρ w=>ρ 4=.pointer (some ⟨b4,0,none⟩)/\ρ 5=.pointer (some ⟨b5,0,none⟩)/\ρ 6=.slice s.a s.len s.cap/\w=W) W:=by
  rw [<-ZbC hA9,ZuK ];exact ⟨hA4,hA5,rfl,rfl⟩
 refine Code.wpIn_mono ?_ (ZaK (r:=some L) (nn:=m) (n:=22) Zid hY mixed _ _ (λ i=>ZhZ i [6]) A.env hoka.1.1 hoka.1.2 hoka.2 A _ W (ZcB.refl hAs hAd) h1);intro e a1 w1 hq;cases e with
 |exit i=>exact hq.2.elim
 |ret=>exact hq.2.elim
 |goto t=>exact hq.elim
 |panic c=>exact hq.elim
 |outgrown=>exact hq.elim
 |normal=>
 obtain ⟨hk,e4,e5,e6,rfl⟩:=hq;refine ⟨hw,λ W2 hw2=>?_⟩;have hw3:Sat R (Zfh b4 pre::pts b5 (.cells [.int .i64 (Zo pre:Nat)].toArray 3 (0,0))::pts L (Zh7 .busy fn tmps (ZqX f108) (Zbc f108) (Zdt f108) D)::Hs) W2:=hw2.arr;have h2:ZhI prog cl (λ (_:Nat) (_:List Value) (_:World) (_:Ending->World->Prop)=>False) (Zdt f108) .leaf a1.env (noC λ _ w=>Sat R (Zfh b4 (pre++[x])::pts b5 (.cells [.int .i64 (Zo (pre++[x]):Nat)].toArray 3 (0,0))::pts L (Zh7 .busy fn tmps (ZqX f108) (Zbc f108) (Zdt f108) D)::Hs) w) W2:=by
  have:a1.env=((a1.env.set 4 (.pointer (some ⟨b4,0,none⟩))).set 5 (.pointer (some ⟨b5,0,none⟩))).set 6 (.slice s.a s.len s.cap):=by
   rw [ZbC e4,ZbC e5,ZbC e6]
  rw [this,ZuJ ];exact ZqJ hs hl hw3 λ w hw=>hw
 refine Code.wpIn_mono ?_ (ZaK (r:=some L) (nn:=m) (n:=22) Zid hY mixed _ _ (λ _=>true) a1.env hokb.1.1 hokb.1.2 hokb.2 a1 _ W2 (ZcB.refl hk.size hk.defers) h2);intro e a2 w2 hq;cases e with
 |exit i=>exact hq.2.elim
 |ret=>exact hq.2.elim
 |goto t=>exact hq.elim
 |panic c=>exact hq.elim
 |outgrown=>exact hq.elim
 |normal=>
 refine ⟨rfl,Zfh b4 (pre++[x])::pts b5 (.cells [.int .i64 (Zo (pre++[x]):Nat)].toArray 3 (0,0))::Hs,hq.2.arr,λ W4 hw4=>⟨rfl,hw4⟩⟩
theorem Zo2 {s:Sl} {bs:List Int} (hbs:∀ x∈bs,0<=x/\x<256) (hlen:bs.length<=1099511627776) (hs:SlR R.m s (b8 bs)) (hw:Sat R Hs w):
  Zq prog 108 #[.slice s.a s.len s.cap] w λ v w'=>∃ l:Sl,v=.tuple #[.slice l.a l.len l.cap,.int .i64 (Zo (scan bs):Nat)]/\Sat R (ZaW l (scan bs)::Hs) w':=by
 apply Zt3;refine Zd hw λ b4 w hw=>Zd hw λ b5 w hw=>?_;have hw:Sat R (pts b5 (.cells [.int .i64 0].toArray 3 (0,0))::pts b4 (.cells [.slice none 0 0].toArray 139 (0,0))::Hs) w:=hw;refine Zc hw (by kernel_rfl) rfl (by simp [Value.cells]) λ w hw=>?_;have hw:Sat R (pts b4 (.cells [.slice none 0 0].toArray 139 (0,0))::pts b5 (.cells [.int .i64 (Zo []:Nat)].toArray 3 (0,0))::Hs) w:=hw.swap;have hw:Sat R (Zfh b4 []::pts b5 (.cells [.int .i64 (Zo []:Nat)].toArray 3 (0,0))::Hs) w:=
  Sat.outAt.2 ⟨⟨none,0,0⟩,hw.cons λ R' h=>Sat.bytesL.2 ⟨[],rfl,Own.nil (Sat.star.2 h)⟩⟩
 refine (Zkh (s:=s) hw).use ?_;rintro _ w ⟨c,rfl,hw⟩;refine ⟨_,rfl,Zuf.mk (by kernel_rfl) hw ?_⟩;rintro nn tmps fn D L W1 hsz ⟨h4,h5,_⟩ hw1;have hw2:Sat R (lp c s::(λ pre=>pts L (Zh7 .ready fn tmps (ZqX f108) (Zbc f108) (Zdt f108) D)::Zfh b4 pre::pts b5 (.cells [.int .i64 (Zo pre:Nat)].toArray 3 (0,0))::pts D (.deferred (some []))::Hs) []) W1:=hw1.arr;refine CallsIn.mono (ZpV (nn:=nn) (L:=L) hbs hlen hs (λ pre=>pts L (Zh7 .ready fn tmps (ZqX f108) (Zbc f108) (Zdt f108) D)::Zfh b4 pre::pts b5 (.cells [.int .i64 (Zo pre:Nat)].toArray 3 (0,0))::pts D (.deferred (some []))::Hs) ?_ hw2) ?_
 ·intro pre x W A t hpre ht hw
  have hsl:=Zll hpre;have hxl:=ZcF pre [x];rw [ZJ] at hxl;have hw':Sat R (pts L (Zh7 .ready fn tmps (ZqX f108) (Zbc f108) (Zdt f108) D)::Zfh b4 pre::pts b5 (.cells [.int .i64 (Zo pre:Nat)].toArray 3 (0,0))::A::pts D (.deferred (some []))::Hs) W:=hw.arr;obtain ⟨f',t',a',b',hrun,hround⟩:=ZnA (m:=nn - 1) hsz h4 h5 (ht.ro (by simp;omega)) (by omega) hw';exact ⟨f',t',a',b',hrun,RoundIn.mono hround λ e W' ⟨he,hw⟩=>⟨he,hw.arr⟩⟩
 ·rintro e W2 ⟨hv,hw⟩
  refine ⟨hv,Zfh b4 (scan bs)::pts b5 (.cells [.int .i64 (Zo (scan bs):Nat)].toArray 3 (0,0))::Hs,hw.arr,λ W3 hw3=>?_⟩;have hw3:Sat R (Zfh b4 (scan bs)::pts D (.deferred (some []))::pts b5 (.cells [.int .i64 (Zo (scan bs):Nat)].toArray 3 (0,0))::Hs) W3:=hw3.swap;obtain ⟨l,hw4⟩:=Sat.outAt.1 hw3;refine Zv hw4 λ w hw=>?_;refine ⟨l,At.own Ze (by exact ⟨rfl,trivial⟩),?_⟩;refine ⟨_,At.own Ze (by exact ⟨rfl,trivial⟩),?_⟩;refine ⟨R,pts b4 (.cells [.slice l.a l.len l.cap].toArray 139 (0,0))::ZaW l (scan bs)::pts b5 (.cells [.int .i64 (Zo (scan bs):Nat)].toArray 3 (0,0))::Hs,hw.arr,λ w' hw'=>⟨l,rfl,?_⟩⟩;exact hw'.drop.cons λ R' h=>h.drop
end
section
open Go Go.VC Tryz
variable {R:Cx} {Hs Rest:List HP} {w:World}
theorem Zja (n k:Nat) (hk:k<=64):ZhY .u64 (n:Int) (k:Int)=((n / 2 ^ k:Nat):Int):=by
 have e:min ((k:Int).toNat) IntKind.u64.bits=k:=by rw [Int.toNat_natCast];exact Nat.min_eq_left hk
 unfold ZhY;rw [e,Int.fdiv_eq_ediv_of_nonneg _ (by exact Int.le_of_lt (Int.pow_pos (by decide)))];rw [show ((2:Int) ^ k)=((2 ^ k:Nat):Int) from (Int.natCast_pow 2 k).symm]
 exact (Int.natCast_ediv n (2 ^ k)).symm
theorem Zw3 (n:Nat):ZhY .u64 (n:Int) 32=((n / 4294967296:Nat):Int):=Zja n 32 (by omega)
theorem Zw4 (n:Nat):ZhY .u64 (n:Int) 16=((n / 65536:Nat):Int):=Zja n 16 (by omega)
theorem shr8 (n:Nat):ZhY .u64 (n:Int) 8=((n / 256:Nat):Int):=Zja n 8 (by omega)
theorem Zn9 {n:Nat} (hn:n<18446744073709551616) (hw:Sat R Hs w):
  Zq prog 165 #[.int .u64 n] w λ v w'=>v=.int .i64 (Lib.bitLen n:Nat)/\Sat R Hs w':=by
 apply Ztl;refine ⟨λ x j w=>∃ m i:Nat,x=m/\j=i/\m<4294967296/\i<=32/\Lib.bitLen n=i + Lib.bitLen m/\Sat R Hs w,?_,?_⟩
 ·refine Br.d (λ h=>?_) (λ h=>?_)
  ·rw [Zw3]
   exact ⟨n / 4294967296,32,rfl,rfl,by omega,by omega,Lib.bitLen_shift32 n (by omega) hn,hw⟩
  ·exact ⟨n,0,rfl,rfl,by omega,by omega,by omega,hw⟩
 rintro _ _ _ w ⟨m,i,rfl,rfl,hm,hi,he,hw⟩;refine ⟨λ x j w=>∃ m i:Nat,x=m/\j=i/\m<65536/\i<=48/\Lib.bitLen n=i + Lib.bitLen m/\Sat R Hs w,?_,?_⟩
 ·refine Br.d (λ h=>?_) (λ h=>?_)
  ·rw [Zw4,Zg (by omega) (by omega)]
   exact ⟨m / 65536,i + 16,rfl,by omega,by omega,by omega,by have:=Lib.bitLen_shift16 m (by omega) (by omega);omega,hw⟩
  ·exact ⟨m,i,rfl,rfl,by omega,by omega,he,hw⟩
 clear hm hi he hw;rintro _ _ _ w ⟨m,i,rfl,rfl,hm,hi,he,hw⟩;refine Br.d (λ h=>?_) (λ h=>?_)
 ·rw [shr8,Zd3 (by omega) (by omega)]
  have h8:Lib.bitLen (m / 256)<=8:=Lib.bitLen_le8 ⟨m / 256,by omega⟩;refine ⟨UInt8.ofNat (Lib.bitLen (m / 256)),by omega,?_,?_,hw⟩
  ·rw [Int.toNat_natCast]
   obtain ⟨q,hq⟩:∃ q:Fin 256,q.1=m / 256:=⟨⟨m / 256,by omega⟩,rfl⟩;rw [<-hq];clear hq h8 hw he hi hm h
   revert q
   decide +kernel
  ·have:(UInt8.ofNat (Lib.bitLen (m / 256))).toNat=Lib.bitLen (m / 256):=by simp;omega
   have h2:=Lib.bitLen_shift8 m (by omega) (by omega);rw [this,Zg (x:=((Lib.bitLen (m / 256):Nat):Int)) (by omega) (by omega),Zg (x:=(i:Int) + 8) (by omega) (by omega),Zg (by omega) (by omega)]
   congr 1;omega
 ·rw [Zd3 (by omega) (by omega)]
  have h8:Lib.bitLen m<=8:=Lib.bitLen_le8 ⟨m,by omega⟩;refine ⟨UInt8.ofNat (Lib.bitLen m),by omega,?_,?_,hw⟩
  ·rw [Int.toNat_natCast]
   obtain ⟨q,hq⟩:∃ q:Fin 256,q.1=m:=⟨⟨m,by omega⟩,rfl⟩;rw [<-hq];clear hq h8 hw he hi hm h
   revert q
   decide +kernel
  ·have:(UInt8.ofNat (Lib.bitLen m)).toNat=Lib.bitLen m:=by simp;omega
   rw [this,Zg (x:=((Lib.bitLen m:Nat):Int)) (by omega) (by omega),Zg (by omega) (by omega)]
   congr 1;omega
theorem Zho {n:Nat} (hn:n<18446744073709551616) (hw:Sat R Hs w):
  Zq prog 113 #[.int .u64 n] w λ v w'=>∃ t:Sl,v=.slice t.a t.len t.cap/\Sat R (Own t 5 (b8 (Ze9 n))::Hs) w':=by
 apply ZtY;refine (Zn9 hn hw).use ?_;rintro _ w ⟨rfl,hw⟩;refine ⟨_,rfl,?_⟩;have hwid:=Zqh n hn;have h8:=ZfM hn;generalize hL:(dig n).length=L at *;have e:IntKind.i64.wrap ((IntKind.i64.wrap (((Lib.bitLen n:Nat):Int) + 7)).tdiv 8)=(L:Int):=by
  rw [Zg (x:=((Lib.bitLen n:Nat):Int) + 7) (by omega) (by omega),Int.tdiv_eq_ediv_of_nonneg (by omega),Zg (by omega) (by omega)];omega
 rw [e,Zd3 (by omega) (by omega)];refine Zd hw λ b w hw=>?_;have h0:Sat R (Own ⟨some ⟨b,0,none⟩,1,1⟩ 5 (b8 [(L:Int)])::Hs) w:=Own.of_pts (xs:=b8 [(L:Int)]) (rest:=[]) hw;refine ⟨λ wd out w=>∃ k:Nat,wd=k/\k<=L/\Sat R (Own out 5 (b8 ((L:Int)::(dig n).take (L - k)))::Hs) w,λ wd _ _=>wd.toNat,⟨L,rfl,Nat.le_refl _,by simpa using h0⟩,?_⟩;clear hw h0;rintro _ _ out w ⟨k,rfl,hk,hw⟩;refine Br.d (λ h=>?_) (λ h=>?_)
 ·have e1:IntKind.i64.wrap ((k:Int) - 1)=((k - 1:Nat):Int):=by rw [Zg (by omega) (by omega)];omega
  have e2:IntKind.i64.wrap (8 * ((k - 1:Nat):Int))=((8 * (k - 1):Nat):Int):=by rw [Zg (by omega) (by omega)];omega
  rw [e1,e2,Zja n _ (by omega)];refine Ge0.mk (by omega) ?_;have hd:=ZsQ (n:=n) (k:=k - 1) (by omega);have hlen:((L:Int)::(dig n).take (L - k)).length<=9:=by simp;omega
  refine Zhh Zh1 hw (Zep _) rfl (by rw [List.length_map];omega) (by rw [List.length_map];omega) λ t w hw=>⟨⟨k - 1,rfl,by omega,?_⟩,by show ((k - 1:Nat):Int).toNat<(k:Int).toNat;omega⟩;have e3:((L:Int)::(dig n).take (L - (k - 1)))=((L:Int)::(dig n).take (L - k))++[IntKind.u8.wrap ((n / 2 ^ (8 * (k - 1)):Nat):Int)]:=by
   have e4:L - (k - 1)=(L - k) + 1:=by omega
   rw [e4,List.take_succ_eq_append_getElem (by omega),List.cons_append]
   congr 3
   rw [Zi1,show (2:Nat) ^ (8 * (k - 1))=256 ^ (k - 1) from by rw [Nat.pow_mul],show ((n / 256 ^ (k - 1):Nat):Int) % 256=((n / 256 ^ (k - 1) % 256:Nat):Int) from (Int.natCast_emod _ _).symm,<-hd]
   congr 1;omega
  rw [e3];simpa [b8] using hw
 ·have hk0:k=0:=by omega
  subst hk0;refine ⟨out,rfl,?_⟩;have:(dig n).take (L - 0)=dig n:=List.take_of_length_le (by omega);rw [this] at hw;unfold Ze9;rw [hL];exact hw
abbrev ZbI (s:Sl) (bad:Bool):Obj:=.cells [.slice s.a s.len s.cap,.bool bad].toArray 180 (0,0)
def ZdK (r:Nat) (rd:Rd):HP:=exs λ s:Sl=>Zig [pts r (ZbI s rd.bad),Zd2 s (b8 rd.bs)]
theorem Sat.rd {r:Nat} {rd:Rd}:Sat R (ZdK r rd::Hs) w↔∃ s:Sl,Sat R (pts r (ZbI s rd.bad)::Zd2 s (b8 rd.bs)::Hs) w:=by
 unfold ZdK;rw [Sat.exs];exact ⟨λ⟨s,h⟩=>⟨s,Sat.star.1 h⟩,λ⟨s,h⟩=>⟨s,Sat.star.2 h⟩⟩
abbrev ZeV (r:Nat):Obj:=.cells [.pointer (some ⟨r,0,none⟩)].toArray 144 (0,0)
theorem Zr8 {br r:Nat} {s:Sl} {bad:Bool} {Kr:World->Prop} (hw:Sat R (pts br (ZeV r)::pts r (ZbI s bad)::Hs) w) (k:∀ w,Sat R (pts br (ZeV r)::pts r (ZbI s true)::Hs) w->Kr w):
  ZeC prog 221 [.pointer (some ⟨br,0,none⟩)] (.panicking ZeW) Kr w:=by
 unfold ZeC;refine CallsD.mono (ZrJ (some ⟨br,0,none⟩) (.iface 239 (.agg #[])) Kr w ?_) ?_
 ·refine ⟨true,λ w' _=>by kernel_rfl,Br.t rfl ?_⟩
  refine Zb.mk rfl ⟨some ⟨r,0,none⟩,At.own (eqS hw) (by exact ⟨rfl,trivial⟩),Zb.mk rfl ?_⟩;have hw:=hw.swap;refine Zc hw (by kernel_rfl) rfl (by simp [Value.cells]) λ w hw=>?_;exact k w hw.swap
 ·rintro e v w' ⟨hy,rfl,hk⟩
  exact ⟨hy,rfl,hk⟩
theorem ZuE {br:Nat} {Kr:World->Prop} (k:Kr w):ZeC prog 221 [.pointer (some ⟨br,0,none⟩)] .returning Kr w:=by
 unfold ZeC;refine CallsD.mono (ZrI (some ⟨br,0,none⟩) Kr w ?_) ?_
 ·exact ⟨false,λ w' _=>by kernel_rfl,Br.f rfl k⟩
 ·rintro e v w' ⟨hy,rfl,hk⟩
  exact ⟨hy,rfl,hk⟩
theorem Zgq {r:Nat} {rd:Rd} {one:Value} {α:Type} {f:α->List Int} {Hs1:α->List HP} {Hs2:List HP} {G:α->Prop} {N:Prop} (hw:Sat R (ZdK r rd::Hs) w)
  (hone:rd.bad=false->∀ (x:ZS) (l:Nat) (s:Sl) (A B:HP) (w:World),(∀ b o,x b=some o->(R.add x).m b=some o)->SlR x s (b8 rd.bs)->Sat (R.add x) (lp l s::A::B::Hs) w->
   Zcm prog cl one [.pointer (some ⟨l,0,none⟩)] w λ e w'=>
    (e=.returned (.tuple #[])/\∃ y s',G y/\SlR x s' (b8 (f y))/\Sat (R.add x) (lp l s'::A::B::Hs1 y) w')\/
    (e=.panicked ZeW/\N/\∃ s',Sat (R.add x) (lp l s'::A::B::Hs2) w')):
  Zq prog 190 #[.pointer (some ⟨r,0,none⟩),one] w λ v w'=>v=.tuple #[]/\
   ((rd.bad=true/\Sat R (ZdK r rd::Hs) w')\/(rd.bad=false/\∃ y,G y/\Sat R (ZdK r ⟨f y,false⟩::Hs1 y) w')\/(rd.bad=false/\N/\Sat R (ZdK r ⟨rd.bs,true⟩::Hs2) w')):=by
 obtain ⟨s,hw⟩:=Sat.rd.1 hw;apply Zs9;refine Zd hw λ br w hw=>?_;refine ⟨_,At.own (eqS hw) (by exact ⟨rfl,trivial⟩),Zb.mk rfl ?_⟩;refine ⟨_,At.own (eqS hw) (by exact ⟨rfl,trivial⟩),Zc4 (λ h=>.inl ⟨rfl,?_⟩) (λ h=>.inr ⟨_,rfl,?_⟩)⟩
 ·have hbad:rd.bad=false:=by simpa using h
  refine ⟨_,At.own (eqS hw) (by exact ⟨rfl,trivial⟩),Zb.mk rfl ?_⟩;refine ⟨_,At.own (eqS hw) (by exact ⟨rfl,trivial⟩),?_⟩;refine Zd hw λ l w hw=>?_;have hw:Sat R (pts l (.cells [.slice none 0 0].toArray 53 (0,0))::pts br (ZeV r)::pts r (ZbI s rd.bad)::Zd2 s (b8 rd.bs)::Hs) w:=hw;refine Zc hw (by kernel_rfl) rfl (by simp [Value.cells]) λ w hw=>?_;have hw:Sat R (lp l s::pts br (ZeV r)::pts r (ZbI s rd.bad)::Zd2 s (b8 rd.bs)::Hs) w:=hw;have hw:Sat R (Zd2 s (b8 rd.bs)::lp l s::pts br (ZeV r)::pts r (ZbI s rd.bad)::Hs) w:=hw.arr;obtain ⟨x,hd,_,hx,hs⟩:=Zd2.lend hw;have hsub:∀ b o,x b=some o->(R.add x).m b=some o:=λ b o hb=>by
   have:=hd b (by rw [hb];simp);simp only [Cx.add,ZS.add,this,hb]
  refine Zcm.mono (hone hbad x l s _ _ w hsub hs hx) ?_;rintro e w' (⟨rfl,bs',s',hg,hs',hw⟩|⟨rfl,hn,s',hw⟩)
  ·refine .inl ⟨rfl,?_⟩
   have hw:Sat (R.add x) (pts br (ZeV r)::pts r (ZbI s rd.bad)::lp l s'::Hs1 bs') w':=hw.arr;refine ⟨_,At.own (eqS hw) (by exact ⟨rfl,trivial⟩),?_⟩;refine ⟨_,At.own (eqS hw) (by exact ⟨rfl,trivial⟩),Zb.mk rfl ?_⟩;have hw:Sat (R.add x) (pts r (ZbI s rd.bad)::lp l s'::pts br (ZeV r)::Hs1 bs') w':=hw.arr;refine Zc hw (by kernel_rfl) rfl (by simp [Value.cells]) λ w hw=>?_;refine ZuE ⟨rfl,.inr (.inl ⟨hbad,bs',hg,?_⟩)⟩;have hw:Sat (R.add x) (pts r (ZbI s' rd.bad)::lp l s'::pts br (ZeV r)::Hs1 bs') w:=hw;rw [hbad] at hw;have hw:Sat (R.add x) (pts r (ZbI s' false)::Hs1 bs') w:=hw.cons λ _ h=>h.drop.drop;refine Sat.rd.2 ⟨s',?_⟩;exact (Zd2.back hd hs' hw).swap
  ·refine .inr ⟨_,rfl,?_⟩
   have hw:Sat (R.add x) (pts br (ZeV r)::pts r (ZbI s rd.bad)::lp l s'::Hs2) w':=hw.arr;refine Zr8 hw λ w hw=>⟨rfl,.inr (.inr ⟨hbad,hn,?_⟩)⟩;have hw:Sat (R.add x) (pts r (ZbI s true)::Hs2) w:=hw.drop.cons λ _ h=>h.drop;refine Sat.rd.2 ⟨s,?_⟩;exact (Zd2.back hd hs hw).swap
 ·have hbad:rd.bad=true:=by simpa using h
  have hw:Sat R (pts br (ZeV r)::pts r (ZbI s rd.bad)::Zd2 s (b8 rd.bs)::Hs) w:=hw;refine Zr8 hw λ w hw=>⟨rfl,.inl ⟨hbad,?_⟩⟩;rw [<-hbad] at hw;exact Sat.rd.2 ⟨s,hw.drop⟩
end
section
open Go Go.VC Tryz
variable {R:Cx} {Hs Rest:List HP} {w:World}
theorem Zcm.mk {g:FuncId} {captured:Array Value} {args:List Value} {Q:Ending->World->Prop} (hc:cl g=true) (h:Calls prog g (args++captured.toList).toArray w Q):Zcm prog cl (.func (.func g) #[] captured) args w Q:=by
 unfold Zcm;simp only [hc];exact h
theorem ZkJ {s:Sl} {bs:List Int} (hs:Ro R s (b8 bs)) (hl:bs.length<=1099511627776) (hw:Sat R Hs w):
  Zq prog 111 #[.slice s.a s.len s.cap] w λ v w'=>∃ r,v=.pointer (some ⟨r,0,none⟩)/\Sat R (ZdK r ⟨bs,false⟩::Hs) w':=by
 apply Zt0;refine (ZdC hs hl hw).use ?_;rintro _ w ⟨t,rfl,hw⟩;refine ⟨t,rfl,?_⟩;have hw:=Own.reads hw;refine Zd hw λ r w hw=>⟨r,rfl,Sat.rd.2 ⟨t,hw⟩⟩
theorem ZeE {r:Nat} {rd:Rd} (hw:Sat R (ZdK r rd::Hs) w):
  Zq prog 157 #[.pointer (some ⟨r,0,none⟩)] w λ v w'=>v=.bool (Zab rd)/\Sat R (ZdK r rd::Hs) w':=by
 obtain ⟨s,hw⟩:=Sat.rd.1 hw;have hsl:s.len=rd.bs.length:=by
  obtain ⟨x,_,_,_,hx⟩:=Zd2.lend hw.swap;have:=hx.len;simpa using this
 apply Ztt;refine Zb.mk rfl ⟨rd.bad,At.own (eqS hw) (by exact ⟨rfl,trivial⟩),Br.nb (λ h=>?_) (λ h=>?_)⟩
 ·refine Zb.mk rfl ?_
  refine ⟨s,At.own (eqS hw) (by exact ⟨rfl,trivial⟩),?_,Sat.rd.2 ⟨s,hw⟩⟩;unfold Zab;rw [h,hsl]
  congr 1
  simp only [Bool.not_false,Bool.true_and];cases rd.bs with
  |nil=>rfl
  |cons=>simp;omega
 ·refine ⟨?_,Sat.rd.2 ⟨s,hw⟩⟩
  unfold Zab;rw [h];rfl
theorem ZpB {h:ZS} {l bm bo:Nat} {s:Sl} {bs:List Int} {most:Int} (hb:∀ x∈bs,0<=x/\x<256) (hsub:∀ b o,h b=some o->R.m b=some o) (hr:SlR h s (b8 bs))
  (hw:Sat R (lp l s::pts bo (.cells [.int .u64 0].toArray 148 (0,0))::pts bm (.cells [.int .u64 most].toArray 148 (0,0))::Hs) w):
  Zdg prog 191 #[.pointer (some ⟨l,0,none⟩),.pointer (some ⟨bm,0,none⟩),.pointer (some ⟨bo,0,none⟩)] w
   (λ ch w'=>ch=ZeW/\(∀ n k,Za5 bs=some (n,false,k)->¬ n<=most)/\∃ s',Sat R (lp l s'::pts bo (.cells [.int .u64 0].toArray 148 (0,0))::pts bm (.cells [.int .u64 most].toArray 148 (0,0))::Hs) w')
   (λ v w'=>v=.tuple #[]/\∃ n k s',Za5 bs=some (n,false,k)/\n<=most/\SlR h s' (b8 (bs.drop k))/\
    Sat R (lp l s'::pts bo (.cells [.int .u64 n].toArray 148 (0,0))::pts bm (.cells [.int .u64 most].toArray 148 (0,0))::Hs) w'):=by
 apply Zs8;refine (ZiI hb hsub hr hw).use ?_ ?_
 rotate_left
 ·rintro _ w ⟨hp,rfl,s',hw⟩
  refine .inr ⟨_,rfl,rfl,?_,s',hw⟩;intro n k h;rw [hp] at h;cases h
 rintro _ w ⟨n,neg,k,s',hp,rfl,hs',hw⟩;refine .inl ⟨n,neg,rfl,Br.nb (λ h=>?_) (λ h=>?_)⟩
 ·subst h
  have hw2:Sat R (pts bm (.cells [.int .u64 most].toArray 148 (0,0))::lp l s'::pts bo (.cells [.int .u64 0].toArray 148 (0,0))::Hs) w:=hw.arr;refine Zb.mk rfl ?_;refine ⟨most,At.own (eqS hw) (by exact ⟨rfl,trivial⟩),Zc4 (λ h=>.inl ⟨rfl,?_⟩) (λ h=>.inr ⟨_,rfl,rfl,?_,s',hw⟩)⟩
  ·have h:=of_decide_eq_true h
   have hw:Sat R (pts bo (.cells [.int .u64 0].toArray 148 (0,0))::lp l s'::pts bm (.cells [.int .u64 most].toArray 148 (0,0))::Hs) w:=hw.swap;refine Zc hw (by kernel_rfl) rfl (by simp [Value.cells]) λ w hw=>?_;exact ⟨rfl,n,k,s',hp,h,hs',hw.swap⟩
  ·have h:=of_decide_eq_false h
   intro n' k' hp';rw [hp] at hp';simp only [Option.some.injEq,Prod.mk.injEq,true_and] at hp';rw [<-hp'.1];exact h
 ·subst h
  refine Zc4 (λ h=>by cases h) (λ _=>.inr ⟨_,rfl,rfl,?_,s',hw⟩);intro n' k' hp';rw [hp] at hp';simp at hp'
theorem Zdp {r:Nat} {rd:Rd} {most:Int} (hb:∀ x∈rd.bs,0<=x/\x<256) (hw:Sat R (ZdK r rd::Hs) w):
  Zq prog 155 #[.pointer (some ⟨r,0,none⟩),.int .u64 most] w λ v w'=>v=.int .u64 (ZE most rd).1/\Sat R (ZdK r (ZE most rd).2::Hs) w':=by
 apply Ztv;refine Zd hw λ bm w hw=>Zd hw λ bo w hw=>?_;have hw:Sat R (pts bo (.cells [.int .u64 0].toArray 148 (0,0))::pts bm (.cells [.int .u64 most].toArray 148 (0,0))::ZdK r rd::Hs) w:=hw;refine Zc hw (by kernel_rfl) rfl (by simp [Value.cells]) λ w hw=>?_;have hw:=hw.re (pts bo (.cells [.int .u64 0].toArray 148 (0,0)));have hw:Sat R (ZdK r rd::pts bo (.cells [.int .u64 0].toArray 148 (0,0))::pts bm (.cells [.int .u64 most].toArray 148 (0,0))::Hs) w:=hw.arr;refine (Zgq (α:=Int × Nat) (f:=λ y=>rd.bs.drop y.2) (G:=λ y=>Za5 rd.bs=some (y.1,false,y.2)/\y.1<=most) (N:=∀ n k,Za5 rd.bs=some (n,false,k)->¬ n<=most)
  (Hs1:=λ y=>pts bo (.cells [.int .u64 y.1].toArray 148 (0,0))::pts bm (.cells [.int .u64 most].toArray 148 (0,0))::Hs)
  (Hs2:=pts bo (.cells [.int .u64 0].toArray 148 (0,0))::pts bm (.cells [.int .u64 most].toArray 148 (0,0))::Hs) hw ?_).use ?_
 ·intro _ x l s A B w hsub hs hw
  refine Zcm.mk (by kernel_rfl) ?_;have hw2:Sat (R.add x) (lp l s::pts bo (.cells [.int .u64 0].toArray 148 (0,0))::pts bm (.cells [.int .u64 most].toArray 148 (0,0))::A::B::Hs) w:=hw.arr;refine (ZpB (h:=x) hb hsub hs hw2).use ?_ ?_
  ·rintro _ w ⟨rfl,n,k,s',hp,hn,hs',hw⟩
   exact .inl ⟨rfl,(n,k),s',⟨hp,hn⟩,hs',hw.arr⟩
  ·rintro _ w ⟨rfl,hn,s',hw⟩
   exact .inr ⟨rfl,hn,s',hw.arr⟩
 ·rintro _ w ⟨rfl,h⟩
  refine ⟨rfl,?_⟩;rcases h with ⟨hbad,hw⟩|⟨hbad,⟨n,k⟩,⟨hp,hn⟩,hw⟩|⟨hbad,hno,hw⟩
  ·have hw:Sat R (pts bo (.cells [.int .u64 0].toArray 148 (0,0))::ZdK r rd::pts bm (.cells [.int .u64 most].toArray 148 (0,0))::Hs) w:=hw.swap
   refine ⟨0,At.own (eqS hw) (by exact ⟨rfl,trivial⟩),?_⟩;unfold ZE;rw [if_pos hbad];exact ⟨rfl,hw.drop.cons λ _ h=>h.drop⟩
  ·have hw:Sat R (pts bo (.cells [.int .u64 n].toArray 148 (0,0))::ZdK r ⟨rd.bs.drop k,false⟩::pts bm (.cells [.int .u64 most].toArray 148 (0,0))::Hs) w:=hw.swap
   refine ⟨n,At.own (eqS hw) (by exact ⟨rfl,trivial⟩),?_⟩;unfold ZE;rw [if_neg (by rw [hbad];simp),hp];simp only;rw [if_pos (by simpa using hn)];exact ⟨rfl,hw.drop.cons λ _ h=>h.drop⟩
  ·have hw:Sat R (pts bo (.cells [.int .u64 0].toArray 148 (0,0))::ZdK r ⟨rd.bs,true⟩::pts bm (.cells [.int .u64 most].toArray 148 (0,0))::Hs) w:=hw.swap
   refine ⟨0,At.own (eqS hw) (by exact ⟨rfl,trivial⟩),?_⟩;have e:ZE most rd=(0,⟨rd.bs,true⟩):=by
    unfold ZE;rw [if_neg (by rw [hbad];simp)];cases hp:Za5 rd.bs with
    |none=>rfl
    |some p=>
     obtain ⟨n,neg,k⟩:=p;simp only;rw [if_neg];rintro ⟨rfl,h⟩;exact hno n k hp h
   rw [e];exact ⟨rfl,hw.drop.cons λ _ h=>h.drop⟩
theorem ZaF {most:Int} {rd:Rd} (hb:∀ x∈rd.bs,0<=x/\x<256):∀ x∈(ZE most rd).2.bs,0<=x/\x<256:=by
 unfold ZE;split
 ·exact hb
 ·split
  ·split
   ·exact λ x hx=>hb x (List.mem_of_mem_drop hx)
   ·exact hb
  ·exact hb
theorem Zap {most:Int} {rd:Rd} (hb:∀ x∈rd.bs,0<=x/\x<256) (hm:0<=most):0<=(ZE most rd).1/\(ZE most rd).1<=most:=by
 unfold ZE;split
 ·exact ⟨Int.le_refl _,hm⟩
 ·split
  ·rename_i n neg k hp
   split
   ·rename_i h;exact ⟨(Zc3 hb hp).1,h.2⟩
   ·exact ⟨Int.le_refl _,hm⟩
  ·exact ⟨Int.le_refl _,hm⟩
end
section
open Go Go.VC Tryz
variable {R:Cx} {Hs Rest:List HP} {w:World}
theorem Zoe {s:Sl} {bs:List Int} (hs:Ro R s (b8 bs)) (hl:bs.length<=1099511627776) (hw:Sat R Hs w):
  Zq prog 114 #[.slice s.a s.len s.cap] w λ v w'=>∃ t:Sl,v=.slice t.a t.len t.cap/\Sat R (Own t 5 (b8 (Zfo bs))::Hs) w':=by
 have hlen:s.len=bs.length:=by have:=hs.len;simpa using this
 apply ZtX;unfold B114;rw [Zbt (by omega) (by omega),hlen];refine (Zho (by omega) hw).use ?_;rintro _ w ⟨t,rfl,hw⟩;refine ⟨t,rfl,?_⟩;rw [<-hlen];have hn:=ZdQ (n:=bs.length) (by omega);have hsrc:Src prog 1 53 (.slice s.a s.len s.cap) bs.length (b8 bs) w:=by
  have:=Zi9 underlying53 hw hs (Zep _);simpa using this
 refine Zas Zh1 (s:=t) hw hsrc (Zep _) (by rw [List.length_map];omega) (by rw [List.length_map];omega) λ s2 w hw=>?_;exact ⟨s2,rfl,by simpa [b8,Zfo] using hw⟩
theorem Zno {h:ZS} {l bm bo:Nat} {s:Sl} {bs:List Int} {most:Int} (hm:most<9223372036854775808) (hl:bs.length<=1099511627776) (hb:∀ x∈bs,0<=x/\x<256) (hsub:∀ b o,h b=some o->R.m b=some o) (hr:SlR h s (b8 bs))
  (hw:Sat R (lp l s::lp bo ⟨none,0,0⟩::pts bm (.cells [.int .i64 most].toArray 3 (0,0))::Hs) w):
  Zdg prog 223 #[.pointer (some ⟨l,0,none⟩),.pointer (some ⟨bm,0,none⟩),.pointer (some ⟨bo,0,none⟩)] w
   (λ ch w'=>ch=ZeW/\(∀ n k,Za5 bs=some (n,false,k)->¬ (0<=most/\n<=most/\n<=(bs.length:Int) - k))/\∃ s',Sat R (lp l s'::lp bo ⟨none,0,0⟩::pts bm (.cells [.int .i64 most].toArray 3 (0,0))::Hs) w')
   (λ v w'=>v=.tuple #[]/\∃ n k s' t,Za5 bs=some (n,false,k)/\(0<=most/\n<=most/\n<=(bs.length:Int) - k)/\SlR h s' (b8 (bs.drop (k + n.toNat)))/\
    Sat R (lp l s'::lp bo t::Own t 5 (b8 ((bs.drop k).take n.toNat))::pts bm (.cells [.int .i64 most].toArray 3 (0,0))::Hs) w'):=by
 apply ZsY;refine (ZiI hb hsub hr hw).use ?_ ?_
 rotate_left
 ·rintro _ w ⟨hp,rfl,s',hw⟩
  refine .inr ⟨_,rfl,rfl,?_,s',hw⟩;intro n k h;rw [hp] at h;cases h
 rintro _ w ⟨n,neg,k,s',hp,rfl,hs',hw⟩;obtain ⟨n0,n1,k0,k1,k2⟩:=Zc3 hb hp;have no:(∀ n' k',Za5 bs=some (n',false,k')->¬ (0<=most/\n'<=most/\n'<=(bs.length:Int) - k'))->∀ {A:Prop} {e:Ending},(e=.panicked ZeW)->(e=.returned (.tuple #[])/\A)\/∃ ch,e=.panicked ch/\ch=ZeW/\(∀ n k,Za5 bs=some (n,false,k)->¬ (0<=most/\n<=most/\n<=(bs.length:Int) - k))/\∃ s',Sat R (lp l s'::lp bo ⟨none,0,0⟩::pts bm (.cells [.int .i64 most].toArray 3 (0,0))::Hs) w:=λ h A e he=>
  .inr ⟨_,he,rfl,h,s',hw⟩
 have same:∀ n' k',Za5 bs=some (n',false,k')->neg=false/\n'=n/\k'=k:=λ n' k' h=>by
  rw [hp] at h;simp only [Option.some.injEq,Prod.mk.injEq] at h;exact ⟨h.2.1,h.1.symm,h.2.2.symm⟩
 refine .inl ⟨n,neg,rfl,Br.nb (λ h=>?_) (λ h=>?_)⟩
 rotate_left
 ·refine Zc4 (λ h=>by cases h) (λ _=>no (λ n' k' h'=>?_) rfl)
  rw [(same n' k' h').1] at h;cases h
 subst h;have hw2:Sat R (pts bm (.cells [.int .i64 most].toArray 3 (0,0))::lp l s'::lp bo ⟨none,0,0⟩::Hs) w:=hw.arr;refine Zb.mk rfl ⟨most,At.own (eqS hw2) (by exact ⟨rfl,trivial⟩),Br.d (λ h1=>?_) (λ h1=>?_)⟩
 rotate_left
 ·refine Zc4 (λ h=>by cases h) (λ _=>no (λ n' k' h' h2=>by omega) rfl)
 refine Zb.mk rfl ⟨most,At.own (eqS hw2) (by exact ⟨rfl,trivial⟩),?_⟩;rw [Zbt (by omega) (by omega)];refine Br.d (λ h2=>?_) (λ h2=>?_)
 rotate_left
 ·refine Zc4 (λ h=>by cases h) (λ _=>no (λ n' k' h' h3=>by have:=(same n' k' h').2.1;omega) rfl)
 have hsl:s'.len=bs.length - k:=by have:=hs'.len;simpa using this
 refine Zb.mk rfl ⟨s',At.own (eqS hw) (by exact ⟨rfl,trivial⟩),?_⟩;rw [Zbt (by omega) (by omega),hsl];refine Zc4 (λ h3=>.inl ⟨rfl,?_⟩) (λ h3=>?_)
 rotate_left
 ·have h3:=of_decide_eq_false h3
  refine no (λ n' k' h' h4=>?_) rfl;have:=same n' k' h';omega
 have h3:=of_decide_eq_true h3;rw [Zg (by omega) (by omega)];obtain ⟨m,rfl⟩:=Int.eq_ofNat_of_zero_le n0;have hm':SlR R.m s' (b8 (bs.drop k)):=hs'.mono hsub;refine (ZgY (k:=m) hm' hw).use ?_ ?_
 rotate_left
 ·rintro _ w ⟨h4,_⟩
  simp at h4;omega
 rintro _ w ⟨_,rfl,hw⟩;refine .inl ⟨⟨s'.a,m,s'.cap⟩,rfl,?_⟩;have ht:SlR R.m ⟨s'.a,m,s'.cap⟩ (b8 ((bs.drop k).take m)):=by
  have:=hm'.take (k:=m) (by simp;omega);rwa [<-List.map_take] at this
 refine (ZdC (s:=⟨s'.a,m,s'.cap⟩) (ht.ro (by simp;omega)) (by simp;omega) hw).use ?_;rintro _ w ⟨t,rfl,hw⟩;refine .inl ⟨t,rfl,?_⟩;have hw:Sat R (lp bo ⟨none,0,0⟩::Own t 5 (b8 ((bs.drop k).take m))::lp l (Z0 s' m)::pts bm (.cells [.int .i64 most].toArray 3 (0,0))::Hs) w:=hw.arr;refine Zc hw (by kernel_rfl) rfl (by simp [Value.cells]) λ w hw=>?_;have hw:=hw.re (lp bo t);refine ⟨rfl,m,k,Z0 s' m,t,hp,⟨by omega,h2,by omega⟩,?_,?_⟩
 ·have:=hs'.drop (k:=m) (by simp;omega)
  rw [<-List.map_drop,List.drop_drop] at this;exact this
 ·rw [Int.toNat_natCast];exact hw.arr
theorem Znx {r:Nat} {rd:Rd} {most:Int} (hm:most<9223372036854775808) (hl:rd.bs.length<=1099511627776) (hb:∀ x∈rd.bs,0<=x/\x<256) (hw:Sat R (ZdK r rd::Hs) w):
  Zq prog 194 #[.pointer (some ⟨r,0,none⟩),.int .i64 most] w λ v w'=>∃ t:Sl,v=.slice t.a t.len t.cap/\Sat R (Own t 5 (b8 (ZaJ most rd).1)::ZdK r (ZaJ most rd).2::Hs) w':=by
 apply Zs5;refine Zd hw λ bm w hw=>Zd hw λ bo w hw=>?_;have hw:Sat R (ZdK r rd::lp bo ⟨none,0,0⟩::pts bm (.cells [.int .i64 most].toArray 3 (0,0))::Hs) w:=by
  have hw:Sat R (lp bo ⟨none,0,0⟩::pts bm (.cells [.int .i64 most].toArray 3 (0,0))::ZdK r rd::Hs) w:=hw;exact hw.arr
 refine (Zgq (α:=(Int × Nat) × Sl) (f:=λ y=>rd.bs.drop (y.1.2 + y.1.1.toNat)) (G:=λ y=>Za5 rd.bs=some (y.1.1,false,y.1.2)/\(0<=most/\y.1.1<=most/\y.1.1<=(rd.bs.length:Int) - y.1.2)) (N:=∀ n k,Za5 rd.bs=some (n,false,k)->¬ (0<=most/\n<=most/\n<=(rd.bs.length:Int) - k))
  (Hs1:=λ y=>lp bo y.2::Own y.2 5 (b8 ((rd.bs.drop y.1.2).take y.1.1.toNat))::pts bm (.cells [.int .i64 most].toArray 3 (0,0))::Hs)
  (Hs2:=lp bo ⟨none,0,0⟩::pts bm (.cells [.int .i64 most].toArray 3 (0,0))::Hs) hw ?_).use ?_
 ·intro _ x l s A B w hsub hs hw
  refine Zcm.mk (by kernel_rfl) ?_;have hw2:Sat (R.add x) (lp l s::lp bo ⟨none,0,0⟩::pts bm (.cells [.int .i64 most].toArray 3 (0,0))::A::B::Hs) w:=hw.arr;refine (Zno (h:=x) hm hl hb hsub hs hw2).use ?_ ?_
  ·rintro _ w ⟨rfl,n,k,s',t,hp,hn,hs',hw⟩
   exact .inl ⟨rfl,((n,k),t),s',⟨hp,hn⟩,hs',hw.arr⟩
  ·rintro _ w ⟨rfl,hn,s',hw⟩
   exact .inr ⟨rfl,hn,s',hw.arr⟩
 ·rintro _ w ⟨rfl,h⟩
  refine ⟨rfl,?_⟩;rcases h with ⟨hbad,hw⟩|⟨hbad,⟨⟨n,k⟩,t⟩,⟨hp,hn⟩,hw⟩|⟨hbad,hno,hw⟩
  ·have hw:Sat R (lp bo ⟨none,0,0⟩::ZdK r rd::pts bm (.cells [.int .i64 most].toArray 3 (0,0))::Hs) w:=hw.swap
   refine ⟨⟨none,0,0⟩,At.own (eqS hw) (by exact ⟨rfl,trivial⟩),?_⟩;unfold ZaJ;rw [if_pos hbad];exact ⟨_,rfl,Own.nil (hw.drop.cons λ _ h=>h.drop)⟩
  ·have hw:Sat R (lp bo t::Own t 5 (b8 ((rd.bs.drop k).take n.toNat))::ZdK r ⟨rd.bs.drop (k + n.toNat),false⟩::pts bm (.cells [.int .i64 most].toArray 3 (0,0))::Hs) w:=hw.arr
   refine ⟨t,At.own (eqS hw) (by exact ⟨rfl,trivial⟩),?_⟩;unfold ZaJ;rw [if_neg (by rw [hbad];simp),hp];simp only;rw [if_pos ⟨trivial,hn⟩];exact ⟨_,rfl,hw.drop.cons λ _ h=>h.cons λ _ h=>h.drop⟩
  ·have hw:Sat R (lp bo ⟨none,0,0⟩::ZdK r ⟨rd.bs,true⟩::pts bm (.cells [.int .i64 most].toArray 3 (0,0))::Hs) w:=hw.swap
   refine ⟨⟨none,0,0⟩,At.own (eqS hw) (by exact ⟨rfl,trivial⟩),?_⟩;have e:ZaJ most rd=([],⟨rd.bs,true⟩):=by
    unfold ZaJ;rw [if_neg (by rw [hbad];simp)];cases hp:Za5 rd.bs with
    |none=>rfl
    |some p=>
     obtain ⟨n,neg,k⟩:=p;simp only;rw [if_neg];rintro ⟨rfl,h⟩;exact hno n k hp h
   rw [e];exact ⟨_,rfl,Own.nil (hw.drop.cons λ _ h=>h.drop)⟩
theorem Zfw {most:Int} {rd:Rd}:(ZE most rd).2.bs.length<=rd.bs.length:=by
 unfold ZE;split
 ·simp
 ·split
  ·split
   ·simp
   ·simp
  ·simp
end
end Go.Proofs.YtkfedbncmfnpnaaGreatDoor
namespace Go.VC
section
open Ieee
abbrev fw (n:Nat):Nat:=double.nearest false n 0
end
end Go.VC


namespace Go.VC
structure Wt where
 id:Int
 cls:Int
 many:Int
 time:Int
 sc:Nat
deriving DecidableEq
def Wt.Ok (w:Wt):Prop:=(1<=w.id/\w.id<=28629151)/\(0<=w.cls/\w.cls<=7)/\(1<=w.many/\w.many<=600)/\(0<=w.time/\w.time<=1099511627776)
instance (w:Wt):Decidable w.Ok:=by unfold Wt.Ok;infer_instance
end Go.VC


namespace Go.VC
theorem Zm1:∀ (k:Nat) (d:List Int),d.length=k->(∀ x∈d,0<=x/\x<256)->d.head?≠some 0->dig (ZbR 0 d).toNat=d
 |0,d,hl,_,_=>by
  rw [List.length_eq_zero_iff.1 hl];exact Zbs
 |k + 1,d,hl,hb,hh=>by
  have hne:d≠[]:=by rintro rfl;simp at hl
  obtain ⟨d',b,rfl⟩:∃ d' b,d=d'++[b]:=⟨d.dropLast,d.getLast hne,(List.dropLast_concat_getLast hne).symm⟩;have hb':∀ x∈d',0<=x/\x<256:=λ x hx=>hb x (by simp [hx]);have hb0:=hb b (by simp);have hv:=ZcD (acc:=0) (Int.le_refl _) hb';rw [ZcC];have hz:(ZbR 0 d' * 256 + b).toNat≠0:=by
   cases d' with
   |nil=>
    have:b≠0:=by simpa using hh
    rw [Zq2];omega
   |cons x l=>
    have hx0:x≠0:=by simpa using hh
    have hxb:=hb' x (by simp);intro h0;have hv0:ZbR 0 (x::l)=0:=by omega
    rw [Zfj] at hv0;have mono:∀ (l:List Int) (a:Int),0<a->(∀ y∈l,0<=y/\y<256)->0<ZbR a l:=by
     intro l
     induction l with
     |nil=>intro a ha _;exact ha
     |cons y l ih=>
      intro a ha hy;rw [Zfj];have:=hy y (by simp);exact ih _ (by omega) λ z hz=>hy z (by simp [hz])
    have:=mono l (0 * 256 + x) (by omega) λ y hy=>hb' y (by simp [hy]);omega
  rw [Zde hz];have e1:(ZbR 0 d' * 256 + b).toNat / 256=(ZbR 0 d').toNat:=by omega
  have e2:(((ZbR 0 d' * 256 + b).toNat % 256:Nat):Int)=b:=by omega
  rw [e1,e2];simp at hl;rw [Zm1 k d' hl hb' ?_];cases d' with
  |nil=>simp
  |cons x l=>simpa using hh
theorem Zpp {l:List Int} {n:Int} {k:Nat} (hb:∀ x∈l,0<=x/\x<256) (h:Za5 l=some (n,false,k)):l=Ze9 n.toNat++l.drop k:=by
 unfold Za5 at h;split at h
 ·cases h
 ·rename_i c rest
  simp only at h;by_cases hc16:16<=c
  ·rw [if_pos hc16] at h
   generalize (c - 16).toNat=v at h;split at h
   ·simp only [Option.some.injEq,Prod.mk.injEq] at h
    obtain ⟨_,hneg,_⟩:=h;simp [hc16] at hneg
   ·cases h
  rw [if_neg hc16] at h;generalize hw:c.toNat=w at h;split at h
  ·rename_i hc
   simp only [Option.some.injEq,Prod.mk.injEq] at h;obtain ⟨hn,_,hk⟩:=h;obtain ⟨_,h8,hr,hz,hnz⟩:=hc;have hc0:=hb c (by simp);subst hn;subst hk;have e:dig (ZbR 0 (rest.take w)).toNat=rest.take w:=by
    refine Zm1 _ _ rfl (λ x hx=>hb x (List.mem_cons_of_mem _ (List.mem_of_mem_take hx))) ?_;cases rest with
    |nil=>simp
    |cons x r=>
     by_cases h0:w=0
     ·rw [h0];simp
     ·have:=hnz h0
      obtain ⟨v,rfl⟩:∃ v,w=v + 1:=⟨w - 1,by omega⟩;rw [List.take_succ_cons];simpa using this
   unfold Ze9;rw [e,List.length_take,Nat.min_eq_left hr];show c::rest=(((w:Nat):Int)::List.take w rest)++List.drop w rest;rw [List.cons_append,List.take_append_drop,<-hw,Int.toNat_of_nonneg hc0.1]
  ·cases h
theorem Zhf {most:Int} {r:Rd} (hb:∀ x∈r.bs,0<=x/\x<256) (h:(ZE most r).2.bad=false):r.bad=false/\r.bs=Ze9 (ZE most r).1.toNat++(ZE most r).2.bs:=by
 unfold ZE at *;split at h
 ·rename_i hr;rw [hr] at h;cases h
 ·rename_i hr
  refine ⟨by simpa using hr,?_⟩;rw [if_neg hr];split at h
  ·rename_i n neg k hp
   split at h
   ·rename_i hc
    rw [if_pos hc];rw [hc.1] at hp;exact Zpp hb hp
   ·cases h
  ·cases h
theorem Zis {most:Int} {r:Rd} (h:r.bad=true):ZE most r=(0,r):=by unfold ZE;rw [if_pos h]
theorem Zlx {most:Int} {r:Rd} (h:r.bad=true):ZaJ most r=([],r):=by unfold ZaJ;rw [if_pos h]
def Zbu (l:List (List Int)):List Int:=(l.map ZP).flatten
def ZbV (b:List Int):Prop:=b.length<=65536/\∀ x∈b,0<=x/\x<256
theorem Zpb:Zbu []=[]:=rfl
theorem Zbz (b:List Int) (l:List (List Int)):Zbu (b::l)=ZP b++Zbu l:=rfl
theorem Zfv (a b:List (List Int)):Zbu (a++b)=Zbu a++Zbu b:=by unfold Zbu;simp
theorem Zcf (b:List Int):Zbu [b]=ZP b:=by simp [Zbu]
theorem Zao:∀ l:List (List Int),(Zbu l).length=Zo l
 |[]=>rfl
 |b::l=>by rw [Zbz,List.length_append,ZK,Zao l,ZJ]
theorem Zgo (a b:List (List Int)):Zo (a++b)=Zo a + Zo b:=by
 rw [<-Zao,<-Zao,<-Zao,Zfv,List.length_append]
theorem Zrc {l:List (List Int)} (h:∀ b∈l,ZbV b):∀ x∈Zbu l,0<=x/\x<256:=λ x hx=>by
 unfold Zbu at hx;rw [List.mem_flatten] at hx;obtain ⟨r,hr,hx⟩:=hx;obtain ⟨b,hb,rfl⟩:=List.mem_map.1 hr;exact Zlw (h b hb).2 x hx
theorem Zjg:∀ {l:List (List Int)} {t:List Int},(∀ b∈l,ZbV b)->first t=none->scan (Zbu l++t)=l
 |[],t,_,ht=>by rw [Zpb,List.nil_append,Zbm ht]
 |b::l,t,h,ht=>by
  have hb:=h b (List.mem_cons_self ..);have hf:=Zp4 (rest:=Zbu l++t) hb.1 hb.2;rw [Zbz,List.append_assoc,Zdn hf];have:(ZP b++(Zbu l++t)).drop (8 + b.length)=Zbu l++t:=by rw [<-ZK,List.drop_left]
  rw [this,Zjg (λ x hx=>h x (List.mem_cons_of_mem _ hx)) ht]
theorem ZhC:first []=none:=by unfold first;simp
theorem Zo3 {l:List (List Int)} (h:∀ b∈l,ZbV b):scan (Zbu l)=l:=by
 have:=Zjg h ZhC;rwa [List.append_nil] at this
theorem ZkK {b:List Int} (hb:b.length<=65536) {m:Nat} (hm:m<(ZP b).length):first ((ZP b).take m)=none:=by
 have hl:=ZK b;unfold first
 split
 case isFalse=>rfl
 rename_i h8;have hm8:8<=m:=by rw [List.length_take] at h8;omega
 have e4:((ZP b).take m).take 4=ZaL b.length:=by
  rw [List.take_take,show min 4 m=4 by omega];unfold ZP;rw [List.append_assoc];exact List.take_left' (Zbk _)
 have hv:(ZbR 0 (((ZP b).take m).take 4)).toNat=b.length:=by rw [e4,Zfi (by omega)];omega
 simp only [hv];rw [if_neg];rw [List.length_take];omega
theorem Zj1:∀ (l:List (List Int)) (k:Nat),∃ (j:Nat) (t:List Int),j<=l.length/\(Zbu l).take k=Zbu (l.take j)++t/\(t=[]\/∃ b m,l[j]? =some b/\t=(ZP b).take m/\m<(ZP b).length)/\
  ∀ i,i<=l.length->Zo (l.take i)<=k->i<=j
 |[],k=>⟨0,[],Nat.le_refl _,by simp [Zbu],.inl rfl,λ i hi _=>hi⟩
 |b::l,k=>by
  by_cases hk:(ZP b).length<=k
  ·obtain ⟨j,t,hj,ht,hc,hi⟩:=Zj1 l (k - (ZP b).length)
   refine ⟨j + 1,t,by simp;omega,?_,?_,λ i hi' hs=>?_⟩
   ·rw [Zbz,List.take_append,List.take_of_length_le hk,ht,List.take_succ_cons,Zbz,List.append_assoc]
   ·rcases hc with rfl|⟨c,m,h1,h2,h3⟩
    ·exact .inl rfl
    ·exact .inr ⟨c,m,by simpa using h1,h2,h3⟩
   ·cases i with
    |zero=>omega
    |succ i=>
     have:=hi i (by simp at hi';omega) (by rw [List.take_succ_cons,ZJ] at hs;have:=ZK b;omega);omega
  ·refine ⟨0,(ZP b).take k,by simp,?_,.inr ⟨b,k,rfl,rfl,by omega⟩,λ i hi' hs=>?_⟩
   ·rw [Zbz,List.take_append,show k - (ZP b).length=0 by omega];simp [Zbu]
   ·cases i with
    |zero=>omega
    |succ i=>rw [List.take_succ_cons,ZJ] at hs;have:=ZK b;omega
structure Ey where
 ix:Int
 tm:Int
 kd:Int
 dt:List Int
structure Lg where
 base:Int
 l:List Ey
def Lg.last (g:Lg):Int:=g.base + g.l.length
def addR (g:Lg) (r:Rd):Option Lg:=
 let i:=ZE 1099511627777 r
 let t:=ZE 1099511627776 i.2
 let k:=ZE 7 t.2
 let d:=ZaJ 4096 k.2
 if Zab d.2=true/\i.1<=1099511627776/\i.1=g.last + 1 then some ⟨g.base,g.l++[⟨i.1,t.1,k.1,d.1⟩]⟩ else none
def Zfe (g:Lg) (i:Int):Lg:=if i<=g.base then ⟨i - 1,[]⟩ else if i<=g.last then ⟨g.base,g.l.take (i - 1 - g.base).toNat⟩ else g
def ZoI (g:Lg) (r:Rd):Option Lg:=
 let i:=ZE 1099511627777 r
 if Zab i.2=true/\1<=i.1 then some (Zfe g i.1) else none
def Zd4 (_:Lg) (r:Rd):Option Lg:=
 let i:=ZE 1099511627777 r
 if Zab i.2=true/\1<=i.1 then some ⟨i.1 - 1,[]⟩ else none
def Zau (g:Lg) (r:Rd):Option Lg:=
 let k:=ZE 3 r
 if k.1=1 then addR g k.2 else if k.1=2 then ZoI g k.2 else if k.1=3 then Zd4 g k.2 else none
def ZV (g:Lg) (b:List Int):Option Lg:=Zau g ⟨b,false⟩
def ZeT (b:List Int) (num:Int):Int:=
 let k:=ZE 0 ⟨b,false⟩
 let n:=ZE 99999999 k.2
 let x:=ZE 1099511627777 n.2
 if Zab x.2=true/\n.1=num then x.1 else 0
structure Ey.Ok (x:Ey):Prop where
 i0:1<=x.ix
 i1:x.ix<=1099511627776
 t0:0<=x.tm
 t1:x.tm<=1099511627776
 k0:0<=x.kd
 k1:x.kd<=7
 d1:x.dt.length<=4096
def Zc6 (x:Ey):List Int:=Ze9 1++(Ze9 x.ix.toNat++(Ze9 x.tm.toNat++(Ze9 x.kd.toNat++Zfo x.dt)))
def Zc8 (i:Int):List Int:=Ze9 2++Ze9 i.toNat
def Zd8 (i:Int):List Int:=Ze9 3++Ze9 i.toNat
def hdB (n:Nat) (next:Int):List Int:=Ze9 0++(Ze9 n++Ze9 next.toNat)
theorem rdN {n:Nat} {most:Int} (h:n<18446744073709551616) (hm:(n:Int)<=most) (rest:List Int):ZE most ⟨Ze9 n++rest,false⟩=((n:Int),⟨rest,false⟩):=by
 unfold ZE;rw [if_neg (by simp)];dsimp only;rw [Zkp h];dsimp only;rw [if_pos ⟨rfl,hm⟩,List.drop_left]
theorem Zw6 {n:Nat} {most:Int} (h:n<18446744073709551616) (hm:(n:Int)<=most):ZE most ⟨Ze9 n,false⟩=((n:Int),⟨[],false⟩):=by
 have:=rdN h hm [];rwa [List.append_nil] at this
theorem rdT {d:List Int} {most:Int} (hl:d.length<1000000) (hm:(d.length:Int)<=most):ZaJ most ⟨Zfo d,false⟩=(d,⟨[],false⟩):=by
 unfold ZaJ Zfo;rw [if_neg (by simp)];dsimp only;rw [Zkp (by omega)];dsimp only;have hn:=ZdQ (n:=d.length) (by omega);rw [if_pos ⟨rfl,by omega,hm,by simp only [List.length_append];omega⟩,List.drop_left,Int.toNat_natCast,List.take_length,<-List.drop_drop,List.drop_left,List.drop_length]
theorem ZiV {g:Lg} {x:Ey} (h:x.Ok):ZV g (Zc6 x)=if x.ix=g.last + 1 then some ⟨g.base,g.l++[x]⟩ else none:=by
 obtain ⟨i0,i1,t0,t1,k0,k1,d1⟩:=h;unfold ZV Zau Zc6;simp only;rw [rdN (n:=1) (by omega) (by omega)];dsimp only;rw [if_pos (show ((1:Nat):Int)=1 from rfl)]
 unfold addR;simp only;rw [rdN (n:=x.ix.toNat) (by omega) (by omega)];simp only;rw [rdN (n:=x.tm.toNat) (by omega) (by omega)];simp only;rw [rdN (n:=x.kd.toNat) (by omega) (by omega)];simp only;rw [rdT (by omega) (by omega)];simp only [Int.toNat_of_nonneg (show 0<=x.ix by omega),Int.toNat_of_nonneg t0,Int.toNat_of_nonneg k0];have hw:Zab ⟨[],false⟩=true:=rfl;by_cases hx:x.ix=g.last + 1
 ·rw [if_pos ⟨hw,i1,hx⟩,if_pos hx]
 ·rw [if_neg (λ h=>hx h.2.2),if_neg hx]
theorem Zoz {g:Lg} {i:Int} (h0:1<=i) (h1:i<=1099511627777):ZV g (Zc8 i)=some (Zfe g i):=by
 unfold ZV Zau Zc8;simp only;rw [rdN (n:=2) (by omega) (by omega)];simp only;rw [if_neg (by decide),if_pos (by decide)];unfold ZoI;simp only;rw [Zw6 (n:=i.toNat) (by omega) (by omega)];simp only [Int.toNat_of_nonneg (show 0<=i by omega)];rw [if_pos ⟨rfl,h0⟩]
theorem Zoy {g:Lg} {i:Int} (h0:1<=i) (h1:i<=1099511627777):ZV g (Zd8 i)=some ⟨i - 1,[]⟩:=by
 unfold ZV Zau Zd8;simp only;rw [rdN (n:=3) (by omega) (by omega)];simp only;rw [if_neg (by decide),if_neg (by decide),if_pos (by decide)];unfold Zd4;simp only;rw [Zw6 (n:=i.toNat) (by omega) (by omega)];simp only [Int.toNat_of_nonneg (show 0<=i by omega)];rw [if_pos ⟨rfl,h0⟩]
theorem ZpY {n:Nat} {next:Int} (hn:n<=99999999) (h0:0<=next) (h1:next<=1099511627777):ZeT (hdB n next) n=next:=by
 unfold ZeT hdB;simp only;rw [rdN (n:=0) (by omega) (by omega)];simp only;rw [rdN (n:=n) (by omega) (by omega)];simp only;rw [Zw6 (n:=next.toNat) (by omega) (by omega)];simp only [Int.toNat_of_nonneg h0];rw [if_pos ⟨rfl,trivial⟩]
theorem Zad {n k:Nat} (h:n<256 ^ k):(Ze9 n).length<=k + 1:=by
 unfold Ze9;have:=Zgf k n h;simp;omega
theorem ZfJ {x:Ey} (h:x.Ok):(Zc6 x).length<=21 + x.dt.length:=by
 obtain ⟨i0,i1,t0,t1,k0,k1,d1⟩:=h;have a:=Zad (n:=1) (k:=1) (by decide);have b:=Zad (n:=x.ix.toNat) (k:=6) (by omega);have c:=Zad (n:=x.tm.toNat) (k:=6) (by omega);have d:=Zad (n:=x.kd.toNat) (k:=1) (by omega);have e:=Zad (n:=x.dt.length) (k:=2) (by omega);unfold Zc6 Zfo;simp only [List.length_append];omega
theorem Zm6 {i:Int} (h1:i<=1099511627777):(Zc8 i).length<=9:=by
 have a:=Zad (n:=2) (k:=1) (by decide);have b:=Zad (n:=i.toNat) (k:=6) (by omega);unfold Zc8;simp only [List.length_append];omega
theorem ZmE {i:Int} (h1:i<=1099511627777):(Zd8 i).length<=9:=by
 have a:=Zad (n:=3) (k:=1) (by decide);have b:=Zad (n:=i.toNat) (k:=6) (by omega);unfold Zd8;simp only [List.length_append];omega
theorem ZdV {n:Nat} {next:Int} (hn:n<=99999999) (h1:next<=1099511627777):(hdB n next).length<=13:=by
 have a:=Zad (n:=0) (k:=0) (by decide);have b:=Zad (n:=n) (k:=4) (by omega);have c:=Zad (n:=next.toNat) (k:=6) (by omega);unfold hdB;simp only [List.length_append];omega
theorem Zbr {a b:List Int} (ha:∀ x∈a,0<=x/\x<256) (hb:∀ x∈b,0<=x/\x<256):∀ x∈a++b,0<=x/\x<256:=λ x hx=>(List.mem_append.1 hx).elim (ha x) (hb x)
theorem ZjB {x:Ey} (h:x.Ok) (hd:∀ y∈x.dt,0<=y/\y<256):ZbV (Zc6 x):=by
 have hl:=ZfJ h;obtain ⟨i0,i1,t0,t1,k0,k1,d1⟩:=h;refine ⟨by omega,?_⟩;unfold Zc6 Zfo;exact Zbr (ZbJ (by omega)) (Zbr (ZbJ (by omega)) (Zbr (ZbJ (by omega)) (Zbr (ZbJ (by omega)) (Zbr (ZbJ (by omega)) hd))))
theorem Zqn {i:Int} (h1:i<=1099511627777):ZbV (Zc8 i):=by
 have:=Zm6 h1;refine ⟨by omega,?_⟩;unfold Zc8;exact Zbr (ZbJ (by omega)) (ZbJ (by omega))
theorem Zo9 {i:Int} (h1:i<=1099511627777):ZbV (Zd8 i):=by
 have:=ZmE h1;refine ⟨by omega,?_⟩;unfold Zd8;exact Zbr (ZbJ (by omega)) (ZbJ (by omega))
theorem ZpZ {n:Nat} {next:Int} (hn:n<=99999999) (h1:next<=1099511627777):ZbV (hdB n next):=by
 have:=ZdV hn h1;refine ⟨by omega,?_⟩;unfold hdB;exact Zbr (ZbJ (by omega)) (Zbr (ZbJ (by omega)) (ZbJ (by omega)))
theorem Lg.base_le (g:Lg):g.base<=g.last:=by unfold Lg.last;omega
theorem Zgg (g:Lg) (i:Int):(Zfe g i).last=if i<=g.last then i - 1 else g.last:=by
 have hb:=g.base_le;unfold Zfe;by_cases h1:i<=g.base
 ·rw [if_pos h1,if_pos (by omega)];simp [Lg.last]
 ·rw [if_neg h1]
  by_cases h2:i<=g.last
  ·rw [if_pos h2,if_pos h2]
   unfold Lg.last at h2 ⊢;simp only [List.length_take];omega
  ·rw [if_neg h2,if_neg h2]
theorem Zl3 {g g' g2:Lg} {b:List Int} (h:ZV g b=some g') (hl:g2.last=g.last):∃ g2',ZV g2 b=some g2'/\g2'.last=g'.last:=by
 unfold ZV Zau at h ⊢;simp only at h ⊢;split at h
 ·rename_i hk
  rw [if_pos hk];unfold addR at h ⊢;simp only at h ⊢;split at h
  ·rename_i hc
   rw [if_pos (by rw [hl];exact hc)];cases h;refine ⟨_,rfl,?_⟩;unfold Lg.last at hl ⊢;simp only [List.length_append,List.length_cons,List.length_nil];omega
  ·cases h
 ·rename_i hk
  rw [if_neg hk];split at h
  ·rename_i hk
   rw [if_pos hk];unfold ZoI at h ⊢;simp only at h ⊢;split at h
   ·rename_i hc
    rw [if_pos hc];cases h;exact ⟨_,rfl,by rw [Zgg,Zgg,hl]⟩
   ·cases h
  ·rename_i hk
   rw [if_neg hk];split at h
   ·rename_i hk
    rw [if_pos hk];unfold Zd4 at h ⊢;simp only at h ⊢;split at h
    ·rename_i hc
     rw [if_pos hc];cases h;exact ⟨_,rfl,rfl⟩
    ·cases h
   ·cases h
def Zea:Lg->List (List Int)->Option Lg
 |g,[]=>some g
 |g,x::xs=>match ZV g x with
  |none=>none
  |some g'=>Zea g' xs
theorem ZmB {g:Lg}:∀ {a b:List (List Int)},Zea g (a++b)=(Zea g a).bind λ g'=>Zea g' b:=λ {a}=>by
 induction a generalizing g with
 |nil=>intro b;rfl
 |cons x a ih=>
  intro b;simp only [List.cons_append,Zea];cases ZV g x with
  |none=>rfl
  |some g'=>exact ih
theorem Zj6 {b:List (List Int)}:∀ {g g' g2:Lg},Zea g b=some g'->g2.last=g.last->∃ g2',Zea g2 b=some g2'/\g2'.last=g'.last:=by
 induction b with
 |nil=>intro g g' g2 h hl;cases h;exact ⟨g2,rfl,hl⟩
 |cons x b ih=>
  intro g g' g2 h hl;unfold Zea at h ⊢;split at h
  ·cases h
  ·rename_i g1 h1
   obtain ⟨g3,h3,hl3⟩:=Zl3 h1 hl;rw [h3];exact ih h hl3
structure Sg where
  num:Nat
  next:Int
  size:Int
structure Ld where
  g:Lg
  segs:List Sg
  amiss:Option Sg
  behind:List Nat
def Zfu:Lg->Int->List (List Int)->Lg × Option Int
  |g,_,[]=>(g,none)
  |g,d,x::xs=>match ZV g x with
    |none=>(g,some d)
    |some g'=>Zfu g' (d + (8 + x.length)) xs
def ZR (prev:Option Nat) (n:Nat) (l:List (List Int)):Int:=
  match l with
  |[]=>0
  |h::_=>if prev=none\/prev.map (· + 1)=some n then ZeT h n else 0
def ZH (n:Nat) (next:Int):List Int:=ZP (hdB n next)
def Zaq (rd:Nat->List Int):Option Nat->Lg->List Sg->List Nat->Ld
  |_,g,segs,[]=>⟨g,segs,none,[]⟩
  |prev,g,segs,n::rest=>
    let l:=scan (rd n)
    let next:=ZR prev n l
    if next=0\/(prev≠none/\next≠g.last + 1) then ⟨g,segs,some ⟨n,next,0⟩,rest⟩
    else
      let g1:Lg:=if prev=none then ⟨next - 1,g.l⟩ else g
      let segs1:=segs++[⟨n,next,(rd n).length⟩]
      match Zfu g1 (ZH n next).length l.tail with
      |(g2,some d)=>⟨g2,segs1,some ⟨n,next,d⟩,rest⟩
      |(g2,none)=>if Zo l=(rd n).length then Zaq rd (some n) g2 segs1 rest else ⟨g2,segs1,some ⟨n,next,Zo l⟩,rest⟩
theorem ZmC {b:List (List Int)}:∀ {g g':Lg} {d:Int},Zea g b=some g'->Zfu g d b=(g',none):=by
  induction b with
  |nil=>intro g g' d h;cases h;rfl
  |cons x b ih=>
    intro g g' d h;unfold Zea at h;unfold Zfu;split at h
    · cases h
    · rename_i g1 h1
      first
        |(rw [h1];exact ih h)
        |exact ih h
theorem Zji {b:List (List Int)}:∀ {g g':Lg} {d e:Int},Zfu g d b=(g',some e)->∃ a x c,b=a++x::c/\Zea g a=some g'/\e=d + Zo a:=by
  induction b with
  |nil=>intro g g' d e h;cases h
  |cons x b ih=>
    intro g g' d e h;unfold Zfu at h;split at h
    · rename_i h1
      cases h;exact ⟨[],x,b,rfl,rfl,by simp [Zo]⟩
    · rename_i g1 h1
      obtain ⟨a,y,c,rfl,hr,rfl⟩:=ih h;refine ⟨x::a,y,c,rfl,?_,?_⟩
      · unfold Zea;rw [h1];exact hr
      · rw [ZJ];omega
theorem Zo4 {b:List (List Int)}:∀ {g g':Lg} {d:Int},Zfu g d b=(g',none)->Zea g b=some g':=by
  induction b with
  |nil=>intro g g' d h;cases h;rfl
  |cons x b ih=>
    intro g g' d h;unfold Zfu at h;split at h
    · cases h
    · rename_i g1 h1
      unfold Zea;rw [h1];exact ih h
structure Sc where
  num:Nat
  next:Int
  bs:List (List Int)
def Sc.recs (c:Sc):List (List Int):=hdB c.num c.next::c.bs
def Sc.bytes (c:Sc):List Int:=Zbu c.recs
def Sc.sg (c:Sc):Sg:=⟨c.num,c.next,c.bytes.length⟩
structure Sc.Ok (c:Sc):Prop where
  n0:1<=c.num
  n1:c.num<=99999999
  x0:1<=c.next
  x1:c.next<=1099511627777
  bs:∀ b∈c.bs,ZbV b
theorem Sc.Ok.recs {c:Sc} (h:c.Ok):∀ b∈c.recs,ZbV b:=λ b hb=>by
  rcases List.mem_cons.1 hb with rfl|hb
  · exact ZpZ h.n1 h.x1
  · exact h.bs b hb
theorem Sc.Ok.scan {c:Sc} (h:c.Ok):scan c.bytes=c.recs:=Zo3 h.recs
inductive Z8:Option Nat->Lg->List Sc->Lg->Prop
  |nil {p:Option Nat} {g:Lg}:Z8 p g [] g
  |first {g0 g1 g2:Lg} {c:Sc} {cs:List Sc}:c.Ok->g0.l=[]->Zea ⟨c.next - 1,[]⟩ c.bs=some g1->Z8 (some c.num) g1 cs g2->Z8 none g0 (c::cs) g2
  |more {p:Nat} {g g1 g2:Lg} {c:Sc} {cs:List Sc}:c.Ok->c.num=p + 1->c.next=g.last + 1->Zea g c.bs=some g1->Z8 (some c.num) g1 cs g2->Z8 (some p) g (c::cs) g2
def Za0:Option Nat->List Sc->Option Nat
  |p,[]=>p
  |_,c::cs=>Za0 (some c.num) cs
theorem Z8.app {a b:List Sc}:∀ {p:Option Nat} {g g1 g2:Lg},Z8 p g a g1->Z8 (Za0 p a) g1 b g2->Z8 p g (a++b) g2:=by
  induction a with
  |nil=>intro p g g1 g2 h h2;cases h;exact h2
  |cons c a ih=>
    intro p g g1 g2 h h2;cases h with
    |first ho hl hr hc=>exact .first ho hl hr (ih hc h2)
    |more ho hn hx hr hc=>exact .more ho hn hx hr (ih hc h2)
theorem Z8.split {a b:List Sc}:∀ {p:Option Nat} {g g2:Lg},Z8 p g (a++b) g2->∃ g1,Z8 p g a g1/\Z8 (Za0 p a) g1 b g2:=by
  induction a with
  |nil=>intro p g g2 h;exact ⟨g,.nil,h⟩
  |cons c a ih=>
    intro p g g2 h;cases h with
    |first ho hl hr hc=>obtain ⟨g1,h1,h2⟩:=ih hc;exact ⟨g1,.first ho hl hr h1,h2⟩
    |more ho hn hx hr hc=>obtain ⟨g1,h1,h2⟩:=ih hc;exact ⟨g1,.more ho hn hx hr h1,h2⟩
theorem Z8.ok {cs:List Sc}:∀ {p:Option Nat} {g g2:Lg},Z8 p g cs g2->∀ c∈cs,c.Ok:=by
  induction cs with
  |nil=>intro p g g2 _ c hc;cases hc
  |cons c cs ih=>
    intro p g g2 h x hx;cases h with
    |first ho _ _ hc=>rcases List.mem_cons.1 hx with rfl|hx;exact ho;exact ih hc x hx
    |more ho _ _ _ hc=>rcases List.mem_cons.1 hx with rfl|hx;exact ho;exact ih hc x hx
theorem Z8.again {cs:List Sc}:∀ {p:Option Nat} {g g2 h:Lg},Z8 p g cs g2->p≠none->h.last=g.last->∃ h2,Z8 p h cs h2/\h2.last=g2.last:=by
  induction cs with
  |nil=>intro p g g2 h hc _ hl;cases hc;exact ⟨h,.nil,hl⟩
  |cons c cs ih=>
    intro p g g2 h hc hp hl;cases hc with
    |first=>exact absurd rfl hp
    |more ho hn hx hr hc=>
      obtain ⟨h1,hr1,hl1⟩:=Zj6 hr hl;obtain ⟨h2,hc2,hl2⟩:=ih hc (by simp) hl1;exact ⟨h2,.more ho hn (by rw [hl];exact hx) hr1 hc2,hl2⟩
theorem Z8.tail {c d:Sc} {cs:List Sc} {g g2:Lg} (h:Z8 none g (c::d::cs) g2):∃ h2,Z8 none ⟨0,[]⟩ (d::cs) h2/\h2.last=g2.last:=by
  cases h with
  |first ho hl hr hc=>
    cases hc with
    |more ho2 hn hx hr2 hc2=>
      obtain ⟨h1,hr1,hl1⟩:=Zj6 (g2:=⟨d.next - 1,[]⟩) hr2 (by simp [Lg.last] at hx ⊢;omega);obtain ⟨h2,hc3,hl2⟩:=hc2.again (by simp) hl1;exact ⟨h2,.first ho2 rfl hr1 hc3,hl2⟩
theorem Zga {rd:Nat->List Int} {cs:List Sc}:∀ {p:Option Nat} {g g2:Lg} {segs:List Sg} {rest:List Nat},Z8 p g cs g2->(∀ c∈cs,rd c.num=c.bytes)->
    Zaq rd p g segs (cs.map (·.num)++rest)=Zaq rd (Za0 p cs) g2 (segs++cs.map Sc.sg) rest:=by
  induction cs with
  |nil=>intro p g g2 segs rest h _;cases h;simp [Za0]
  |cons c cs ih=>
    intro p g g2 segs rest h hrd;have hc:=hrd c (List.mem_cons_self ..);have hcs:∀ x∈cs,rd x.num=x.bytes:=λ x hx=>hrd x (List.mem_cons_of_mem _ hx);have step:∀ {g1 g3:Lg},c.Ok->(p=none\/p.map (· + 1)=some c.num)->(p≠none->c.next=g.last + 1)->(if p=none then (⟨c.next - 1,g.l⟩:Lg) else g)=g1->Zea g1 c.bs=some g3->Z8 (some c.num) g3 cs g2->
        Zaq rd p g segs ((c::cs).map (·.num)++rest)=Zaq rd (Za0 p (c::cs)) g2 (segs++(c::cs).map Sc.sg) rest:=λ {g1 g3} ho hp hx hg hr hch=>by
      rw [List.map_cons,List.cons_append]
      conv=>lhs;unfold Zaq
      simp only [hc,ho.scan];have hn:ZR p c.num c.recs=c.next:=by
        unfold ZR Sc.recs;simp only;rw [if_pos hp,ZpY ho.n1 (by have:=ho.x0;omega) ho.x1]
      simp only [hn];rw [if_neg (λ h=>h.elim (λ h=>by have:=ho.x0;omega) (λ h=>h.2 (hx h.1)))];rw [hg];have ht:c.recs.tail=c.bs:=rfl;rw [ht,ZmC hr];simp only;have hl:Zo c.recs=c.bytes.length:=(Zao _).symm;rw [if_pos hl,ih hch hcs];simp [Za0,Sc.sg,List.append_assoc]
    cases h with
    |first ho hl hr hch=>exact step ho (.inl rfl) (λ h=>absurd rfl h) (by rw [if_pos rfl,hl]) hr hch
    |more ho hn hx hr hch=>exact step ho (.inr (by simp [hn])) (λ _=>hx) (if_neg (by simp)) hr hch
theorem Z8.nums {cs:List Sc}:∀ {p:Option Nat} {g g2:Lg},Z8 p g cs g2->(∀ q,p=some q->∀ c∈cs,q<c.num)/\cs.Pairwise λ a b=>a.num<b.num:=by
  induction cs with
  |nil=>intro p g g2 _;exact ⟨λ _ _ _ hc=>(by cases hc),.nil⟩
  |cons c cs ih=>
    intro p g g2 h;cases h with
    |first ho hl hr hc=>
      obtain ⟨h1,h2⟩:=ih hc;exact ⟨λ _ hq=>(by cases hq),List.pairwise_cons.2 ⟨h1 _ rfl,h2⟩⟩
    |more ho hn hx hr hc=>
      obtain ⟨h1,h2⟩:=ih hc;refine ⟨λ q hq x hx=>?_,List.pairwise_cons.2 ⟨h1 _ rfl,h2⟩⟩;cases hq;rcases List.mem_cons.1 hx with rfl|hx
      · omega
      · have:=h1 _ rfl x hx;omega
theorem Zrv {rd:Nat->List Int} {p:Option Nat} {g g1 g2:Lg} {segs:List Sg} {c:Sc} {k:Nat} (ho:c.Ok) (hp:p=none\/p.map (· + 1)=some c.num) (hx:p≠none->c.next=g.last + 1) (hg:(if p=none then (⟨c.next - 1,g.l⟩:Lg) else g)=g1)
    (hr:Zea g1 c.bs=some g2) (hrd:rd c.num=c.bytes.take k):
    (Zaq rd p g segs [c.num]=⟨g,segs,some ⟨c.num,0,0⟩,[]⟩/\k<(ZH c.num c.next).length)\/
    ∃ j g3,j<=c.bs.length/\Zea g1 (c.bs.take j)=some g3/\(∀ i,i<=c.bs.length->Zo (hdB c.num c.next::c.bs.take i)<=k->i<=j)/\Zo (hdB c.num c.next::c.bs.take j)<=(rd c.num).length/\
      ((Zo (hdB c.num c.next::c.bs.take j)=(rd c.num).length/\rd c.num=Zbu (hdB c.num c.next::c.bs.take j)/\Zaq rd p g segs [c.num]=⟨g3,segs++[⟨c.num,c.next,(rd c.num).length⟩],none,[]⟩)\/
       Zaq rd p g segs [c.num]=⟨g3,segs++[⟨c.num,c.next,(rd c.num).length⟩],some ⟨c.num,c.next,Zo (hdB c.num c.next::c.bs.take j)⟩,[]⟩):=by
  obtain ⟨j,t,hj,ht,hcut,hi⟩:=Zj1 c.recs k;have hscan:scan (c.bytes.take k)=c.recs.take j:=by
    unfold Sc.bytes;rw [ht];refine Zjg (λ b hb=>ho.recs b (List.mem_of_mem_take hb)) ?_;rcases hcut with rfl|⟨d,m,h1,rfl,h3⟩
    · exact ZhC
    · obtain ⟨hlt,rfl⟩:=List.getElem?_eq_some_iff.1 h1
      exact ZkK (ho.recs _ (List.getElem_mem _)).1 h3
  cases j with
  |zero=>
    refine .inl ⟨?_,?_⟩
    · unfold Zaq
      simp only [hrd,hscan,List.take_zero,ZR];rw [if_pos (.inl trivial)]
    · rcases Nat.lt_or_ge k (ZH c.num c.next).length with h|h
      · exact h
      · have:=hi 1 (by simp [Sc.recs]) (by
          have:c.recs.take 1=[hdB c.num c.next]:=by simp [Sc.recs]
          rw [this,ZJ];unfold ZH at h;rw [ZK] at h;simp [Zo];omega)
        omega
  |succ j=>
    have hj':j<=c.bs.length:=by simpa [Sc.recs] using hj
    have er:c.recs.take (j + 1)=hdB c.num c.next::c.bs.take j:=by simp [Sc.recs]
    have hsplit:c.bs=c.bs.take j++c.bs.drop j:=(List.take_append_drop ..).symm;obtain ⟨g3,h3⟩:∃ g3,Zea g1 (c.bs.take j)=some g3:=by
      rw [hsplit,ZmB] at hr;cases h:Zea g1 (c.bs.take j) with
      |none=>rw [h] at hr;cases hr
      |some g3=>exact ⟨g3,rfl⟩
    have hlen:Zo (hdB c.num c.next::c.bs.take j)<=(rd c.num).length:=by
      rw [hrd,<-er,<-Zao];unfold Sc.bytes;rw [ht];simp
    refine .inr ⟨j,g3,hj',h3,λ i hi' hs=>?_,hlen,?_⟩
    · have:=hi (i + 1) (by simp [Sc.recs];omega) (by simpa [Sc.recs] using hs)
      omega
    · unfold Zaq
      simp only [hrd,hscan,er];have hn:ZR p c.num (hdB c.num c.next::c.bs.take j)=c.next:=by
        unfold ZR;simp only;rw [if_pos hp,ZpY ho.n1 (by have:=ho.x0;omega) ho.x1]
      simp only [hn];rw [if_neg (λ h=>h.elim (λ h=>by have:=ho.x0;omega) (λ h=>h.2 (hx h.1))),hg,List.tail_cons,ZmC h3];simp only;by_cases he:Zo (hdB c.num c.next::c.bs.take j)=(c.bytes.take k).length
      · refine .inl ⟨he,?_,?_⟩
        · have h1:c.bytes.take k=Zbu (hdB c.num c.next::c.bs.take j)++t:=by rw [<-er];exact ht
          have h2:=congrArg List.length h1;rw [List.length_append,Zao,<-he] at h2;have:t=[]:=List.length_eq_zero_iff.1 (by omega);rw [h1,this,List.append_nil]
        · rw [if_pos he]
          rfl
      · right
        rw [if_neg he]
section
variable {P:Program} {R:Cx} {Hs Rest:List HP} {w:World} {s t:Sl} {T T2:TypeId}
theorem Zjr (k:IntKind) (xs:List Int):Zac (xs.map (Value.int k))=true:=by
 induction xs with
 |nil=>rfl
 |cons x xs ih=>simp only [List.map_cons,Zac,List.all_cons,Bool.and_eq_true];exact ⟨rfl,ih⟩
theorem Zeo {b n:Nat} {l:List Value} {fr:Nat × Nat} (hw:Sat R (pts b (.cells l.toArray T fr)::Hs) w) (hn:n=l.length:=by rfl) (hf:ZoG l.length fr:=by first|assumption|exact Or.inl rfl):Sat R (Own ⟨some ⟨b,0,none⟩,n,n⟩ T l::Hs) w:=by
 subst hn;have:=Own.of_pts (xs:=l) (rest:=[]) (by simpa using hw) (by simpa using hf);simpa using this
theorem ZeQ {t1 t2 ty e':TypeId} {bytes n:Nat} {k:IntKind} (E:El P t1 t2 T bytes) {xs ys:List Int} {K:Sl->World->Prop} (h2:P.underlying t2=some (.slice e'))
  (hw:Sat R (Own s T (xs.map (Value.int k))::Hs) w) (hy:Ro R t (ys.map (Value.int k))) (hn:xs.length + ys.length<=n) (hb:2 * n * bytes<=281474976710656) (hb':n<=9223372036854775807)
  (kk:∀ s' w',Sat R (Own s' T ((xs++ys).map (Value.int k))::Hs) w'->K s' w'):
  ∃ w',∃ t':Sl,(Builtin.append_ #[t1,t2] ty #[.slice s.a s.len s.cap,.slice t.a t.len t.cap]).run P w=.ok (.slice t'.a t'.len t'.cap) w'/\K t' w':=by
 have hsrc:Src P 1 t2 (.slice t.a t.len t.cap) ys.length (ys.map (Value.int k)) w:=by
  have:=Zi9 h2 hw hy (Zjr _ _);simpa using this
 refine Zas E (s:=s) hw hsrc (Zjr _ _) ?_ (by rw [List.length_map];omega) λ s2 w hw=>kk s2 w (by simpa using hw);rw [List.length_map];have:2 * (xs.length + ys.length) * bytes<=2 * n * bytes:=Nat.mul_le_mul_right _ (by omega);omega
theorem Zcx {t1 t2 ty e':TypeId} {bytes n:Nat} {k:IntKind} (E:El P t1 t2 T bytes) {xs ys:List Int} {K:Sl->World->Prop} (h2:P.underlying t2=some (.slice e'))
  (hw:Sat R (Own s T (xs.map (Value.int k))::Own t T2 (ys.map (Value.int k))::Hs) w) (hn:xs.length + ys.length<=n) (hb:2 * n * bytes<=281474976710656) (hb':n<=9223372036854775807)
  (kk:∀ s' w',Sat R (Own s' T ((xs++ys).map (Value.int k))::Own t T2 (ys.map (Value.int k))::Hs) w'->K s' w'):
  ∃ w',∃ t':Sl,(Builtin.append_ #[t1,t2] ty #[.slice s.a s.len s.cap,.slice t.a t.len t.cap]).run P w=.ok (.slice t'.a t'.len t'.cap) w'/\K t' w':=by
 obtain ⟨R',hr,_,hw,back⟩:=Own.lend hw.swap (by rw [List.length_map];omega);exact ZeQ E h2 hw hr hn hb hb' λ s' w' hw=>kk s' w' (back hw).swap
theorem Ro.ix {k:IntKind} {xs:List Int} {S:World->Prop} {i:Int} (hr:Ro R s (xs.map (Value.int k))) (hS:∀ w,S w->Sat R Hs w) (j:Nat) (hi:i=j) (hj:j<xs.length) {F:Int->Prop} (h:F xs[j]):
  Rng i s.len (Zb s.a λ a=>∃ t:Int,(At S (a.add i.toNat) [.int k t])/\F t):=by
 subst hi;exact hr.idxK hS hj h
theorem SlR.ix {k:IntKind} {xs:List Int} {S:World->Prop} {i:Int} (hr:SlR R.m s (xs.map (Value.int k))) (hS:∀ w,S w->Sat R Hs w) (j:Nat) (hi:i=j) (hj:j<xs.length) {F:Int->Prop} (h:F xs[j]):
  Rng i s.len (Zb s.a λ a=>∃ t:Int,(At S (a.add i.toNat) [.int k t])/\F t):=by
 subst hi;exact hr.idxK hS hj h
end
section
variable {P:Program} {R R' R'':Cx} {Hs Rest:List HP} {w:World} {s:Sl} {T:TypeId}
structure Cx.Ext (R R':Cx):Prop where
 m:∀ b o,R.m b=some o->R'.m b=some o
 like:R'.like R
theorem Cx.Ext.refl:R.Ext R:=⟨λ _ _ h=>h,rfl,rfl,rfl⟩
theorem Cx.Ext.trans (h:R.Ext R') (h':R'.Ext R''):R.Ext R'':=
 ⟨λ b o hb=>h'.m b o (h.m b o hb),h.like.1.trans h'.like.1,h.like.2.1.trans h'.like.2.1,h.like.2.2.trans h'.like.2.2⟩
theorem Cx.Ext.add {h:ZS}:R.Ext (R.add h):=⟨λ b o hb=>by simp only [Cx.add,ZS.add,hb],rfl,rfl,rfl⟩
theorem Cx.Ext.back (h:R.Ext R') (hw:Sat R' Hs w):Sat R Hs w:=Sat.ro_of h.m h.like hw
theorem Cx.Ext.ro {xs:List Value} (h:R.Ext R') (a:Ro R s xs):Ro R' s xs:=
 ⟨a.len,a.bound,λ hx=>let ⟨b,off,l,T,fr,h1,h2,h3⟩:=a.mem hx;⟨b,off,l,T,fr,h1,h.m _ _ h2,h3⟩⟩
theorem Cx.Ext.roN {n:Nat} {xs:List (List Value)} (h:R.Ext R') (a:RoN n R s xs):RoN n R' s xs:=
 ⟨a.wid,a.len,λ hx=>let ⟨b,off,l,T,fr,h1,h2,h3⟩:=a.mem hx;⟨b,off,l,T,fr,h1,h.m _ _ h2,h3⟩⟩
theorem Cx.Ext.slR {xs:List Value} (h:R.Ext R') (a:SlR R.m s xs):SlR R'.m s xs:=
 ⟨a.len,a.cap,λ hx=>let ⟨b,off,l,T,fr,h1,h2,h3⟩:=a.mem hx;⟨b,off,l,T,fr,h1,h.m _ _ h2,h3⟩⟩
theorem Zd2.leak {xs:List Value} (h:Sat R (Zd2 s xs::Hs) w):∃ R':Cx,R.Ext R'/\SlR R'.m s xs/\Sat R' Hs w:=by
 obtain ⟨x,_,h1,h2,_⟩:=Zd2.lend h;exact ⟨_,.add,h1,h2⟩
theorem Own.leak {xs:List Value} (h:Sat R (Own s T xs::Hs) w):∃ R':Cx,R.Ext R'/\SlR R'.m s xs/\Sat R' Hs w:=Zd2.leak (Own.reads h)
theorem ZM.leak {n:Nat} {rows:List (List Value)} (h:Sat R (ZM n s T rows::Hs) w):∃ R':Cx,R.Ext R'/\RoN n R' s rows/\Sat R' Hs w:=by
 obtain ⟨R',h1,⟨x,rfl⟩,h2,_⟩:=ZM.lend h;exact ⟨_,.add,h1,h2⟩
theorem pts.leak {b:Nat} {o:Obj} (h:Sat R (pts b o::Hs) w):∃ R':Cx,R.Ext R'/\R'.m b=some o/\Sat R' Hs w:=by
 obtain ⟨h1,h2⟩:=Sat.lend.1 h;exact ⟨_,.add,Cx.lent h1,h2⟩
end
section
variable {P:Program} {R:Cx} {Hs Rest:List HP} {w:World} {s:Sl} {T:TypeId}
theorem Own.ix {kd:IntKind} {xs:List Int} {S:World->Prop} {Hs':List HP} {i:Int} (hw:Sat R (Own s T (xs.map (Value.int kd))::Hs) w) (hS:∀ w,S w->Sat R (Own s T (xs.map (Value.int kd))::Hs') w) (k:Nat) (hi:i=k) (hk:k<xs.length) {F:Int->Prop} (h:F xs[k]):
  Rng i s.len (Zb s.a λ a=>∃ t:Int,(At S (a.add i.toNat) [.int kd t])/\F t):=by
 subst hi;exact Own.idx hw hS hk h
end
end Go.VC

namespace Go.VC
section
variable {P:Program} {R R' R'':Cx} {Hs Rest:List HP} {w:World} {s:Sl} {T:TypeId}
instance:ZbU Int where
 enc:=Value.int .i64
 desc:=.int .i64
 same a b:=by
  show (if IntKind.i64=IntKind.i64 then some (a==b) else none)=some (a==b)
  rw [if_pos rfl]
 bits a:=by
  have:∀ n,Instr.sameBits n (.int .i64 a) (.int .i64 a)=(IntKind.i64==IntKind.i64 && a==a):=λ n=>by cases n<;>rfl
  rw [this];simp
 eq a b h:=beq_iff_eq.1 h
 check P em K a w h:=by
  show (Instr.checkKey em (9999 + 1) K (.int .i64 a)).run P w=_;unfold Instr.checkKey;simp [run_underlying h]
end
end Go.VC


namespace Go.VC
section
variable {R:Cx} {Hs:List HP} {w:World}
theorem ZuM {s:ByteArray} {i:Nat} (h:(s.get! i).toNat<128):Utf8.decode s i=((s.get! i).toNat,1):=by
 unfold Utf8.decode;simp only [Nat.add_zero];rw [if_pos h]
theorem ZuN {s:ByteArray} {i:Nat} (h:¬ (s.get! i).toNat<128):128<=(Utf8.decode s i).1:=by
 unfold Utf8.decode;simp only [Nat.add_zero];rw [if_neg h];have hr:128<=Utf8.runeError:=by decide
 repeat' split
 all_goals first|exact hr|(rename_i h1;simp only [Bool.and_eq_true,decide_eq_true_eq] at h1;dsimp only;omega)|(rename_i h1;dsimp only;omega)
theorem ZqB {s:ByteArray} {i:Nat} (h:i<s.size):((s.get! i).toNat:Int)=(bytesL s)[i]'(by rw [Zbe];exact h):=by
 have h2:i<s.data.toList.length:=by simpa using h
 have e:s.get! i=s.data.toList[i]:=by
  show s.data[i]! =_;rw [getElem!_pos s.data i (by simpa using h2)];simp
 rw [e];simp [bytesL]
theorem ZnR {b:Nat} {s:ByteArray} {pos:Nat} {A:Int->Int->World->Prop} {B:World->Prop} (hw:Sat R (pts b (.stringIter s pos)::Hs) w)
  (h1:pos<s.size->∀ w',Sat R (pts b (.stringIter s (pos + (Utf8.decode s pos).2))::Hs) w'->A (pos:Int) ((Utf8.decode s pos).1:Int) w') (h2:¬ pos<s.size->B w):Zuh (some ⟨b,0,none⟩) A B w:=
 ⟨b,s,pos,rfl,hw.at,λ h=>h1 h _ (hw.setPts (.stringIter s (pos + (Utf8.decode s pos).2))),h2⟩
def Zle (b:Nat) (w:World):Nat:=match w.heap[b]? with
 |some (.stringIter s pos)=>s.size - pos
 |_=>0
theorem Zij {b:Nat} {s:ByteArray} {pos:Nat} (hw:Sat R (pts b (.stringIter s pos)::Hs) w):Zle b w=s.size - pos:=by
 unfold Zle;rw [hw.at]
end
def ZjR (n:Nat):List Nat:=[n / 10000000 % 10,n / 1000000 % 10,n / 100000 % 10,n / 10000 % 10,n / 1000 % 10,n / 100 % 10,n / 10 % 10,n % 10]
def Zr9 (d:Nat):UInt8:=UInt8.ofNat (48 + d)
def ZnT (n:Nat):List UInt8:=[119,97,108,45]++(ZjR n).map Zr9
def Za (n:Nat):ByteArray:=⟨(ZnT n).toArray⟩
def Zh:ByteArray:=ByteArray.mk #[119,97,108,46,110,101,119]
def Zfk (l:List Int):Int:=l.foldl (λ n c=>n * 10 + (c - 48)) 0
def Zeb (l:List Int):Nat:=
 if l.take 4=[119,97,108,45]/\l.length=12/\(l.drop 4).all (λ c=>decide (48<=c) && decide (c<=57))=true then (Zfk (l.drop 4)).toNat else 0
def ZN (names:List ByteArray):List Nat:=(names.map λ k=>Zeb (bytesL k)).filter λ n=>decide (0<n)
theorem ZhH (n:Nat):∀ d∈ZjR n,d<10:=λ d hd=>by
 simp only [ZjR,List.mem_cons,List.not_mem_nil,or_false] at hd;omega
theorem Zm3 {d:Nat} (h:d<10):((Zr9 d).toNat:Int)=48 + d:=by
 unfold Zr9;have:(UInt8.ofNat (48 + d)).toNat=48 + d:=by
  rw [UInt8.toNat_ofNat'];omega
 rw [this];omega
theorem ZdR (n:Nat):bytesL (Za n)=[119,97,108,45]++(ZjR n).map λ d:Nat=>48 + (d:Int):=by
 unfold bytesL Za ZnT;simp only [List.map_append,List.map_map]
 congr 1
 refine List.map_congr_left λ d hd=>?_;exact Zm3 (ZhH n d hd)
theorem Zc0 (n:Nat):(Za n).size=12:=rfl
theorem ZrC {n:Nat} (h:n<100000000):Zfk ((ZjR n).map λ d:Nat=>48 + (d:Int))=n:=by
 unfold Zfk ZjR;simp only [List.map_cons,List.map_nil,List.foldl_cons,List.foldl_nil];omega
theorem ZgI {n:Nat} (h:n<100000000):Zeb (bytesL (Za n))=n:=by
 rw [ZdR];unfold Zeb;have hd:([119,97,108,45]++(ZjR n).map λ d:Nat=>48 + (d:Int)).drop 4=(ZjR n).map λ d:Nat=>48 + (d:Int):=rfl;rw [if_pos]
 ·rw [hd,ZrC h];omega
 ·refine ⟨rfl,rfl,?_⟩
  rw [hd,List.all_eq_true];intro x hx;obtain ⟨d,hm,rfl⟩:=List.mem_map.1 hx;have:=ZhH n d hm;simp;omega
theorem ZlD:Zeb (bytesL Zh)=0:=by decide +kernel
theorem ZO (n:Nat):Za n≠Zh:=λ h=>by
 have:=congrArg ByteArray.size h;rw [Zc0] at this
 revert this;decide
theorem ZdN {n m:Nat} (hn:n<100000000) (hm:m<100000000) (h:Za n=Za m):n=m:=by
 rw [<-ZgI hn,<-ZgI hm,h]
theorem ZsI:∀ {a b:List Nat},a.length=b.length->(∀ d∈a,d<10)->(∀ d∈b,d<10)->a.foldl (λ n d=>n * 10 + d) 0<b.foldl (λ n d=>n * 10 + d) 0->a.map Zr9<b.map Zr9:=by
 have key:∀ (l:List Nat) (n:Nat),(∀ d∈l,d<10)->l.foldl (λ n d=>n * 10 + d) n=n * 10 ^ l.length + l.foldl (λ n d=>n * 10 + d) 0/\l.foldl (λ n d=>n * 10 + d) 0<10 ^ l.length:=λ l=>by
  induction l with
  |nil=>intro n _;simp
  |cons x l ih=>
   intro n h;have hl:=λ d hd=>h d (List.mem_cons_of_mem _ hd);have hx:=h x (List.mem_cons_self ..);simp only [List.foldl_cons,Nat.zero_mul,Nat.zero_add,List.length_cons];obtain ⟨h1,h2⟩:=ih (n * 10 + x) hl;obtain ⟨h3,_⟩:=ih x hl;rw [h1,h3,Nat.pow_succ];have hm:x * 10 ^ l.length<=9 * 10 ^ l.length:=Nat.mul_le_mul_right _ (by omega);constructor
   ·rw [Nat.add_mul,Nat.mul_assoc,Nat.mul_comm 10 (10 ^ l.length)];omega
   ·omega
 intro a
 induction a with
 |nil=>intro b hl _ _ h;cases b with
  |nil=>simp at h
  |cons=>simp at hl
 |cons x a ih=>
  intro b hl ha hb h;cases b with
  |nil=>simp at hl
  |cons y b=>
   have hla:=λ d hd=>ha d (List.mem_cons_of_mem _ hd);have hlb:=λ d hd=>hb d (List.mem_cons_of_mem _ hd);have hx:=ha x (List.mem_cons_self ..);have hy:=hb y (List.mem_cons_self ..);simp only [List.length_cons,Nat.add_right_cancel_iff] at hl;simp only [List.foldl_cons,Nat.zero_mul,Nat.zero_add] at h;obtain ⟨h1,h2⟩:=key a x hla;obtain ⟨h3,h4⟩:=key b y hlb;rw [h1,h3,hl] at h;rw [hl] at h2;have hU:∀ d,d<10->(Zr9 d).toNat=48 + d:=λ d hd=>by have:=Zm3 hd;omega
   rcases Nat.lt_trichotomy x y with hxy|rfl|hxy
   ·refine List.cons_lt_cons_iff.2 (.inl ?_)
    rw [UInt8.lt_iff_toNat_lt,hU x hx,hU y hy];omega
   ·exact List.cons_lt_cons_iff.2 (.inr ⟨rfl,ih hl hla hlb (by omega)⟩)
   ·exfalso
    have:(y + 1) * 10 ^ b.length<=x * 10 ^ b.length:=Nat.mul_le_mul_right _ hxy;rw [Nat.add_mul,Nat.one_mul] at this;omega
theorem Zm4 {n:Nat} (h:n<100000000):(ZjR n).foldl (λ n d=>n * 10 + d) 0=n:=by
 unfold ZjR;simp only [List.foldl_cons,List.foldl_nil];omega
theorem ZrW {n m:Nat} (hm:m<100000000) (h:n<m):(Za n).data.toList<(Za m).data.toList:=by
 show ZnT n<ZnT m;have:=ZsI (a:=ZjR n) (b:=ZjR m) rfl (ZhH n) (ZhH m) (by rw [Zm4 (by omega),Zm4 hm];exact h);unfold ZnT;simp only [List.cons_append,List.nil_append];exact List.cons_lt_cons_iff.2 (.inr ⟨rfl,List.cons_lt_cons_iff.2 (.inr ⟨rfl,List.cons_lt_cons_iff.2 (.inr ⟨rfl,List.cons_lt_cons_iff.2 (.inr ⟨rfl,this⟩)⟩)⟩)⟩)
theorem Zrl {l:List Nat} (h:∀ n∈l,1<=n/\n<100000000):ZN (l.map Za)=l:=by
 unfold ZN;rw [List.map_map];have e:l.map ((λ k=>Zeb (bytesL k)) ∘ Za)=l:=by
  conv=>rhs;rw [<-List.map_id l]
  exact List.map_congr_left λ n hn=>ZgI (h n hn).2
 rw [e];exact List.filter_eq_self.2 λ n hn=>by have:=h n hn;simp;omega
end Go.VC
namespace Go.Proofs.YtkfedbncmfnpnaaGreatDoor
section
open Go Go.VC Tryz
variable {R:Cx} {Hs Rest:List HP} {w:World}
instance memDec (k:ByteArray) (l:List ByteArray):Decidable (k∈l):=@List.instDecidableMemOfLawfulBEq ByteArray instBEqOfDecidableEq inferInstance k l
theorem Zob {s:Sl} {l:List ByteArray} {k:ByteArray} (hs:Ro R s (l.map Value.string)) (hw:Sat R Hs w):
  Zq prog 124 #[.slice s.a s.len s.cap,.string k] w λ v w'=>(∃ n:Int,v=.int .i64 n/\(k∈l↔0<=n))/\Sat R Hs w':=by
 have hlen:s.len=l.length:=by have:=hs.len;simpa using this
 have hbd:l.length<=9223372036854775807:=by have:=hs.bound;simpa using this
 apply ZtQ;refine ⟨λ t w=>∃ j:Nat,t=j/\j<=l.length/\k ∉ l.take j/\Sat R Hs w,λ t _=>l.length - t.toNat,⟨0,rfl,by omega,by simp,hw⟩,?_⟩;rintro _ _ w ⟨j,rfl,hj,hno,hw⟩;refine Br.d (λ h=>?_) (λ h=>?_)
 ·have hjl:j<l.length:=by omega
  have:=Ro.idxStr (S:=λ w'=>w'=w) hs (eqS hw) (k:=j) hjl (F:=λ t=>t=l[j]) rfl;obtain ⟨h0,h1,this⟩:=this.out;obtain ⟨a,ha,t,hat,rfl⟩:=this.out;refine Rng.mk h0 h1 (Zb.mk ha ⟨_,hat,?_⟩);rw [Zld];refine Br.d (λ h=>?_) (λ h=>?_)
  ·exact ⟨⟨j,rfl,⟨λ _=>by omega,λ _=>by rw [h];exact List.getElem_mem _⟩⟩,hw⟩
  ·rw [Zg (by omega) (by omega)]
   refine ⟨⟨j + 1,by omega,by omega,?_,hw⟩,by dsimp only;omega⟩;rw [List.take_succ_eq_append_getElem hjl,List.mem_append];rintro (h2|h2)
   ·exact hno h2
   ·simp at h2;exact h h2
 ·have:j=l.length:=by omega
  subst this;rw [List.take_length] at hno;exact ⟨⟨-1,rfl,⟨λ h=>absurd h hno,λ h=>by omega⟩⟩,hw⟩
theorem ZjH {s:Sl} {l:List ByteArray} {k:ByteArray} (hs:Ro R s (l.map Value.string)) (hw:Sat R Hs w):
  Zq prog 85 #[.slice s.a s.len s.cap,.string k] w λ v w'=>v=.bool (decide (k∈l))/\Sat R Hs w':=by
 apply Zu3;refine (Zob hs hw).use ?_;rintro _ w ⟨⟨n,rfl,hn⟩,hw⟩;refine ⟨n,rfl,?_,hw⟩
 congr 1
 rw [decide_eq_decide];exact hn.symm
def Byt (l:List Int):Prop:=∀ x∈l,0<=x/\x<256
def Zb9 (fs:Fs):Prop:=∀ e∈fs,Byt e.2.b
theorem Byt.app {a b:List Int} (ha:Byt a) (hb:Byt b):Byt (a++b):=λ x hx=>(List.mem_append.1 hx).elim (ha x) (hb x)
theorem Zml {k:ByteArray} {g:Fl->Fl}:∀ {l:Fs} {e},e∈ZdJ k g l->∃ e0∈l,e=e0\/e=(e0.1,g e0.2)
 |[],_,h=>by cases h
 |a::l,e,h=>by
  unfold ZdJ at h;split at h
  ·rcases List.mem_cons.1 h with rfl|h
   ·exact ⟨a,List.mem_cons_self ..,.inr rfl⟩
   ·exact ⟨e,List.mem_cons_of_mem _ h,.inl rfl⟩
  ·rcases List.mem_cons.1 h with rfl|h
   ·exact ⟨_,List.mem_cons_self ..,.inl rfl⟩
   ·obtain ⟨e0,h0,h1⟩:=Zml h
    exact ⟨e0,List.mem_cons_of_mem _ h0,h1⟩
theorem ZqC {k:ByteArray} {g:Fl->Fl} {fs:Fs} (h:Zb9 fs) (hg:∀ f,Byt f.b->Byt (g f).b):Zb9 (ZdJ k g fs):=λ e he=>by
 obtain ⟨e0,h0,rfl|rfl⟩:=Zml he
 ·exact h _ h0
 ·exact hg _ (h _ h0)
theorem ZqG {fs:Fs} (h:Zb9 fs) (k:ByteArray):Zb9 (ZaT k fs):=by
 unfold ZaT;split
 ·exact h
 ·intro e he
  rcases List.mem_append.1 he with he|he
  ·exact h e he
  ·simp at he;subst he;exact λ _ h=>by cases h
theorem Zey {st:DS} (h:Zb9 st.fs) (k:ByteArray) {xs:List Int} (hx:Byt xs):Zb9 (Zk st k xs).1.fs:=by
 have hc:=(Zbp st (Zm k)).1;unfold Zk doing;split
 ·show Zb9 (ZaE (chg st (Zm k)).1 k xs).1.fs
  unfold ZaE;split
  ·rw [hc];exact h
  ·simp only [Zk2]
   rw [hc];exact ZqC (ZqG h k) λ f hf=>hf.app hx
 ·rw [hc];exact h
theorem Zgj {st:DS} (h:Zb9 st.fs) (k:ByteArray):Zb9 (ZA st k).1.fs:=by
 have hc:=(Zbp st (Zm k)).1;unfold ZA doing;split
 ·unfold Zcv
  split
  ·simp only;rw [hc];exact ZqC h λ f hf=>hf
  ·rw [hc];exact h
 ·rw [hc];exact h
theorem ZqH {fs:Fs} (h:Zb9 fs) (k:ByteArray):Zb9 (Zaa k fs):=λ e he=>h e ((Zbd k fs).subset he)
theorem ZdE {st:DS} (h:Zb9 st.fs) (k:ByteArray):Zb9 (Zi st k).1.fs:=by
 have hc:=(Zbp st (Zm k)).1;unfold Zi doing;split
 ·unfold ZX
  split
  ·simp only;rw [hc];exact ZqH h k
  ·rw [hc];exact h
 ·rw [hc];exact h
theorem ZmT {β:Type} {k:ByteArray}:∀ {l:List (ByteArray × β)} {v:β},Zw k l=some v->∃ k',(k',v)∈l:=λ {l v} h=>by
 obtain ⟨a,b,rfl,_⟩:=ZI h;exact ⟨k,by simp⟩
theorem ZqE {st:DS} (h:Zb9 st.fs) (k kt:ByteArray):Zb9 (ZY st k kt).1.fs:=by
 have hc:=(Zbp st (Zm k && Zm kt)).1;unfold ZY doing;split
 ·unfold Zan
  split
  ·rename_i f hf
   split
   ·rw [hc];exact h
   ·simp only
    intro e he;rcases List.mem_append.1 he with he|he
    ·rw [hc] at he;exact ZqH (ZqH h kt) k e he
    ·simp at he;subst he
     obtain ⟨k',hm⟩:=ZmT hf;rw [hc] at hm;exact (h (k',f) hm:Byt f.b)
  ·rw [hc];exact h
 ·rw [hc];exact h
theorem ZhT {st:DS} (h:Zb9 st.fs) (k:ByteArray):Byt (ZC st k).1:=by
 unfold ZC;split
 ·exact λ _ h=>by cases h
 ·split
  ·exact λ _ h=>by cases h
  ·split
   ·exact λ _ h=>by cases h
   ·rename_i f hf
    obtain ⟨k',hm⟩:=ZmT hf;exact h _ hm
theorem ZgE:∀ (n:Nat) (bs:List Int),bs.length<=n->∀ x∈scan bs,x.length<=65536/\∀ y∈x,y∈bs:=λ n=>by
 induction n with
 |zero=>
  intro bs h x hx;cases hf:first bs with
  |none=>rw [Zbm hf] at hx;cases hx
  |some b=>have:=(ZcP hf).1;omega
 |succ n ih=>
  intro bs h x hx;cases hf:first bs with
  |none=>rw [Zbm hf] at hx;cases hx
  |some b=>
   obtain ⟨h1,h2,h3,_⟩:=ZcP hf;rw [Zdn hf] at hx;rcases List.mem_cons.1 hx with rfl|hx
   ·exact ⟨h2,λ y hy=>by rw [h3] at hy;exact List.mem_of_mem_drop (List.mem_of_mem_take hy)⟩
   ·obtain ⟨h4,h5⟩:=ih _ (by simp;omega) x hx
    exact ⟨h4,λ y hy=>List.mem_of_mem_drop (h5 y hy)⟩
theorem ZrG {st:DS} (ha:st.arm=-1) (hf:st.fail=-1) (ho:st.off=false):chg st true=(st,0):=by
 obtain ⟨room,fs,fail,arm,off⟩:=st;simp only at ha hf ho;subst ha hf ho;simp [chg,ZeS]
theorem Zmm {β:Type} (k:ByteArray) (g:β->β) (l:List (ByteArray × β)):(ZdJ k g l).length=l.length:=by
 have:=congrArg List.length (Za6 k g l);simpa using this
theorem ZjF {β:Type} (k:ByteArray) (l:List (ByteArray × β)):(Zaa k l).length<=l.length:=(Zbd k l).length_le
theorem ZfK {st:DS} {ok:Bool} {g:DS->DS × Int} {m:Nat} (h:∀ st,(g st).1.fs.length<=st.fs.length + m):(doing st ok g).1.fs.length<=st.fs.length + m:=by
 unfold doing;have:=(Zbp st ok).1;split
 ·have h2:=h (chg st ok).1;rw [this] at h2;exact h2
 ·rw [this];omega
theorem Zb7 (st:DS) (k:ByteArray) (xs:List Int):(Zk st k xs).1.fs.length<=st.fs.length + 1:=by
 refine ZfK λ st=>?_;unfold ZaE;split
 ·simp
 ·simp only [Zk2,Zmm]
  unfold ZaT;split<;>simp
theorem Zcu (st:DS) (k:ByteArray):(ZA st k).1.fs.length<=st.fs.length:=by
 refine ZfK (m:=0) λ st=>?_;unfold Zcv;split
 ·simp only [Zmm];simp
 ·simp
theorem ZbW (st:DS) (k:ByteArray):(Zi st k).1.fs.length<=st.fs.length:=by
 refine ZfK (m:=0) λ st=>?_;unfold ZX;split
 ·exact ZjF _ _
 ·simp
theorem Zir (st:DS) (k kt:ByteArray):(ZY st k kt).1.fs.length<=st.fs.length + 1:=by
 refine ZfK λ st=>?_;unfold Zan;split
 ·split
  ·simp
  ·have h1:=ZjF k (Zaa kt st.fs);have h2:=ZjF kt st.fs
   simp only [List.length_append,List.length_cons,List.length_nil];omega
 ·simp
theorem Zqq (st:DS) (keep:List Int):(ZaM st keep).fs.length=st.fs.length:=by
 have:=congrArg List.length (Za8 (Zr st.fs) keep st.fs);simpa [ZaM] using this
theorem Zb4 {β:Type} {k k2:ByteArray} {g:β->β} (hne:k2≠k):∀ {l:List (ByteArray × β)},Zw k2 (ZdJ k g l)=Zw k2 l
 |[]=>rfl
 |e::l=>by
  simp only [ZdJ];by_cases h:k=e.1
  ·rw [if_pos (by rw [<-h];exact Zbg k)]
   simp only [Zw];rw [if_neg (by rw [<-h,Zl8 hne];simp),if_neg (by rw [<-h,Zl8 hne];simp)]
  ·rw [if_neg (by rw [Zl8 h];simp)]
   simp only [Zw];rw [Zb4 hne]
theorem ZfH {β:Type} {k:ByteArray} {v:β}:∀ {a b:List (ByteArray × β)},Zw k a=some v->Zw k (a++b)=some v
 |[],_,h=>by cases h
 |e::a,b,h=>by
  simp only [Zw] at h;rw [List.cons_append];simp only [Zw];split at h
  ·rename_i hk;rw [if_pos hk];exact h
  ·rename_i hk;rw [if_neg hk];exact ZfH h
theorem ZbL {β:Type} {k:ByteArray}:∀ {a b:List (ByteArray × β)},Zw k a=none->Zw k (a++b)=Zw k b
 |[],_,_=>rfl
 |e::a,b,h=>by
  simp only [Zw] at h;split at h
  ·cases h
  ·rename_i hk
   rw [List.cons_append];simp only [Zw];rw [if_neg hk];exact ZbL h
theorem ZlS {β:Type} {k k2:ByteArray} {v:β} (hne:k2≠k):Zw k2 [(k,v)]=none:=by
 simp only [Zw];rw [if_neg (by rw [Zl8 hne];simp)]
theorem ZmS {β:Type} {k:ByteArray} {v:β}:Zw k [(k,v)]=some v:=by
 simp only [Zw];rw [if_pos (Zbg k)]
theorem Zgu {β:Type} {k k2:ByteArray} {v:β} {l:List (ByteArray × β)} (hne:k2≠k):Zw k2 (l++[(k,v)])=Zw k2 l:=by
 cases h:Zw k2 l with
 |none=>rw [ZbL h,ZlS hne]
 |some x=>exact ZfH h
theorem Zia {k k2:ByteArray} {fs:Fs} (hne:k2≠k):Zw k2 (ZaT k fs)=Zw k2 fs:=by
 unfold ZaT;split
 ·rfl
 ·exact Zgu hne
theorem ZcL {k:ByteArray} {fs:Fs}:k ∉ Zr fs↔Zw k fs=none:=by
 rw [Zet];exact ⟨Z2,ZQ⟩
theorem ZfL {st:DS} {ok:Bool} {g:DS->DS × Int} {k:ByteArray} (h:∀ st,Zw k (g st).1.fs=Zw k st.fs):Zw k (doing st ok g).1.fs=Zw k st.fs:=by
 unfold doing;split
 ·rw [h,(Zbp st ok).1]
 ·rw [(Zbp st ok).1]
theorem ZaY {st:DS} {k k2:ByteArray} {xs:List Int} (hne:k2≠k):Zw k2 (Zk st k xs).1.fs=Zw k2 st.fs:=by
 refine ZfL λ st=>?_;unfold ZaE;split
 ·rfl
 ·show Zw k2 (Zk2 k xs st.fs)=_
  unfold Zk2;rw [Zb4 hne,Zia hne]
theorem Zcb {st:DS} {k k2:ByteArray} (hne:k2≠k):Zw k2 (ZA st k).1.fs=Zw k2 st.fs:=by
 refine ZfL λ st=>?_;unfold Zcv;split
 ·exact Zb4 hne
 ·rfl
theorem ZaH {st:DS} {k k2:ByteArray} (hne:k2≠k):Zw k2 (Zi st k).1.fs=Zw k2 st.fs:=by
 refine ZfL λ st=>?_;unfold ZX;split
 ·exact ZaA hne
 ·rfl
theorem Zf2 {st:DS} {k kt k2:ByteArray} (h1:k2≠k) (h2:k2≠kt):Zw k2 (ZY st k kt).1.fs=Zw k2 st.fs:=by
 refine ZfL λ st=>?_;unfold Zan;split
 ·split
  ·rfl
  ·show Zw k2 (Zaa k (Zaa kt st.fs)++_)=_
   rw [Zgu h2,ZaA h1,ZaA h2]
 ·rfl
theorem Zc7 {st:DS} {ok:Bool} {g:DS->DS × Int} (h:(doing st ok g).2=0):(chg st ok).2=0/\doing st ok g=g (chg st ok).1:=by
 unfold doing at h ⊢;split
 ·rename_i h1;exact ⟨h1,rfl⟩
 ·rename_i h1;rw [if_neg h1] at h;exact absurd h h1
theorem ZhG {st:DS} {ok:Bool} {g:DS->DS × Int} (hg:∀ st,(g st).2≠0->(g st).1.fs=st.fs) (h:(doing st ok g).2≠0):(doing st ok g).1.fs=st.fs:=by
 unfold doing at h ⊢;split
 ·rename_i h1;rw [if_pos h1] at h;rw [hg _ h,(Zbp st ok).1]
 ·exact (Zbp st ok).1
theorem ZiZ {st:DS} {k:ByteArray} {xs:List Int} (h:(Zk st k xs).2≠0):(Zk st k xs).1.fs=st.fs:=by
 refine ZhG (λ st h=>?_) h;unfold ZaE at h ⊢;split
 ·rfl
 ·rename_i h1;rw [if_neg h1] at h;exact absurd rfl h
theorem Zms {st:DS} {k:ByteArray} (h:(ZA st k).2≠0):(ZA st k).1.fs=st.fs:=by
 refine ZhG (λ st h=>?_) h;unfold Zcv at h ⊢;split
 ·rename_i h1;rw [if_pos h1] at h;exact absurd rfl h
 ·rfl
theorem Znn {st:DS} {k:ByteArray} (h:(Zi st k).2≠0):(Zi st k).1.fs=st.fs:=by
 refine ZhG (λ st h=>?_) h;unfold ZX at h ⊢;split
 ·rename_i h1;rw [if_pos h1] at h;exact absurd rfl h
 ·rfl
theorem ZdF {st:DS} {k:ByteArray} {xs:List Int} (hk:Zw k st.fs=none) (h:(Zk st k xs).2=0):Zw k (Zk st k xs).1.fs=some ⟨xs,0⟩:=by
 obtain ⟨_,e⟩:=Zc7 h;have e:Zk st k xs=ZaE (chg st (Zm k)).1 k xs:=e;rw [e] at h ⊢;have hf:=(Zbp st (Zm k)).1;generalize (chg st (Zm k)).1=st' at *;unfold ZaE at h ⊢;split
 ·rename_i h1;rw [if_pos h1] at h;cases h
 ·show Zw k (Zk2 k xs st'.fs)=_
  have he:Zw k (ZaT k st'.fs)=some ⟨[],0⟩:=by
   unfold ZaT;rw [hf,hk];rw [if_neg (by simp)];rw [ZbL hk,ZmS]
  unfold Zk2;rw [ZdW he];rfl
theorem Zdl {st:DS} {k:ByteArray} {f:Fl} (hk:Zw k st.fs=some f) (h:(ZA st k).2=0):Zw k (ZA st k).1.fs=some ⟨f.b,f.b.length⟩:=by
 obtain ⟨_,e⟩:=Zc7 h;have e:ZA st k=Zcv k (chg st (Zm k)).1:=e;rw [e];have hf:=(Zbp st (Zm k)).1;generalize (chg st (Zm k)).1=st' at *;unfold Zcv;rw [hf,hk,if_pos (show (some f).isSome=true from rfl)]
 exact ZdW hk
structure Znh (st:DS):Prop where
 arm:st.arm=-1
 fail:st.fail=-1
 off:st.off=false
theorem ZeN {st:DS} (c:Znh st) {g:DS->DS × Int}:doing st true g=g st:=by
 unfold doing;rw [ZrG c.arm c.fail c.off];rfl
theorem ZhV {st:DS} (c:Znh st) {k:ByteArray} {xs:List Int} (hk:Zm k=true) (hr:total st.fs + xs.length<=st.room):(Zk st k xs).2=0/\Znh (Zk st k xs).1/\total (Zk st k xs).1.fs=total st.fs + xs.length/\(Zk st k xs).1.room=st.room:=by
 unfold Zk;rw [hk,ZeN c];unfold ZaE;rw [if_neg (by omega)];exact ⟨rfl,⟨c.arm,c.fail,c.off⟩,Zf4 k xs st.fs,rfl⟩
theorem Zj2 {st:DS} (c:Znh st) {k:ByteArray} {f:Fl} (hk:Zm k=true) (hf:Zw k st.fs=some f):(ZA st k).2=0/\Znh (ZA st k).1/\total (ZA st k).1.fs=total st.fs/\(ZA st k).1.room=st.room:=by
 unfold ZA;rw [hk,ZeN c];unfold Zcv;rw [hf,if_pos (show (some f).isSome=true from rfl)]
 exact ⟨rfl,⟨c.arm,c.fail,c.off⟩,ZcA (g:=λ f:Fl=>{ f with sure:=f.b.length }) (λ _=>rfl) _,rfl⟩
theorem Zlv {st:DS} (c:Znh st) (u:Uni st.fs) {k kt:ByteArray} {f:Fl} (hne:k≠kt) (hk:Zm k=true) (ht:Zm kt=true) (hf:Zw k st.fs=some f):(ZY st k kt).2=0/\Znh (ZY st k kt).1/\total (ZY st k kt).1.fs<=total st.fs/\(ZY st k kt).1.room=st.room:=by
 unfold ZY;rw [hk,ht,show (true && true)=true from rfl,ZeN c]
 unfold Zan;rw [hf];simp only;rw [if_neg hne];refine ⟨rfl,⟨c.arm,c.fail,c.off⟩,?_,rfl⟩;show total (Zaa k (Zaa kt st.fs)++[(kt,f)])<=total st.fs;rw [Zdj,ZD,ZcE];have h1:=Zfn (k:=k) (f:=f) (fs:=Zaa kt st.fs) (by rw [ZaA hne];exact hf);have h2:=ZeO kt st.fs;simp only;omega
theorem Zon (kp:Option Int) (b:List Int):ZcS kp ⟨b,b.length⟩=⟨b,b.length⟩:=by
 have:Zj4 kp ⟨b,b.length⟩=0:=by
  unfold Zj4;split
  ·rfl
  ·simp only;omega
 unfold ZcS;rw [this];simp
theorem Zgi {k:ByteArray} {b:List Int}:∀ (ks:List ByteArray) (keep:List Int) {fs:Fs},Zw k fs=some ⟨b,b.length⟩->Zw k (Zak ks keep fs)=some ⟨b,b.length⟩
 |[],_,_,h=>h
 |x::ks,keep,fs,h=>by
  rw [Zak];refine Zgi ks keep.tail ?_;by_cases hx:k=x
  ·subst hx
   rw [ZdW h,Zon]
  ·rw [Zb4 hx,h]
theorem Zou (st:DS) (keep:List Int):Znh (ZaM st keep):=⟨rfl,rfl,rfl⟩
theorem Zcd {st:DS} {k:ByteArray} {f:Fl} (ho:st.off=false) (hk:Zm k=true) (h:Zw k st.fs=some f):ZC st k=(f.b,0):=by
 unfold ZC;rw [ho,hk,h];rfl
end
section
open Go Go.VC Tryz
def Zj (st:DS):Ld:=Zaq (λ n=>(ZC st (Za n)).1) none ⟨0,[]⟩ [] (ZN (Zr st.fs))
structure Wl where
 g:Lg
 segs:List Sg
def Z3 (x:DS × Int) (f:DS->DS × Int):DS × Int:=if x.2=0 then f x.1 else x
def Zae (st:DS) (n:Nat) (next:Int):DS × Int:=Z3 (Zk st (Za n) (ZH n next)) λ st=>ZA st (Za n)
def ZcN (segs:List Sg) (n:Nat):Bool:=segs.any λ s=>decide (s.num=n)
def ZaS (st:DS) (segs:List Sg) (s:Sg):DS × Int:=
 if s.next=0\/ZcN segs s.num=false then Zi st (Za s.num)
 else if (ZC st (Za s.num)).2≠0 then (st,(ZC st (Za s.num)).2)
 else Z3 (Z3 (Zk st Zh ((ZC st (Za s.num)).1.take s.size.toNat)) λ st=>ZA st Zh) λ st=>ZY st Zh (Za s.num)
def ZaZ (segs:List Sg) (z:Int):List Sg:=match segs[segs.length - 1]? with|some s=>segs.set (segs.length - 1) ⟨s.num,s.next,z⟩|none=>segs
def Zc5 (segs:List Sg) (s:Sg):List Sg:=if s.next=0\/ZcN segs s.num=false then segs else ZaZ segs s.size
def ZF:DS->List Nat->DS × Int
 |st,[]=>(st,0)
 |st,n::ns=>Z3 (Zi st (Za n)) λ st=>ZF st ns
def recoverD (st:DS):DS × Int:=
 let ld:=Zj st
 Z3 (Z3 (Z3 (if Zh∈Zr st.fs then Zi st Zh else (st,0)) λ st=>match ld.amiss with|some s=>ZaS st ld.segs s|none=>(st,0))
  λ st=>ZF st ld.behind) λ st=>if ld.segs=[] then Zae st 1 1 else (st,0)
def Zz (st:DS):Wl:=
 let ld:=Zj st
 ⟨ld.g,if ld.segs=[] then [⟨1,1,(ZH 1 1).length⟩] else match ld.amiss with
  |some s=>Zc5 ld.segs s
  |none=>ld.segs⟩
def Zaz (st:DS) (limit:Int):Int:=if limit<32\/limit>65536 then 1 else if st.off then 5 else (recoverD st).2
def Zd9 (st:DS) (limit:Int):DS:=if limit<32\/limit>65536 then st else if st.off then st else (recoverD st).1
end
section
open Go Go.VC Tryz
theorem Z5 (n:Nat):Zm (Za n)=true:=by
 unfold Zm;rw [ZdR,Zc0];simp only [List.all_append,Bool.and_eq_true,decide_eq_true_eq,List.all_eq_true];refine ⟨by decide,by decide,λ x hx=>?_⟩;obtain ⟨d,hd,rfl⟩:=List.mem_map.1 hx;have:=ZhH n d hd;unfold Zk3;simp;omega
theorem Zdd:Zm Zh=true:=by decide +kernel
theorem Zb5 {β:Type} {k:ByteArray} {v:β}:∀ {l:List (ByteArray × β)},(l.map (·.1)).Nodup->(k,v)∈l->Zw k l=some v
 |[],_,h=>by cases h
 |e::l,u,h=>by
  unfold Zw;rw [List.map_cons,List.nodup_cons] at u;rcases List.mem_cons.1 h with rfl|h
  ·rw [if_pos (Zbg _)]
  ·rw [if_neg,Zb5 u.2 h]
   intro he;have hk:k=e.1:=(MapKept.bytes_beq _ _).1 he;exact u.1 (hk ▸ List.mem_map_of_mem (f:=(·.1)) h)
abbrev ZdO (f:Sc->Fl) (cs:List Sc):Fs:=cs.map λ c=>(Za c.num,f c)
theorem Zo1 {f:Sc->Fl} {cs:List Sc} (h:cs.Pairwise λ a b=>a.num<b.num) (hb:∀ c∈cs,c.num<100000000):Srt (ZdO f cs):=by
 unfold Srt ZdO;rw [List.pairwise_map];exact h.imp_of_mem λ ha hb' hab=>ZrW (hb _ hb') hab
theorem Zfr {f:Sc->Fl} {cs:List Sc} (h:cs.Pairwise λ a b=>a.num<b.num) (hb:∀ c∈cs,c.num<100000000):Uni (ZdO f cs):=by
 unfold Uni ZdO;rw [List.map_map];unfold List.Nodup;rw [List.pairwise_map];exact h.imp_of_mem λ ha hb' hab he=>by have:=ZdN (hb _ ha) (hb _ hb') he;omega
theorem Zg6 {st:DS} {f:Sc->Fl} {cs:List Sc} (hp:st.fs.Perm (ZdO f cs)) (h:cs.Pairwise λ a b=>a.num<b.num) (hb:∀ c∈cs,c.num<100000000):Zr st.fs=(cs.map (·.num)).map Za:=by
 rw [Zhq hp (Zo1 h hb)];simp
theorem ZmA {st:DS} {f:Sc->Fl} {cs:List Sc} (hp:st.fs.Perm (ZdO f cs)) (h:cs.Pairwise λ a b=>a.num<b.num) (hb:∀ c∈cs,1<=c.num/\c.num<100000000):ZN (Zr st.fs)=cs.map (·.num):=by
 rw [Zg6 hp h λ c hc=>(hb c hc).2];refine Zrl λ n hn=>?_;obtain ⟨c,hc,rfl⟩:=List.mem_map.1 hn;exact hb c hc
theorem Zjd {st:DS} {f:Sc->Fl} {cs:List Sc} (hp:st.fs.Perm (ZdO f cs)) (h:cs.Pairwise λ a b=>a.num<b.num) (hb:∀ c∈cs,c.num<100000000):Zh ∉ Zr st.fs:=by
 rw [Zg6 hp h hb];intro hm;obtain ⟨n,_,hn⟩:=List.mem_map.1 hm;exact ZO n hn
theorem Zsu {st:DS} {f:Sc->Fl} {cs:List Sc} (hp:st.fs.Perm (ZdO f cs)) (h:cs.Pairwise λ a b=>a.num<b.num) (hb:∀ c∈cs,c.num<100000000) {c:Sc} (hc:c∈cs):Zw (Za c.num) st.fs=some (f c):=by
 have u:=Zfr (f:=f) h hb;rw [ZkI hp (Zcs hp.symm u)];exact Zb5 u (List.mem_map_of_mem (f:=λ c=>(Za c.num,f c)) hc)
theorem Zq7 {st:DS} {f:Sc->Fl} {cs:List Sc} (hoff:st.off=false) (hp:st.fs.Perm (ZdO f cs)) (h:cs.Pairwise λ a b=>a.num<b.num) (hb:∀ c∈cs,c.num<100000000) {c:Sc} (hc:c∈cs):ZC st (Za c.num)=((f c).b,0):=
 Zcd hoff (Z5 _) (Zsu hp h hb hc)
theorem ZbO {cs:List Sc} {p:Option Nat} {g g2:Lg} (hc:Z8 p g cs g2):∀ c∈cs,1<=c.num/\c.num<100000000:=λ c h=>by
 have:=hc.ok c h;exact ⟨this.n0,by have:=this.n1;omega⟩
theorem Zn8 {st:DS} {f:Sc->Fl} {cs:List Sc} {g:Lg} (hoff:st.off=false) (hp:st.fs.Perm (ZdO f cs)) (hf:∀ c∈cs,(f c).b=c.bytes) (hc:Z8 none ⟨0,[]⟩ cs g):Zj st=⟨g,cs.map Sc.sg,none,[]⟩:=by
 have hpw:=hc.nums.2;have hb:=ZbO hc;unfold Zj;rw [ZmA hp hpw hb];have:=Zga (rd:=λ n=>(ZC st (Za n)).1) (segs:=[]) (rest:=[]) hc λ c h=>by
  rw [Zq7 hoff hp hpw (λ c h=>(hb c h).2) h];exact hf c h
 rw [List.append_nil] at this;rw [this];unfold Zaq;simp
end
end Go.Proofs.YtkfedbncmfnpnaaGreatDoor
namespace Go.Proofs
section
open Go.Shelf
def Tryz.lays103_ren:Go.Shelf.Ren:=⟨λ|103=>150|210=>184|206=>181|n=>n,λ|9=>9|4=>4|24=>170|3=>3|n=>n,λ|n=>n⟩
theorem Tryz.lays103:Go.Proofs.Lays.n103 Tryz.prog Tryz.lays103_ren:={
  mixed:=by kernel_rfl
  f103:=Tryz.func150.trans (congrArg some (by kernel_rfl))
  f206:=Tryz.func181.trans (congrArg some (by kernel_rfl))
  f210:=Tryz.func184.trans (congrArg some (by kernel_rfl))
  t3:=Tryz.underlying3
  a3:=Tryz.isAgg3
  z3:=Tryz.sizeOf3
  v3:=Tryz.zeroValue3
  t4:=Tryz.underlying4
  a4:=Tryz.isAgg4
  z4:=Tryz.sizeOf4
  v4:=Tryz.zeroValue4
  t9:=Tryz.underlying9
  a9:=Tryz.isAgg9
  z9:=Tryz.sizeOf9
  v9:=Tryz.zeroValue9
  t24:=Tryz.underlying170
  a24:=Tryz.isAgg170
  z24:=Tryz.sizeOf170
  v24:=Tryz.zeroValue170 }
open Go.RowKit in
theorem Tryz.strings_CutPrefix (s p:ByteArray) (w:World):
    Calls Tryz.prog 150 #[.string s,.string p] w λ e w'=>e=.returned (.tuple #[.string ⟨(Lib.trimPrefix s.data.toList p.data.toList).toArray⟩,.bool (Lib.hasPrefix s.data.toList p.data.toList)])/\w'=w:=Any.strings_CutPrefix Tryz.lays103 s p w
def Tryz.lays172_ren:Go.Shelf.Ren:=⟨λ|172=>153|244=>186|245=>187|247=>216|279=>217|280=>218|281=>219|282=>220|287=>238|316=>239|171=>105|205=>240|321=>244|322=>245|243=>143|246=>178|283=>209|284=>210|285=>211|286=>212|129=>165|317=>234|318=>235|319=>236|320=>237|337=>242|338=>243|n=>n,λ|9=>9|3=>3|75=>167|76=>168|4=>4|5=>5|167=>231|37=>53|0=>0|85=>232|2=>2|168=>234|53=>148|175=>253|46=>159|210=>257|127=>201|145=>267|143=>265|21=>21|171=>224|173=>226|212=>250|51=>182|20=>20|213=>251|232=>268|233=>269|80=>98|n=>n,λ|15=>2|16=>3|17=>0|18=>4|19=>5|n=>n⟩
theorem Tryz.lays172:Go.Proofs.Lays.n172 Tryz.prog Tryz.lays172_ren:={
  mixed:=by kernel_rfl
  f129:=Tryz.func165.trans (congrArg some (by kernel_rfl))
  f171:=Tryz.func105.trans (congrArg some (by kernel_rfl))
  f172:=Tryz.func153.trans (congrArg some (by kernel_rfl))
  f205:=Tryz.func240.trans (congrArg some (by kernel_rfl))
  f243:=Tryz.func143.trans (congrArg some (by kernel_rfl))
  f244:=Tryz.func186.trans (congrArg some (by kernel_rfl))
  f245:=Tryz.func187.trans (congrArg some (by kernel_rfl))
  f246:=Tryz.func178.trans (congrArg some (by kernel_rfl))
  f247:=Tryz.func216.trans (congrArg some (by kernel_rfl))
  f279:=Tryz.func217.trans (congrArg some (by kernel_rfl))
  f280:=Tryz.func218.trans (congrArg some (by kernel_rfl))
  f281:=Tryz.func219.trans (congrArg some (by kernel_rfl))
  f282:=Tryz.func220.trans (congrArg some (by kernel_rfl))
  f283:=Tryz.func209.trans (congrArg some (by kernel_rfl))
  f284:=Tryz.func210.trans (congrArg some (by kernel_rfl))
  f285:=Tryz.func211.trans (congrArg some (by kernel_rfl))
  f286:=Tryz.func212.trans (congrArg some (by kernel_rfl))
  f287:=Tryz.func238.trans (congrArg some (by kernel_rfl))
  f316:=Tryz.func239.trans (congrArg some (by kernel_rfl))
  f317:=Tryz.func234.trans (congrArg some (by kernel_rfl))
  f318:=Tryz.func235.trans (congrArg some (by kernel_rfl))
  f319:=Tryz.func236.trans (congrArg some (by kernel_rfl))
  f320:=Tryz.func237.trans (congrArg some (by kernel_rfl))
  f321:=Tryz.func244.trans (congrArg some (by kernel_rfl))
  f322:=Tryz.func245.trans (congrArg some (by kernel_rfl))
  f337:=Tryz.func242.trans (congrArg some (by kernel_rfl))
  f338:=Tryz.func243.trans (congrArg some (by kernel_rfl))
  t0:=Tryz.underlying0
  a0:=Tryz.isAgg0
  z0:=Tryz.sizeOf0
  v0:=Tryz.zeroValue0
  t2:=Tryz.underlying2
  a2:=Tryz.isAgg2
  z2:=Tryz.sizeOf2
  v2:=Tryz.zeroValue2
  t3:=Tryz.underlying3
  a3:=Tryz.isAgg3
  z3:=Tryz.sizeOf3
  v3:=Tryz.zeroValue3
  t4:=Tryz.underlying4
  a4:=Tryz.isAgg4
  z4:=Tryz.sizeOf4
  v4:=Tryz.zeroValue4
  t5:=Tryz.underlying5
  a5:=Tryz.isAgg5
  z5:=Tryz.sizeOf5
  v5:=Tryz.zeroValue5
  t9:=Tryz.underlying9
  a9:=Tryz.isAgg9
  z9:=Tryz.sizeOf9
  v9:=Tryz.zeroValue9
  t20:=Tryz.underlying20
  a20:=Tryz.isAgg20
  z20:=Tryz.sizeOf20
  v20:=Tryz.zeroValue20
  t21:=Tryz.underlying21
  a21:=Tryz.isAgg21
  z21:=Tryz.sizeOf21
  v21:=Tryz.zeroValue21
  t37:=Tryz.underlying53
  a37:=Tryz.isAgg53
  z37:=Tryz.sizeOf53
  v37:=Tryz.zeroValue53
  t46:=Tryz.underlying159
  a46:=Tryz.isAgg159
  z46:=Tryz.sizeOf159
  v46:=Tryz.zeroValue159
  t51:=Tryz.underlying182
  a51:=Tryz.isAgg182
  z51:=Tryz.sizeOf182
  v51:=Tryz.zeroValue182
  t53:=Tryz.underlying148
  a53:=Tryz.isAgg148
  z53:=Tryz.sizeOf148
  v53:=Tryz.zeroValue148
  t75:=Tryz.underlying167
  a75:=Tryz.isAgg167
  z75:=Tryz.sizeOf167
  v75:=Tryz.zeroValue167
  t76:=Tryz.underlying168
  a76:=Tryz.isAgg168
  z76:=Tryz.sizeOf168
  v76:=Tryz.zeroValue168
  t85:=Tryz.underlying232
  a85:=Tryz.isAgg232
  z85:=Tryz.sizeOf232
  v85:=Tryz.zeroValue232
  t127:=Tryz.underlying201
  a127:=Tryz.isAgg201
  z127:=Tryz.sizeOf201
  v127:=Tryz.zeroValue201
  t143:=Tryz.underlying265
  a143:=Tryz.isAgg265
  z143:=Tryz.sizeOf265
  v143:=Tryz.zeroValue265
  t145:=Tryz.underlying267
  a145:=Tryz.isAgg267
  z145:=Tryz.sizeOf267
  v145:=Tryz.zeroValue267
  t167:=Tryz.underlying231
  a167:=Tryz.isAgg231
  z167:=Tryz.sizeOf231
  v167:=Tryz.zeroValue231
  t168:=Tryz.underlying234
  a168:=Tryz.isAgg234
  z168:=Tryz.sizeOf234
  v168:=Tryz.zeroValue234
  t171:=Tryz.underlying224
  a171:=Tryz.isAgg224
  z171:=Tryz.sizeOf224
  v171:=Tryz.zeroValue224
  t173:=Tryz.underlying226
  a173:=Tryz.isAgg226
  z173:=Tryz.sizeOf226
  v173:=Tryz.zeroValue226
  t175:=Tryz.underlying253
  a175:=Tryz.isAgg253
  z175:=Tryz.sizeOf253
  v175:=Tryz.zeroValue253
  t210:=Tryz.underlying257
  a210:=Tryz.isAgg257
  z210:=Tryz.sizeOf257
  v210:=Tryz.zeroValue257
  t212:=Tryz.underlying250
  a212:=Tryz.isAgg250
  z212:=Tryz.sizeOf250
  v212:=Tryz.zeroValue250
  t213:=Tryz.underlying251
  a213:=Tryz.isAgg251
  z213:=Tryz.sizeOf251
  t232:=Tryz.underlying268
  a232:=Tryz.isAgg268
  z232:=Tryz.sizeOf268
  v232:=Tryz.zeroValue268
  t233:=Tryz.underlying269
  a233:=Tryz.isAgg269
  z233:=Tryz.sizeOf269
  v233:=Tryz.zeroValue269
  g15:=by kernel_rfl
  g16:=by kernel_rfl
  g17:=by kernel_rfl
  g18:=by kernel_rfl
  g19:=by kernel_rfl }
open Go.RowKit in
theorem Tryz.strconv_Atoi (s:ByteArray) (n:Int) (hl:s.size<=18) (h:Lib.atoi s.data.toList=some n) (w:World):
    Calls Tryz.prog 153 #[.string s] w λ e w'=>e=.returned (.tuple #[.int .i64 n,.nilIface])/\∃ t,w'=Lib.bytesWorld w 5 t:=Any.strconv_Atoi Tryz.lays172 s n hl h w
def Tryz.laysM171_ren:Go.Shelf.Ren:=⟨λ|171=>105|243=>143|246=>178|283=>209|284=>210|285=>211|286=>212|129=>165|317=>234|318=>235|319=>236|320=>237|337=>242|338=>243|n=>n,λ|3=>3|9=>9|2=>2|4=>4|171=>224|0=>0|53=>148|37=>53|5=>5|173=>226|212=>250|51=>182|20=>20|213=>251|46=>159|232=>268|233=>269|n=>n,λ|17=>0|18=>4|19=>5|n=>n⟩
theorem Tryz.laysM171:Go.Proofs.LaysM.n171 Tryz.prog Tryz.laysM171_ren:={
  mixed:=by kernel_rfl
  f129:=Tryz.func165.trans (congrArg some (by kernel_rfl))
  f171:=Tryz.func105.trans (congrArg some (by kernel_rfl))
  f243:=Tryz.func143.trans (congrArg some (by kernel_rfl))
  f246:=Tryz.func178.trans (congrArg some (by kernel_rfl))
  f283:=Tryz.func209.trans (congrArg some (by kernel_rfl))
  f284:=Tryz.func210.trans (congrArg some (by kernel_rfl))
  f285:=Tryz.func211.trans (congrArg some (by kernel_rfl))
  f286:=Tryz.func212.trans (congrArg some (by kernel_rfl))
  f317:=Tryz.func234.trans (congrArg some (by kernel_rfl))
  f318:=Tryz.func235.trans (congrArg some (by kernel_rfl))
  f319:=Tryz.func236.trans (congrArg some (by kernel_rfl))
  f320:=Tryz.func237.trans (congrArg some (by kernel_rfl))
  f337:=Tryz.func242.trans (congrArg some (by kernel_rfl))
  f338:=Tryz.func243.trans (congrArg some (by kernel_rfl))
  t0:=Tryz.underlying0
  a0:=Tryz.isAgg0
  z0:=Tryz.sizeOf0
  v0:=Tryz.zeroValue0
  t2:=Tryz.underlying2
  a2:=Tryz.isAgg2
  z2:=Tryz.sizeOf2
  v2:=Tryz.zeroValue2
  t3:=Tryz.underlying3
  a3:=Tryz.isAgg3
  z3:=Tryz.sizeOf3
  v3:=Tryz.zeroValue3
  t4:=Tryz.underlying4
  a4:=Tryz.isAgg4
  z4:=Tryz.sizeOf4
  v4:=Tryz.zeroValue4
  t5:=Tryz.underlying5
  a5:=Tryz.isAgg5
  z5:=Tryz.sizeOf5
  v5:=Tryz.zeroValue5
  t9:=Tryz.underlying9
  a9:=Tryz.isAgg9
  z9:=Tryz.sizeOf9
  v9:=Tryz.zeroValue9
  t20:=Tryz.underlying20
  a20:=Tryz.isAgg20
  z20:=Tryz.sizeOf20
  v20:=Tryz.zeroValue20
  t37:=Tryz.underlying53
  a37:=Tryz.isAgg53
  z37:=Tryz.sizeOf53
  v37:=Tryz.zeroValue53
  t46:=Tryz.underlying159
  a46:=Tryz.isAgg159
  z46:=Tryz.sizeOf159
  v46:=Tryz.zeroValue159
  t51:=Tryz.underlying182
  a51:=Tryz.isAgg182
  z51:=Tryz.sizeOf182
  v51:=Tryz.zeroValue182
  t53:=Tryz.underlying148
  a53:=Tryz.isAgg148
  z53:=Tryz.sizeOf148
  v53:=Tryz.zeroValue148
  t171:=Tryz.underlying224
  a171:=Tryz.isAgg224
  z171:=Tryz.sizeOf224
  v171:=Tryz.zeroValue224
  t173:=Tryz.underlying226
  a173:=Tryz.isAgg226
  z173:=Tryz.sizeOf226
  v173:=Tryz.zeroValue226
  t212:=Tryz.underlying250
  a212:=Tryz.isAgg250
  z212:=Tryz.sizeOf250
  v212:=Tryz.zeroValue250
  t213:=Tryz.underlying251
  a213:=Tryz.isAgg251
  z213:=Tryz.sizeOf251
  t232:=Tryz.underlying268
  a232:=Tryz.isAgg268
  z232:=Tryz.sizeOf268
  v232:=Tryz.zeroValue268
  t233:=Tryz.underlying269
  a233:=Tryz.isAgg269
  z233:=Tryz.sizeOf269
  v233:=Tryz.zeroValue269
  g17:=by kernel_rfl
  g18:=by kernel_rfl
  g19:=by kernel_rfl
  i0:=by kernel_rfl
  i2:=by kernel_rfl
  i3:=by kernel_rfl
  i4:=by kernel_rfl
  i5:=by kernel_rfl
  i9:=by kernel_rfl
  i20:=by kernel_rfl
  i37:=by kernel_rfl
  i46:=by kernel_rfl
  i51:=by kernel_rfl
  i53:=by kernel_rfl
  i171:=by kernel_rfl
  i173:=by kernel_rfl
  i212:=by kernel_rfl
  i232:=by kernel_rfl
  i233:=by kernel_rfl
  m17:=by kernel_rfl
  m18:=by kernel_rfl
  m19:=by kernel_rfl }
open Go.RowKit Go.Sort Go.Lib in
theorem Tryz.strconv_Itoa (n : Int) (h0 : -9223372036854775808 ≤ n) (h1 : n ≤ 9223372036854775807) (w : World) (htab : Lib.TabIs Tryz.prog w "internal/strconv.uint64pow10" .u64 Lib.pow10Tab) :
    Calls Tryz.prog 105 #[.int .i64 n] w λ e w'=>e=.returned (.string ⟨(Lib.itoa n).toArray⟩)/\∃ k os,w'=grow (w.drewN k) os:=Any.strconv_Itoa Tryz.laysM171 n h0 h1 w htab
def Tryz.lays105_ren:Go.Shelf.Ren:=⟨λ|105=>106|212=>144|99=>145|165=>146|166=>147|170=>148|169=>149|263=>179|264=>180|206=>181|240=>182|241=>183|276=>213|277=>214|n=>n,λ|9=>9|3=>3|4=>4|20=>20|0=>0|46=>159|109=>160|5=>5|72=>165|76=>168|51=>182|146=>197|53=>148|148=>199|70=>163|37=>53|75=>167|127=>201|164=>228|80=>98|n=>n,λ|n=>n⟩
theorem Tryz.lays105:Go.Proofs.Lays.n105 Tryz.prog Tryz.lays105_ren:={
  mixed:=by kernel_rfl
  f99:=Tryz.func145.trans (congrArg some (by kernel_rfl))
  f105:=Tryz.func106.trans (congrArg some (by kernel_rfl))
  f165:=Tryz.func146.trans (congrArg some (by kernel_rfl))
  f166:=Tryz.func147.trans (congrArg some (by kernel_rfl))
  f169:=Tryz.func149.trans (congrArg some (by kernel_rfl))
  f170:=Tryz.func148.trans (congrArg some (by kernel_rfl))
  f206:=Tryz.func181.trans (congrArg some (by kernel_rfl))
  f212:=Tryz.func144.trans (congrArg some (by kernel_rfl))
  f240:=Tryz.func182.trans (congrArg some (by kernel_rfl))
  f241:=Tryz.func183.trans (congrArg some (by kernel_rfl))
  f263:=Tryz.func179.trans (congrArg some (by kernel_rfl))
  f264:=Tryz.func180.trans (congrArg some (by kernel_rfl))
  f276:=Tryz.func213.trans (congrArg some (by kernel_rfl))
  f277:=Tryz.func214.trans (congrArg some (by kernel_rfl))
  t0:=Tryz.underlying0
  a0:=Tryz.isAgg0
  z0:=Tryz.sizeOf0
  v0:=Tryz.zeroValue0
  t3:=Tryz.underlying3
  a3:=Tryz.isAgg3
  z3:=Tryz.sizeOf3
  v3:=Tryz.zeroValue3
  t4:=Tryz.underlying4
  a4:=Tryz.isAgg4
  z4:=Tryz.sizeOf4
  v4:=Tryz.zeroValue4
  t5:=Tryz.underlying5
  a5:=Tryz.isAgg5
  z5:=Tryz.sizeOf5
  v5:=Tryz.zeroValue5
  t9:=Tryz.underlying9
  a9:=Tryz.isAgg9
  z9:=Tryz.sizeOf9
  v9:=Tryz.zeroValue9
  t20:=Tryz.underlying20
  a20:=Tryz.isAgg20
  z20:=Tryz.sizeOf20
  v20:=Tryz.zeroValue20
  t37:=Tryz.underlying53
  a37:=Tryz.isAgg53
  z37:=Tryz.sizeOf53
  v37:=Tryz.zeroValue53
  t46:=Tryz.underlying159
  a46:=Tryz.isAgg159
  z46:=Tryz.sizeOf159
  v46:=Tryz.zeroValue159
  t51:=Tryz.underlying182
  a51:=Tryz.isAgg182
  z51:=Tryz.sizeOf182
  v51:=Tryz.zeroValue182
  t53:=Tryz.underlying148
  a53:=Tryz.isAgg148
  z53:=Tryz.sizeOf148
  v53:=Tryz.zeroValue148
  t70:=Tryz.underlying163
  a70:=Tryz.isAgg163
  z70:=Tryz.sizeOf163
  v70:=Tryz.zeroValue163
  t72:=Tryz.underlying165
  a72:=Tryz.isAgg165
  z72:=Tryz.sizeOf165
  v72:=Tryz.zeroValue165
  t75:=Tryz.underlying167
  a75:=Tryz.isAgg167
  z75:=Tryz.sizeOf167
  v75:=Tryz.zeroValue167
  t76:=Tryz.underlying168
  a76:=Tryz.isAgg168
  z76:=Tryz.sizeOf168
  v76:=Tryz.zeroValue168
  t109:=Tryz.underlying160
  a109:=Tryz.isAgg160
  z109:=Tryz.sizeOf160
  v109:=Tryz.zeroValue160
  t127:=Tryz.underlying201
  a127:=Tryz.isAgg201
  z127:=Tryz.sizeOf201
  v127:=Tryz.zeroValue201
  t146:=Tryz.underlying197
  a146:=Tryz.isAgg197
  z146:=Tryz.sizeOf197
  v146:=Tryz.zeroValue197
  t148:=Tryz.underlying199
  a148:=Tryz.isAgg199
  z148:=Tryz.sizeOf199
  v148:=Tryz.zeroValue199
  t164:=Tryz.underlying228
  a164:=Tryz.isAgg228
  z164:=Tryz.sizeOf228
  v164:=Tryz.zeroValue228 }
theorem Tryz.Builder_Extra_105:Builder.Extra Tryz.prog Tryz.lays105_ren:={
  sizeBuilder:=by kernel_rfl
  liesBuilder:=by kernel_rfl
  t5:=Tryz.underlying5
  a5:=Tryz.isAgg5
  z5:=Tryz.sizeOf5
  v5:=Tryz.zeroValue5
  infoByte:=by kernel_rfl
  cellsByte:=by kernel_rfl
  sizeByte:=by kernel_rfl
  neB5:=by decide }
open Go.RowKit Go.Lib in
theorem Tryz.strings_Repeat (s:ByteArray) (c:Nat) (w:World) (hc:c<=9223372036854775807) (hlen:s.size * c<=140737488355328):
    Calls Tryz.prog 106 #[.string s,.int .i64 c] w λ e w'=>e=.returned (.string ⟨(Lib.repeatL s.data.toList c).toArray⟩)/\Below w.heap.size w w':=Any.strings_Repeat Tryz.lays105 Tryz.Builder_Extra_105 s c w hc hlen
end
end Go.Proofs
namespace Go.VC
section
open Go
def Zr3:Nat->Nat->List UInt8
 |0,_=>[]
 |k + 1,n=>Zr3 k (n / 10)++[Zr9 (n % 10)]
theorem Zkq:∀ k,Zr3 k 0=Lib.repeatL [48] k
 |0=>rfl
 |k + 1=>by
  unfold Zr3;rw [Nat.zero_div,Zkq k];have:Lib.repeatL [48] (k + 1)=Lib.repeatL [48] k++Lib.repeatL [48] 1:=Lib.repeatL_add _ _ _;rw [this];rfl
theorem Zpq:∀ (k n:Nat),1<=k->n<10 ^ k->Lib.repeatL [48] (k - (Lib.decDigits n).length)++Lib.decDigits n=Zr3 k n
 |0,_,h,_=>by omega
 |k + 1,n,_,h=>by
  rw [Lib.decDigits];split
  ·rename_i h10
   have e:k + 1 - [UInt8.ofNat (48 + n)].length=k:=rfl;rw [e];unfold Zr3;rw [show n / 10=0 by omega,Zkq,show n % 10=n by omega];rfl
  ·rename_i h10
   have hk:1<=k:=by
    rcases Nat.eq_zero_or_pos k with rfl|hk
    ·simp at h;omega
    ·exact hk
   have:=Zpq k (n / 10) hk (by rw [Nat.pow_succ] at h;omega);unfold Zr3;rw [<-this];simp only [List.length_append,List.length_cons,List.length_nil,Nat.zero_add,Nat.add_sub_add_right,List.append_assoc];rfl
theorem pad8 (n:Nat):Zr3 8 n=(ZjR n).map Zr9:=by
 simp only [Zr3,ZjR,List.map_cons,List.map_nil,List.nil_append,List.cons_append,Nat.div_div_eq_div_mul]
theorem Zqk:∀ (k n:Nat),1<=k->n<10 ^ k->(Lib.decDigits n).length<=k
 |0,_,h,_=>by omega
 |k + 1,n,_,h=>by
  rw [Lib.decDigits];split
  ·simp
  ·rename_i h10
   have hk:1<=k:=by
    rcases Nat.eq_zero_or_pos k with rfl|hk
    ·simp at h;omega
    ·exact hk
   have:=Zqk k (n / 10) hk (by rw [Nat.pow_succ] at h;omega);simp;omega
theorem Zo0 {n:Nat} (h:n<100000000):ByteArray.mk #[119,97,108,45]++⟨(Lib.repeatL (ByteArray.mk #[48]).data.toList (8 - (Lib.decDigits n).length)).toArray⟩++⟨(Lib.decDigits n).toArray⟩=Za n:=by
 have hp:=Zpq 8 n (by omega) (by simpa using h);rw [pad8] at hp;unfold Za ZnT;rw [<-hp];apply ByteArray.ext;simp only [ByteArray.data_append];apply Array.ext';simp
end
end Go.VC
namespace Go.Proofs.YtkfedbncmfnpnaaGreatDoor
section
open Go Go.VC Tryz
variable {R R':Cx} {Hs Rest:List HP} {w:World}
def Zec (R : Cx) : Prop := ∀ (Hs : List HP) (w : World), Sat R Hs w → Lib.TabIs prog w "internal/strconv.uint64pow10" .u64 Lib.pow10Tab
theorem Zec.ext (h:Zec R) (e:R.Ext R'):Zec R':=λ Hs w hw=>h Hs w (e.back hw)
theorem ZpU {n:Nat} (hp:Zec R) (hn:n<100000000) (hw:Sat R Hs w):Zq prog 105 #[.int .i64 n] w λ v w'=>v=.string ⟨(Lib.decDigits n).toArray⟩/\Sat R Hs w':=by
 refine (Tryz.strconv_Itoa n (by omega) (by omega) w (hp Hs w hw)).mono ?_;rintro e w' ⟨rfl,k,os,rfl⟩;refine ⟨_,rfl,?_,?_⟩
 ·unfold Lib.itoa
  rw [if_neg (by omega),Int.toNat_natCast]
 ·have h1:Sat R Hs (w.drewN k):=hw.keeps ⟨rfl,rfl,rfl,λ _ _=>rfl⟩
  have:=Sat.grows os.toList h1;simpa using this
theorem Zlt {c:Nat} (hc:c<=8) (hw:Sat R Hs w):Zq prog 106 #[.string (ByteArray.mk #[48]),.int .i64 c] w λ v w'=>v=.string ⟨(Lib.repeatL (ByteArray.mk #[48]).data.toList c).toArray⟩/\Sat R Hs w':=by
 refine (Tryz.strings_Repeat (ByteArray.mk #[48]) c w (by omega) (by show 1 * c<=_;omega)).mono ?_;rintro e w' ⟨rfl,hb⟩;exact ⟨_,rfl,rfl,hw.keeps (Zmi.of_below hb)⟩
theorem ZaR {n:Nat} {x z:Int} (hp:Zec R) (hn:n<100000000) (hw:Sat R Hs w):Zq prog 57 #[.agg #[.int .i64 n,.int .i64 x,.int .i64 z]] w λ v w'=>v=.string (Za n)/\Sat R Hs w':=by
 apply Zvs;refine Zd hw λ b w hw=>?_;refine ⟨_,At.own (eqS hw) (by exact ⟨rfl,trivial⟩),?_⟩;refine (ZpU hp hn hw).use ?_;rintro _ w ⟨rfl,hw⟩;have hl:=Zqk 8 n (by omega) (by simpa using hn);have hs:(ByteArray.mk (Lib.decDigits n).toArray).size=(Lib.decDigits n).length:=by simp [ByteArray.size]
 refine ⟨_,rfl,?_⟩;have e8:IntKind.i64.wrap (8 - ((ByteArray.mk (Lib.decDigits n).toArray).size:Int))=((8 - (Lib.decDigits n).length:Nat):Int):=by rw [hs,Zg (by omega) (by omega)];omega
 rw [e8];refine (Zlt (by omega) hw).use ?_;rintro _ w ⟨rfl,hw⟩;have hs2:(ByteArray.mk (Lib.repeatL (ByteArray.mk #[48]).data.toList (8 - (Lib.decDigits n).length)).toArray).size=8 - (Lib.decDigits n).length:=by simp [ByteArray.size,Lib.repeatL_length]
 have e4:(ByteArray.mk #[119,97,108,45]).size=4:=rfl;refine ⟨_,rfl,?_,?_,?_⟩
 ·rw [hs2,e4];omega
 ·rw [ByteArray.size_append,hs,hs2,e4];omega
 ·rw [Zo0 hn]
  exact ⟨rfl,hw.drop⟩
end
section
open Go Go.VC Tryz
variable {R R':Cx} {Hs Rest:List HP} {w:World}
def Zer (l:List Int):List Int:=(l.map λ x=>Ze9 x.toNat).flatten
theorem Zix {l:List Int} {k:Nat} (hk:k<l.length):Zer (l.take (k + 1))=Zer (l.take k)++Ze9 l[k].toNat:=by
 unfold Zer;rw [List.take_add_one,List.getElem?_eq_getElem hk,List.map_append,List.flatten_append];simp
theorem Zeq:∀ {l:List Int},(∀ x∈l,0<=x/\x<9223372036854775808)->(Zer l).length<=9 * l.length
 |[],_=>by simp [Zer]
 |x::l,h=>by
  have h1:=h x (List.mem_cons_self ..);have:=ZdQ (n:=x.toNat) (by omega);have h2:=Zeq λ y hy=>h y (List.mem_cons_of_mem _ hy);unfold Zer at h2 ⊢;simp only [List.map_cons,List.flatten_cons,List.length_append,List.length_cons];omega
theorem ZmM {l:List Int} (h:∀ x∈l,0<=x/\x<9223372036854775808):∀ x∈Zer l,0<=x/\x<256:=λ x hx=>by
 unfold Zer at hx;rw [List.mem_flatten] at hx;obtain ⟨r,hr,hx⟩:=hx;obtain ⟨y,hy,rfl⟩:=List.mem_map.1 hr;have:=h y hy;exact ZbJ (by omega) x hx
theorem Zmn {d:List Int} (hl:d.length<=4096) (h:∀ x∈d,0<=x/\x<256):∀ x∈Zfo d,0<=x/\x<256:=Zbr (ZbJ (by omega)) h
theorem Zj0 {d:List Int} (hl:d.length<=4096):(Zfo d).length<=9 + d.length:=by
 have:=ZdQ (n:=d.length) (by omega);unfold Zfo;simp only [List.length_append];omega
theorem Zdo {b n:Nat} {xs:List Value} {T:TypeId} (hl:xs.length<=9223372036854775807) (hn:n=xs.length) (hc:R.m b=.none):Ro (R.add (ZS.one b (.cells xs.toArray T (0,0)))) ⟨some ⟨b,0,none⟩,n,n⟩ xs:=by
 subst hn;exact ⟨rfl,hl,λ _=>⟨b,0,_,T,(0,0),rfl,Cx.lent hc,λ i v h=>by simpa using h⟩⟩
def ZoH (xs:List Int) (t:Option (List Int)):List Int:=ZP (Zer xs++match t with|some d=>Zfo d|none=>[])
theorem Zck {sd sl:Sl} {xs:List Int} {t:Option (List Int)} (hx:∀ x∈xs,0<=x/\x<9223372036854775808) (hxl:xs.length<=10) (hd:∀ d,t=some d->Ro R sd (b8 d)/\d.length<=4096/\∀ x∈d,0<=x/\x<256) (hl:Ro R sl (xs.map (Value.int .i64))) (hw:Sat R Hs w):
  Zq prog 64 #[.slice sd.a sd.len sd.cap,.bool t.isSome,.slice sl.a sl.len sl.cap] w λ v w'=>∃ s:Sl,v=.slice s.a s.len s.cap/\Sat R (Own s 5 (b8 (ZoH xs t))::Hs) w':=by
 have hsl:sl.len=xs.length:=by have:=hl.len;simpa using this
 apply Zvl;refine ⟨λ b i w=>∃ k:Nat,i=k/\k<=xs.length/\Sat R (Own b 5 (b8 (Zer (xs.take k)))::Hs) w,λ _ i _=>xs.length - i.toNat,⟨0,rfl,by omega,Own.nil hw⟩,?_⟩;clear hw;rintro _ b _ w ⟨k,rfl,hk,hw⟩;refine Br.d (λ h=>?_) (λ h=>?_)
 ·have hk':k<xs.length:=by omega
  refine hl.ix (eqS hw) k rfl hk' ?_;have hxk:=hx xs[k] (List.getElem_mem _);rw [Zbt hxk.1 (by omega),show xs[k]=((xs[k].toNat:Nat):Int) by omega];refine (Zho (by omega) hw).use ?_;rintro _ w ⟨s,rfl,hw⟩;refine ⟨s,rfl,?_⟩;have hn:=ZdQ (n:=xs[k].toNat) (by omega);have hn2:=Zeq (l:=xs.take k) λ y hy=>hx y (List.mem_of_mem_take hy);have hn3:(xs.take k).length=k:=by simp;omega
  refine Zcx Zh1 (s:=b) (t:=s) (n:=200) underlying53 hw.swap (by omega) (by omega) (by omega) λ s2 w hw=>?_;rw [<-Zix hk'] at hw;exact ⟨⟨k + 1,by rw [Zg (by omega) (by omega)];omega,by omega,hw.swap.drop⟩,by dsimp only;rw [Zg (by omega) (by omega)];omega⟩
 ·have:k=xs.length:=by omega
  subst this;rw [List.take_length] at hw;have hn2:=Zeq hx;have hnb:=ZmM hx;cases t with
  |none=>
   refine Br.f rfl ?_;have hlen:=Own.len hw;obtain ⟨R1,hr1,_,hw,back⟩:=Own.lend hw (by rw [List.length_map];omega);refine (Zha hnb hr1 hw).use ?_;rintro _ w (⟨h,_⟩|⟨_,t,rfl,hw⟩)
   ·omega
   refine ⟨t,0,rfl,t,rfl,?_⟩;unfold ZoH;rw [List.append_nil];exact (back hw).drop
  |some d=>
   obtain ⟨hd1,hd2,hd3⟩:=hd d rfl;refine Br.t rfl ?_;refine (Zoe hd1 (by omega) hw).use ?_;rintro _ w ⟨s,rfl,hw⟩;have hn4:=Zj0 hd2;refine ⟨s,rfl,?_⟩;refine Zcx Zh1 (s:=b) (t:=s) (n:=5000) underlying53 hw.swap (by omega) (by omega) (by omega) λ s2 w hw=>?_;have hw:=hw.swap.drop;have hbb:∀ x∈Zer xs++Zfo d,0<=x/\x<256:=Zbr hnb (Zmn hd2 hd3);obtain ⟨R1,hr1,_,hw,back⟩:=Own.lend hw (by rw [List.length_map,List.length_append];omega);refine (Zha hbb hr1 hw).use ?_;rintro _ w (⟨h,_⟩|⟨_,t,rfl,hw⟩)
   ·rw [List.length_append] at h;omega
   exact ⟨t,0,rfl,t,rfl,(back hw).drop⟩
theorem ZlX (n:Nat) (x:Int):ZoH [0,n,x] none=ZH n x:=by
 unfold ZoH ZH hdB Zer;simp
theorem ZmY (x:Ey):ZoH [1,x.ix,x.tm,x.kd] (some x.dt)=ZP (Zc6 x):=by
 unfold ZoH Zc6 Zer;simp
theorem ZmZ (x:Int):ZoH [2,x] none=ZP (Zc8 x):=by
 unfold ZoH Zc8 Zer;simp
theorem ZmX (x:Int):ZoH [3,x] none=ZP (Zd8 x):=by
 unfold ZoH Zd8 Zer;simp
end
section
open Go Go.VC Tryz
set_option maxRecDepth 10000
def B22 (f:Option Addr) (K:Value->World->Prop) (w:World):Prop:=
 Zb f λ b=>
 ∃ e:Bool,(At (λ a=>a=w) ⟨b.block,b.off + 5,none⟩ [.bool e])/\
 Br e
 (K (.int .i64 0) w)
 (Zb f λ c=>
 ∃ d:Int,(At (λ a=>a=w) ⟨c.block,c.off + 2,none⟩ [.int .i64 d])/\
 K (.int .i64 (IntKind.i64.wrap (d + 1))) w)
theorem Zv0 (a:Option Addr) (K:Value->World->Prop) (w:World) (h:B22 a K w):Zq prog 22 #[.pointer a] w K:=cq (sk:=.leaf) func22 (by kernel_rfl) (by kernel_rfl) (by kernel_rfl) h
def B24 (e:Option Addr) (K:Value->World->Prop) (w:World):Prop:=
 Zb e λ a=>
 ∃ d:Bool,(At (λ g=>g=w) ⟨a.block,a.off + 5,none⟩ [.bool d])/\
 Br d
 (K (.int .i64 0) w)
 (Zb e λ b=>
 Calls prog 52 #[.pointer ((some ⟨b.block,b.off + 2,none⟩))] w λ f i=>
 ∃ c:Int,(f=.returned (.int .i64 c))/\
 K (.int .i64 c) i)
theorem ZvY (a:Option Addr) (K:Value->World->Prop) (w:World) (h:B24 a K w):Zq prog 24 #[.pointer a] w K:=cq (sk:=.leaf) func24 (by kernel_rfl) (by kernel_rfl) (by kernel_rfl) h
def B59 (x:Int) (y:Int) (z:Int) (k:Sl) (K:Value->World->Prop) (w:World):Prop:=
 New (.cells #[.int .i64 x,.int .i64 y,.int .i64 z,.slice k.a k.len k.cap] 55 (0,0)) (λ g u=>
 New (.cells #[.int .i64 0,.int .i64 0,.int .i64 0,.slice none 0 0] 55 (0,0)) (λ l s=>
 ∃ b:Sl,(At (λ f=>f=s) ⟨g,0 + 3,none⟩ [.slice b.a b.len b.cap])/\
 Calls prog 98 #[.slice b.a b.len b.cap] s λ t v=>
 ∃ c:Sl,(t=.returned (.slice c.a c.len c.cap))/\
 ∃ i:World,((Instr.storeAt 53 (.pointer ((some ⟨g,0 + 3,none⟩))) (.slice c.a c.len c.cap)).run prog v=.ok () i)/\
 ∃ m:Int,∃ n:Int,∃ o:Int,∃ d:Sl,(At (λ f=>f=i) ⟨g,0,none⟩ [.int .i64 m,.int .i64 n,.int .i64 o,.slice d.a d.len d.cap])/\
 ∃ j:World,((Instr.storeAt 55 (.pointer ((some ⟨l,0,none⟩))) (.agg #[.int .i64 m,.int .i64 n,.int .i64 o,.slice d.a d.len d.cap])).run prog i=.ok () j)/\
 ∃ p:Int,∃ q:Int,∃ r:Int,∃ e:Sl,(At (λ f=>f=j) ⟨l,0,none⟩ [.int .i64 p,.int .i64 q,.int .i64 r,.slice e.a e.len e.cap])/\
 K (.agg #[.int .i64 p,.int .i64 q,.int .i64 r,.slice e.a e.len e.cap]) j) u) w
theorem Zvq (c:Int) (d:Int) (e:Int) (b:Sl) (K:Value->World->Prop) (w:World) (h:B59 c d e b K w):Zq prog 59 #[.agg #[.int .i64 c,.int .i64 d,.int .i64 e,.slice b.a b.len b.cap]] w K:=cq (sk:=.leaf) func59 (by kernel_rfl) (by kernel_rfl) (by kernel_rfl) h
def B21 (n:Option Addr) (c:Int) (e:Int) (K:Value->World->Prop) (w:World):Prop:=
 ∃ (t:World->Prop),(Zb n λ v=>
 ∃ D:Bool,(At (λ i=>i=w) ⟨v.block,v.off + 5,none⟩ [.bool D])/\
 Br D
 (K (.slice none 0 0) w)
 (Zb n λ x=>
 ∃ E:Int,(At (λ i=>i=w) ⟨x.block,x.off + 2,none⟩ [.int .i64 E])/\
 Br (decide (c<=E))
 (K (.slice none 0 0) w)
 (Zb n λ y=>
 Calls prog 52 #[.pointer ((some ⟨y.block,y.off + 2,none⟩))] w λ Y q=>
 ∃ F:Int,(Y=.returned (.int .i64 F))/\
 Br (decide (c>F))
 (K (.slice none 0 0) q)
 (Br (decide (e<1))
 (K (.slice none 0 0) q)
 (t  q)))))/\
 ∀ (ae:Env)  (T:World),t  T->
 Drw T λ u aa=>
 Zb n λ z=>
 ∃ b:Sl,(At u ⟨z.block,z.off + 2 + 1,none⟩ [.slice b.a b.len b.cap])/\
 Zb n λ A=>
 ∃ d:Int,(At u ⟨A.block,A.off + 2,none⟩ [.int .i64 d])/\
 ((0:Int)<=IntKind.i64.wrap (IntKind.i64.wrap (c - 1) - d))/\
 ((IntKind.i64.wrap (IntKind.i64.wrap (c - 1) - d):Int)<=(↑b.len:Int))/\
 ((0:Int)<=if (↑(b.len - (IntKind.i64.wrap (IntKind.i64.wrap (c - 1) - d)).toNat):Int)<e then (↑(b.len - (IntKind.i64.wrap (IntKind.i64.wrap (c - 1) - d)).toNat):Int) else e)/\
 ((if (↑(b.len - (IntKind.i64.wrap (IntKind.i64.wrap (c - 1) - d)).toNat):Int)<e then (↑(b.len - (IntKind.i64.wrap (IntKind.i64.wrap (c - 1) - d)).toNat):Int) else e:Int)<=(↑(b.cap - (IntKind.i64.wrap (IntKind.i64.wrap (c - 1) - d)).toNat):Int))/\
 ∃ (p:Sl->Int->World->Prop) (U:Sl->Int->World->Nat),(p ⟨none,0,0⟩ 0 aa)/\∀ (af:Env) (f:Sl) (g:Int) (o:World),p f g o->
 Br (decide (g<(↑(if (↑(b.len - (IntKind.i64.wrap (IntKind.i64.wrap (c - 1) - d)).toNat):Int)<e then (↑(b.len - (IntKind.i64.wrap (IntKind.i64.wrap (c - 1) - d)).toNat):Int) else e).toNat:Int)))
 (Rng g ((if (↑(b.len - (IntKind.i64.wrap (IntKind.i64.wrap (c - 1) - d)).toNat):Int)<e then (↑(b.len - (IntKind.i64.wrap (IntKind.i64.wrap (c - 1) - d)).toNat):Int) else e).toNat) (Zb (ZcW b.a (IntKind.i64.wrap (IntKind.i64.wrap (c - 1) - d)).toNat b.cap 4) λ V=>
 ∃ G:Int,∃ H:Int,∃ I:Int,∃ j:Sl,(At (λ i=>i=o) (Addr.add V (Zah g.toNat 4)) [.int .i64 G,.int .i64 H,.int .i64 I,.slice j.a j.len j.cap])/\
 New (.cells #[.int .i64 0,.int .i64 0,.int .i64 0,.slice none 0 0] 55 (0,0)) (λ C ab=>
 ∃ r:World,((Instr.storeAt 55 (.pointer ((some ⟨C,0,none⟩))) (.agg #[.int .i64 G,.int .i64 H,.int .i64 I,.slice j.a j.len j.cap])).run prog ab=.ok () r)/\
 ∃ J:Int,∃ L:Int,∃ M:Int,∃ k:Sl,(At (λ i=>i=r) ⟨C,0,none⟩ [.int .i64 J,.int .i64 L,.int .i64 M,.slice k.a k.len k.cap])/\
 Calls prog 59 #[.agg #[.int .i64 J,.int .i64 L,.int .i64 M,.slice k.a k.len k.cap]] r λ Z ac=>
 ∃ N:Int,∃ O:Int,∃ Q:Int,∃ l:Sl,(Z=.returned (.agg #[.int .i64 N,.int .i64 O,.int .i64 Q,.slice l.a l.len l.cap]))/\
 New (.cells #[.int .i64 N,.int .i64 O,.int .i64 Q,.slice l.a l.len l.cap] 55 (0,0)) (λ X ad=>
 ∃ s:World,∃ m:Sl,((Builtin.append_ #[40,40] 40 #[.slice f.a f.len f.cap,.slice ((some ⟨X,0,none⟩)) 1 1]).run prog ad=.ok (.slice m.a m.len m.cap) s)/\
 (p m (IntKind.i64.wrap (g + 1)) s)/\U m (IntKind.i64.wrap (g + 1)) s<U f g o) ac) o))
 (K (.slice f.a f.len f.cap) o)
def sk21:Sk:=(.seq .leaf (.cut [] [] [6,11,12,13,14,15,16,17,18,19,20,21,22,23,24,25,26,27,28,29,30,31,32,33,34,35] .leaf (.seq .leaf (.seq .leaf (.seq (.seq .leaf (.block (.loop [7,57] [.sl,(.int .i64)] [7,10,57,58,59,60,61,62,63,64,65,66] .leaf))) .leaf)))))
theorem Zv1 (c:Option Addr) (a:Int) (b:Int) (K:Value->World->Prop) (w:World) (h:B21 c a b K w):Zq prog 21 #[.pointer c,.int .i64 a,.int .i64 b] w K:=cq (sk:=sk21) func21 (by kernel_rfl) (by kernel_rfl) (by kernel_rfl) h
def B53 (e:Option Addr) (i:Value) (K:Value->World->Prop) (w:World):Prop:=
 Zb e λ c=>
 ∃ d:Bool,(At (λ j=>j=w) ⟨c.block,c.off + 5,none⟩ [.bool d])/\
 Br d
 (K (.int .i64 8) w)
 (Zcm prog cl i [] w λ g k=>
 ∃ a:Int,(g=.returned (.int .i64 a))/\
 Zb e λ b=>
 ∃ f:World,((Instr.storeAt 4 (.pointer ((some ⟨b.block,b.off + 5,none⟩))) (.bool (a !=0))).run prog k=.ok () f)/\
 K (.int .i64 a) f)
theorem Zvw (b:Option Addr) (a:Value) (K:Value->World->Prop) (w:World) (h:B53 b a K w):Zq prog 53 #[.pointer b,a] w K:=cq (sk:=.leaf) func53 (by kernel_rfl) (by kernel_rfl) (by kernel_rfl) h
def B61 (g:Option Addr) (K:Value->World->Prop) (w:World):Prop:=
 Drw w λ d j=>
 Zb g λ e=>
 ∃ c:Sl,(At d ⟨e.block,e.off + 4,none⟩ [.slice c.a c.len c.cap])/\
 Zb g λ f=>
 ∃ b:Sl,(At d ⟨f.block,f.off + 4,none⟩ [.slice b.a b.len b.cap])/\
 Rng (IntKind.i64.wrap ((↑b.len:Int) - 1)) c.len (Zb c.a λ i=>
 K (.pointer ((some (Addr.add i (Zah (IntKind.i64.wrap ((↑b.len:Int) - 1)).toNat 3))))) j)
theorem Zvo (a:Option Addr) (K:Value->World->Prop) (w:World) (h:B61 a K w):Zq prog 61 #[.pointer a] w K:=cq (sk:=.leaf) func61 (by kernel_rfl) (by kernel_rfl) (by kernel_rfl) h
def B63 (f:Option Addr) (c:Sl) (K:Value->World->Prop) (w:World):Prop:=
 Drw w λ b E=>
 Zb f λ x=>
 ∃ q:Option Addr,(At b (Addr.add x 0) [.pointer q])/\
 Calls prog 61 #[.pointer f] E λ y r=>
 ∃ k:Option Addr,(y=.returned (.pointer k))/\
 (b r)/\
 Zb k λ v=>
 ∃ l:Int,∃ m:Int,∃ n:Int,(At b v [.int .i64 l,.int .i64 m,.int .i64 n])/\
 Calls prog 57 #[.agg #[.int .i64 l,.int .i64 m,.int .i64 n]] r λ z s=>
 ∃ o:ByteArray,(z=.returned (.string o))/\
 (b s)/\
 Calls prog 35 #[.pointer q,.string o,.slice c.a c.len c.cap] s λ A g=>
 ∃ d:Int,(A=.returned (.int .i64 d))/\
 (b g)/\
 Br (d==0)
 (Calls prog 61 #[.pointer f] g λ C t=>
 ∃ e:Option Addr,(C=.returned (.pointer e))/\
 Zb e λ i=>
 ∃ p:Int,(At (λ D=>D=t) ⟨i.block,i.off + 2,none⟩ [.int .i64 p])/\
 Zb e λ j=>
 ∃ u:World,((Instr.storeAt 3 (.pointer ((some ⟨j.block,j.off + 2,none⟩))) (.int .i64 (IntKind.i64.wrap (p + (↑c.len:Int))))).run prog t=.ok () u)/\
 K (.int .i64 d) u)
 (K (.int .i64 d) g)
theorem Zvm (c:Option Addr) (b:Sl) (K:Value->World->Prop) (w:World) (h:B63 c b K w):Zq prog 63 #[.pointer c,.slice b.a b.len b.cap] w K:=cq (sk:=.leaf) func63 (by kernel_rfl) (by kernel_rfl) (by kernel_rfl) h
def B50 (n:Int) (o:Int) (p:Int) (f:Sl) (K:Value->World->Prop) (w:World):Prop:=
 New (.cells #[.int .i64 n,.int .i64 o,.int .i64 p,.slice f.a f.len f.cap] 55 (0,0)) (λ d b=>
 ∃ l:Int,(At (λ c=>c=b) ⟨d,0,none⟩ [.int .i64 l])/\
 Br (decide (l >= 1))
 (∃ m:Int,(At (λ c=>c=b) ⟨d,0,none⟩ [.int .i64 m])/\
 Br (decide (m<=1099511627776))
 (∃ g:Int,(At (λ c=>c=b) ⟨d,0 + 1,none⟩ [.int .i64 g])/\
 Br (decide (g >= 0))
 (∃ i:Int,(At (λ c=>c=b) ⟨d,0 + 1,none⟩ [.int .i64 i])/\
 Br (decide (i<=1099511627776))
 (∃ j:Int,(At (λ c=>c=b) ⟨d,0 + 2,none⟩ [.int .i64 j])/\
 Br (decide (j >= 0))
 (∃ k:Int,(At (λ c=>c=b) ⟨d,0 + 2,none⟩ [.int .i64 k])/\
 Br (decide (k<=7))
 (∃ e:Sl,(At (λ c=>c=b) ⟨d,0 + 3,none⟩ [.slice e.a e.len e.cap])/\
 K (.bool (decide ((↑e.len:Int)<=4096))) b)
 (K (.bool false) b))
 (K (.bool false) b))
 (K (.bool false) b))
 (K (.bool false) b))
 (K (.bool false) b))
 (K (.bool false) b)) w
theorem Zvz (c:Int) (d:Int) (e:Int) (b:Sl) (K:Value->World->Prop) (w:World) (h:B50 c d e b K w):Zq prog 50 #[.agg #[.int .i64 c,.int .i64 d,.int .i64 e,.slice b.a b.len b.cap]] w K:=cq (sk:=.leaf) func50 (by kernel_rfl) (by kernel_rfl) (by kernel_rfl) h
def B18 (N:Option Addr) (o:Sl) (K:Value->World->Prop) (w:World):Prop:=
 New (.cells #[.pointer N] 31 (0,0)) (λ j O=>
 New (.cells #[.slice o.a o.len o.cap] 40 (0,0)) (λ n i=>
 ∃ F:Option Addr,(At (λ b=>b=i) ⟨j,0,none⟩ [.pointer F])/\
 Zb F λ q=>
 ∃ t:Bool,(At (λ b=>b=i) ⟨q.block,q.off + 5,none⟩ [.bool t])/\
 Br t
 (K (.int .i64 8) i)
 (∃ d:Sl,(At (λ b=>b=i) ⟨n,0,none⟩ [.slice d.a d.len d.cap])/\
 Calls prog 51 #[.slice d.a d.len d.cap,.func (.func 49) #[] #[]] i λ J p=>
 ∃ u:Bool,(J=.returned (.bool u))/\
 Br u
 (K (.int .i64 1) p)
 (∃ e:Sl,(At (λ b=>b=p) ⟨n,0,none⟩ [.slice e.a e.len e.cap])/\
 ∃ (l:Int->World->Prop) (H:Int->World->Nat),(l 0 p)/\∀ (V:Env) (c:Int) (g:World),l c g->
 Br (decide (c<(↑e.len:Int)))
 (Rng c e.len (Zb e.a λ I=>
 ∃ v:Int,∃ x:Int,∃ y:Int,∃ f:Sl,(At (λ b=>b=g) (Addr.add I (Zah c.toNat 4)) [.int .i64 v,.int .i64 x,.int .i64 y,.slice f.a f.len f.cap])/\
 New (.cells #[.int .i64 0,.int .i64 0,.int .i64 0,.slice none 0 0] 55 (0,0)) (λ s Q=>
 ∃ G:World,((Instr.storeAt 55 (.pointer ((some ⟨s,0,none⟩))) (.agg #[.int .i64 v,.int .i64 x,.int .i64 y,.slice f.a f.len f.cap])).run prog Q=.ok () G)/\
 Drw G λ m T=>
 ∃ z:Int,(At m ⟨s,0,none⟩ [.int .i64 z])/\
 ∃ A:Option Addr,(At m ⟨j,0,none⟩ [.pointer A])/\
 Zb A λ r=>
 Calls prog 52 #[.pointer ((some ⟨r.block,r.off + 2,none⟩))] T λ L k=>
 ∃ C:Int,(L=.returned (.int .i64 C))/\
 (m k)/\
 Br (z !=IntKind.i64.wrap (IntKind.i64.wrap (C + 1) + c))
 (K (.int .i64 7) k)
 ((l (IntKind.i64.wrap (c + 1)) k)/\H (IntKind.i64.wrap (c + 1)) k<H c g)) g))
 (∃ D:Option Addr,(At (λ b=>b=g) ⟨j,0,none⟩ [.pointer D])/\
 Calls prog 53 #[.pointer D,.func (.func 54) #[] #[.pointer ((some ⟨n,0,none⟩)),.pointer ((some ⟨j,0,none⟩))]] g λ M U=>
 ∃ E:Int,(M=.returned (.int .i64 E))/\
 K (.int .i64 E) U)))) O) w
def sk18:Sk:=(.seq .leaf (.seq .leaf (.seq .leaf (.seq (.seq .leaf (.block (.loop [19] [(.int .i64)] [4,6,7,19,20,21,22,23,24,25,26,27,28,29,30,31,32,33,34] .leaf))) .leaf))))
theorem Zv4 (c:Option Addr) (b:Sl) (K:Value->World->Prop) (w:World) (h:B18 c b K w):Zq prog 18 #[.pointer c,.slice b.a b.len b.cap] w K:=cq (sk:=sk18) func18 (by kernel_rfl) (by kernel_rfl) (by kernel_rfl) h
def B49 (n:Int) (o:Int) (p:Int) (c:Sl) (K:Value->World->Prop) (w:World):Prop:=
 New (.cells #[.int .i64 n,.int .i64 o,.int .i64 p,.slice c.a c.len c.cap] 55 (0,0)) (λ j i=>
 ∃ d:Int,∃ e:Int,∃ f:Int,∃ b:Sl,(At (λ l=>l=i) ⟨j,0,none⟩ [.int .i64 d,.int .i64 e,.int .i64 f,.slice b.a b.len b.cap])/\
 Calls prog 50 #[.agg #[.int .i64 d,.int .i64 e,.int .i64 f,.slice b.a b.len b.cap]] i λ k m=>
 ∃ g:Bool,(k=.returned (.bool g))/\
 K (.bool (!g)) m) w
theorem ZvA (c:Int) (d:Int) (e:Int) (b:Sl) (K:Value->World->Prop) (w:World) (h:B49 c d e b K w):Zq prog 49 #[.agg #[.int .i64 c,.int .i64 d,.int .i64 e,.slice b.a b.len b.cap]] w K:=cq (sk:=.leaf) func49 (by kernel_rfl) (by kernel_rfl) (by kernel_rfl) h
def B54 (z:Option Addr) (A:Option Addr) (K:Value->World->Prop) (w:World):Prop:=
 Zb z λ y=>
 ∃ f:Sl,(At (λ c=>c=w) y [.slice f.a f.len f.cap])/\
 ∃ (j:Int->World->Prop) (u:Int->World->Nat),(j 0 w)/\∀ (E:Env) (b:Int) (g:World),j b g->
 Br (decide (b<(↑f.len:Int)))
 (Rng b f.len (Zb f.a λ v=>
 ∃ n:Int,∃ o:Int,∃ p:Int,∃ d:Sl,(At (λ c=>c=g) (Addr.add v (Zah b.toNat 4)) [.int .i64 n,.int .i64 o,.int .i64 p,.slice d.a d.len d.cap])/\
 New (.cells #[.int .i64 0,.int .i64 0,.int .i64 0,.slice none 0 0] 55 (0,0)) (λ m D=>
 ∃ i:World,((Instr.storeAt 55 (.pointer ((some ⟨m,0,none⟩))) (.agg #[.int .i64 n,.int .i64 o,.int .i64 p,.slice d.a d.len d.cap])).run prog D=.ok () i)/\
 Zb A λ x=>
 ∃ q:Option Addr,(At (λ c=>c=i) x [.pointer q])/\
 ∃ r:Int,∃ s:Int,∃ t:Int,∃ e:Sl,(At (λ c=>c=i) ⟨m,0,none⟩ [.int .i64 r,.int .i64 s,.int .i64 t,.slice e.a e.len e.cap])/\
 Calls prog 55 #[.pointer q,.agg #[.int .i64 r,.int .i64 s,.int .i64 t,.slice e.a e.len e.cap]] i λ C l=>
 ∃ k:Int,(C=.returned (.int .i64 k))/\
 Br (k !=0)
 (K (.int .i64 k) l)
 ((j (IntKind.i64.wrap (b + 1)) l)/\u (IntKind.i64.wrap (b + 1)) l<u b g)) g))
 (K (.int .i64 0) g)
def sk54:Sk:=(.seq .leaf (.seq (.seq .leaf (.block (.loop [8] [(.int .i64)] [2,4,5,8,9,10,11,12,13,14,15,16,17,18] .leaf))) .leaf))
theorem Zvv (a:Option Addr) (b:Option Addr) (K:Value->World->Prop) (w:World) (h:B54 a b K w):Zq prog 54 #[.pointer a,.pointer b] w K:=cq (sk:=sk54) func54 (by kernel_rfl) (by kernel_rfl) (by kernel_rfl) h
def B55 (av:Option Addr) (a1:Int) (a2:Int) (a3:Int) (u:Sl) (K:Value->World->Prop) (w:World):Prop:=
 New (.cells #[.pointer av] 31 (0,0)) (λ d aw=>
 New (.cells #[.int .i64 a1,.int .i64 a2,.int .i64 a3,.slice u.a u.len u.cap] 55 (0,0)) (λ l ae=>
 ∃ (o:World->Prop),(∃ X:Option Addr,(At (λ r=>r=ae) ⟨d,0,none⟩ [.pointer X])/\
 Calls prog 61 #[.pointer X] ae λ ao af=>
 ∃ Y:Option Addr,(ao=.returned (.pointer Y))/\
 Zb Y λ ak=>
 ∃ z:Int,∃ A:Int,∃ C:Int,(At (λ r=>r=af) ak [.int .i64 z,.int .i64 A,.int .i64 C])/\
 New (.cells #[.int .i64 0,.int .i64 0,.int .i64 0] 96 (0,0)) (λ m az=>
 ∃ ag:World,((Instr.storeAt 96 (.pointer ((some ⟨m,0,none⟩))) (.agg #[.int .i64 z,.int .i64 A,.int .i64 C])).run prog az=.ok () ag)/\
 Drw ag λ p ah=>
 ∃ D:Int,(At p ⟨m,0 + 2,none⟩ [.int .i64 D])/\
 ∃ E:Option Addr,(At p ⟨d,0,none⟩ [.pointer E])/\
 Zb E λ v=>
 ∃ F:Int,(At p ⟨v.block,v.off + 1,none⟩ [.int .i64 F])/\
 Br (decide (D >= F))
 (New (.cells #[.func (.func 101) #[] #[.pointer ((some ⟨d,0,none⟩)),.pointer ((some ⟨m,0,none⟩))],.func (.func 102) #[] #[.pointer ((some ⟨d,0,none⟩)),.pointer ((some ⟨m,0,none⟩))]] 52 (0,0)) (λ al a0=>
 Calls prog 90 #[.slice ((some ⟨al,0,none⟩)) 2 2] a0 λ ap ai=>
 ∃ q:Int,(ap=.returned (.int .i64 q))/\
 Br (q !=0)
 (K (.int .i64 q) ai)
 (o  ai)) ah)
 (o  ah)) af)/\
 ∀ (a4:Env)  (aj:World),o  aj->
 Drw aj λ b ax=>
 ∃ G:Option Addr,(At b ⟨d,0,none⟩ [.pointer G])/\
 ∃ e:Sl,(At b ⟨l,0 + 3,none⟩ [.slice e.a e.len e.cap])/\
 ∃ H:Int,(At b ⟨l,0,none⟩ [.int .i64 H])/\
 ∃ I:Int,(At b ⟨l,0 + 1,none⟩ [.int .i64 I])/\
 ∃ J:Int,(At b ⟨l,0 + 2,none⟩ [.int .i64 J])/\
 New (.cells #[.int .i64 1,.int .i64 H,.int .i64 I,.int .i64 J] 3 (0,0)) (λ am Z=>
 (b Z)/\
 Calls prog 64 #[.slice e.a e.len e.cap,.bool true,.slice ((some ⟨am,0,none⟩)) 4 4] Z λ aq aa=>
 ∃ f:Sl,(aq=.returned (.slice f.a f.len f.cap))/\
 (b aa)/\
 Calls prog 63 #[.pointer G,.slice f.a f.len f.cap] aa λ ar s=>
 ∃ n:Int,(ar=.returned (.int .i64 n))/\
 (b s)/\
 Br (n==0)
 (Drw s λ c ay=>
 ∃ L:Option Addr,(At c ⟨d,0,none⟩ [.pointer L])/\
 ∃ M:Option Addr,(At c ⟨d,0,none⟩ [.pointer M])/\
 Zb M λ x=>
 ∃ g:Sl,(At c ⟨x.block,x.off + 2 + 1,none⟩ [.slice g.a g.len g.cap])/\
 ∃ N:Int,∃ O:Int,∃ Q:Int,∃ i:Sl,(At c ⟨l,0,none⟩ [.int .i64 N,.int .i64 O,.int .i64 Q,.slice i.a i.len i.cap])/\
 Calls prog 59 #[.agg #[.int .i64 N,.int .i64 O,.int .i64 Q,.slice i.a i.len i.cap]] ay λ au ab=>
 ∃ T:Int,∃ U:Int,∃ V:Int,∃ j:Sl,(au=.returned (.agg #[.int .i64 T,.int .i64 U,.int .i64 V,.slice j.a j.len j.cap]))/\
 (c ab)/\
 New (.cells #[.int .i64 T,.int .i64 U,.int .i64 V,.slice j.a j.len j.cap] 55 (0,0)) (λ an ac=>
 (c ac)/\
 ∃ t:World,∃ k:Sl,((Builtin.append_ #[40,40] 40 #[.slice g.a g.len g.cap,.slice ((some ⟨an,0,none⟩)) 1 1]).run prog ac=.ok (.slice k.a k.len k.cap) t)/\
 (c t)/\
 Zb L λ y=>
 ∃ ad:World,((Instr.storeAt 40 (.pointer ((some ⟨y.block,y.off + 2 + 1,none⟩))) (.slice k.a k.len k.cap)).run prog t=.ok () ad)/\
 K (.int .i64 n) ad) ab)
 (K (.int .i64 n) s)) ax) aw) w
def sk55:Sk:=(.seq .leaf (.cut [] [] [4,5,6,8,9,10,11,12,13,14,15,16,17,18,19,20,21,22,23,24,25] .leaf .leaf))
theorem Zvu (c:Option Addr) (d:Int) (e:Int) (f:Int) (b:Sl) (K:Value->World->Prop) (w:World) (h:B55 c d e f b K w):Zq prog 55 #[.pointer c,.agg #[.int .i64 d,.int .i64 e,.int .i64 f,.slice b.a b.len b.cap]] w K:=cq (sk:=sk55) func55 (by kernel_rfl) (by kernel_rfl) (by kernel_rfl) h
def B101 (o:Option Addr) (p:Option Addr) (K:Value->World->Prop) (w:World):Prop:=
 Drw w λ a s=>
 Zb o λ l=>
 ∃ b:Option Addr,(At a l [.pointer b])/\
 Zb b λ m=>
 ∃ c:Option Addr,(At a (Addr.add m 0) [.pointer c])/\
 Zb p λ n=>
 ∃ d:Int,∃ e:Int,∃ f:Int,(At a n [.int .i64 d,.int .i64 e,.int .i64 f])/\
 Calls prog 57 #[.agg #[.int .i64 d,.int .i64 e,.int .i64 f]] s λ q j=>
 ∃ g:ByteArray,(q=.returned (.string g))/\
 (a j)/\
 Calls prog 37 #[.pointer c,.string g] j λ r k=>
 ∃ i:Int,(r=.returned (.int .i64 i))/\
 (a k)/\
 K (.int .i64 i) k
theorem Zt8 (a:Option Addr) (b:Option Addr) (K:Value->World->Prop) (w:World) (h:B101 a b K w):Zq prog 101 #[.pointer a,.pointer b] w K:=cq (sk:=.leaf) func101 (by kernel_rfl) (by kernel_rfl) (by kernel_rfl) h
def B102 (c:Option Addr) (o:Option Addr) (K:Value->World->Prop) (w:World):Prop:=
 Drw w λ a r=>
 Zb c λ l=>
 ∃ f:Option Addr,(At a l [.pointer f])/\
 Zb o λ m=>
 ∃ g:Int,(At a (Addr.add m 0) [.int .i64 g])/\
 Zb c λ n=>
 ∃ i:Option Addr,(At a n [.pointer i])/\
 Zb i λ b=>
 Calls prog 52 #[.pointer ((some ⟨b.block,b.off + 2,none⟩))] r λ p j=>
 ∃ d:Int,(p=.returned (.int .i64 d))/\
 (a j)/\
 Calls prog 89 #[.pointer f,.int .i64 (IntKind.i64.wrap (g + 1)),.int .i64 (IntKind.i64.wrap (d + 1))] j λ q k=>
 ∃ e:Int,(q=.returned (.int .i64 e))/\
 (a k)/\
 K (.int .i64 e) k
theorem Zt7 (a:Option Addr) (b:Option Addr) (K:Value->World->Prop) (w:World) (h:B102 a b K w):Zq prog 102 #[.pointer a,.pointer b] w K:=cq (sk:=.leaf) func102 (by kernel_rfl) (by kernel_rfl) (by kernel_rfl) h
def B26 (H:Option Addr) (G:Int) (K:Value->World->Prop) (w:World):Prop:=
 New (.cells #[.pointer H] 31 (0,0)) (λ b I=>
 New (.cells #[.int .i64 G] 3 (0,0)) (λ d e=>
 ∃ z:Option Addr,(At (λ c=>c=e) ⟨b,0,none⟩ [.pointer z])/\
 Zb z λ m=>
 ∃ A:Bool,(At (λ c=>c=e) ⟨m.block,m.off + 5,none⟩ [.bool A])/\
 Br A
 (K (.int .i64 8) e)
 (Drw e λ a C=>
 ∃ n:Int,(At a ⟨d,0,none⟩ [.int .i64 n])/\
 ∃ o:Option Addr,(At a ⟨b,0,none⟩ [.pointer o])/\
 Zb o λ j=>
 ∃ p:Int,(At a ⟨j.block,j.off + 2,none⟩ [.int .i64 p])/\
 Br (decide (n<=p))
 (K (.int .i64 7) C)
 (∃ q:Int,(At a ⟨d,0,none⟩ [.int .i64 q])/\
 ∃ r:Option Addr,(At a ⟨b,0,none⟩ [.pointer r])/\
 Zb r λ k=>
 Calls prog 52 #[.pointer ((some ⟨k.block,k.off + 2,none⟩))] C λ D i=>
 ∃ s:Int,(D=.returned (.int .i64 s))/\
 (a i)/\
 Br (decide (q>IntKind.i64.wrap (s + 1)))
 (K (.int .i64 7) i)
 (Drw i λ g J=>
 ∃ t:Int,(At g ⟨d,0,none⟩ [.int .i64 t])/\
 ∃ u:Option Addr,(At g ⟨b,0,none⟩ [.pointer u])/\
 Zb u λ l=>
 Calls prog 52 #[.pointer ((some ⟨l.block,l.off + 2,none⟩))] J λ E f=>
 ∃ v:Int,(E=.returned (.int .i64 v))/\
 (g f)/\
 Br (t==IntKind.i64.wrap (v + 1))
 (K (.int .i64 0) f)
 (∃ x:Option Addr,(At (λ c=>c=f) ⟨b,0,none⟩ [.pointer x])/\
 Calls prog 53 #[.pointer x,.func (.func 62) #[] #[.pointer ((some ⟨b,0,none⟩)),.pointer ((some ⟨d,0,none⟩))]] f λ F L=>
 ∃ y:Int,(F=.returned (.int .i64 y))/\
 K (.int .i64 y) L))))) I) w
theorem ZvW (b:Option Addr) (a:Int) (K:Value->World->Prop) (w:World) (h:B26 b a K w):Zq prog 26 #[.pointer b,.int .i64 a] w K:=cq (sk:=.leaf) func26 (by kernel_rfl) (by kernel_rfl) (by kernel_rfl) h
def B62 (g:Option Addr) (p:Option Addr) (K:Value->World->Prop) (w:World):Prop:=
 Drw w λ f M=>
 Zb g λ F=>
 ∃ t:Option Addr,(At f F [.pointer t])/\
 Zb p λ G=>
 ∃ u:Int,(At f G [.int .i64 u])/\
 New (.cells #[.int .i64 2,.int .i64 u] 3 (0,0)) (λ H v=>
 (f v)/\
 Calls prog 64 #[.slice none 0 0,.bool false,.slice ((some ⟨H,0,none⟩)) 2 2] v λ I x=>
 ∃ e:Sl,(I=.returned (.slice e.a e.len e.cap))/\
 (f x)/\
 Calls prog 63 #[.pointer t,.slice e.a e.len e.cap] x λ J l=>
 ∃ k:Int,(J=.returned (.int .i64 k))/\
 (f l)/\
 Br (k==0)
 (Drw l λ b N=>
 Zb g λ A=>
 ∃ q:Option Addr,(At b A [.pointer q])/\
 Zb g λ C=>
 ∃ r:Option Addr,(At b C [.pointer r])/\
 Zb r λ m=>
 ∃ c:Sl,(At b ⟨m.block,m.off + 2 + 1,none⟩ [.slice c.a c.len c.cap])/\
 Zb p λ D=>
 ∃ i:Int,(At b D [.int .i64 i])/\
 Zb g λ E=>
 ∃ s:Option Addr,(At b E [.pointer s])/\
 Zb s λ n=>
 ∃ j:Int,(At b ⟨n.block,n.off + 2,none⟩ [.int .i64 j])/\
 ((0:Int)<=IntKind.i64.wrap (IntKind.i64.wrap (i - 1) - j))/\
 ((IntKind.i64.wrap (IntKind.i64.wrap (i - 1) - j):Int)<=(↑c.cap:Int))/\
 Calls prog 65 #[.slice c.a ((IntKind.i64.wrap (IntKind.i64.wrap (i - 1) - j)).toNat) c.cap] N λ L y=>
 ∃ d:Sl,(L=.returned (.slice d.a d.len d.cap))/\
 (b y)/\
 Zb q λ o=>
 ∃ z:World,((Instr.storeAt 40 (.pointer ((some ⟨o.block,o.off + 2 + 1,none⟩))) (.slice d.a d.len d.cap)).run prog y=.ok () z)/\
 K (.int .i64 k) z)
 (K (.int .i64 k) l)) M
theorem Zvn (a:Option Addr) (b:Option Addr) (K:Value->World->Prop) (w:World) (h:B62 a b K w):Zq prog 62 #[.pointer a,.pointer b] w K:=cq (sk:=.leaf) func62 (by kernel_rfl) (by kernel_rfl) (by kernel_rfl) h
def B27 (o:Option Addr) (n:Int) (K:Value->World->Prop) (w:World):Prop:=
 New (.cells #[.pointer o] 31 (0,0)) (λ d p=>
 New (.cells #[.int .i64 n] 3 (0,0)) (λ c b=>
 ∃ k:Option Addr,(At (λ a=>a=b) ⟨d,0,none⟩ [.pointer k])/\
 Zb k λ e=>
 ∃ l:Bool,(At (λ a=>a=b) ⟨e.block,e.off + 5,none⟩ [.bool l])/\
 Br l
 (K (.int .i64 8) b)
 (∃ f:Int,(At (λ a=>a=b) ⟨c,0,none⟩ [.int .i64 f])/\
 Br (decide (f<1))
 (K (.int .i64 1) b)
 (∃ g:Int,(At (λ a=>a=b) ⟨c,0,none⟩ [.int .i64 g])/\
 Br (decide (g>1099511627776))
 (K (.int .i64 1) b)
 (∃ i:Option Addr,(At (λ a=>a=b) ⟨d,0,none⟩ [.pointer i])/\
 Calls prog 53 #[.pointer i,.func (.func 66) #[] #[.pointer ((some ⟨d,0,none⟩)),.pointer ((some ⟨c,0,none⟩))]] b λ m q=>
 ∃ j:Int,(m=.returned (.int .i64 j))/\
 K (.int .i64 j) q)))) p) w
theorem ZvV (b:Option Addr) (a:Int) (K:Value->World->Prop) (w:World) (h:B27 b a K w):Zq prog 27 #[.pointer b,.int .i64 a] w K:=cq (sk:=.leaf) func27 (by kernel_rfl) (by kernel_rfl) (by kernel_rfl) h
def B66 (i:Option Addr) (j:Option Addr) (K:Value->World->Prop) (w:World):Prop:=
 Drw w λ c z=>
 Zb i λ t=>
 ∃ m:Option Addr,(At c t [.pointer m])/\
 Zb j λ u=>
 ∃ n:Int,(At c u [.int .i64 n])/\
 New (.cells #[.int .i64 3,.int .i64 n] 3 (0,0)) (λ v o=>
 (c o)/\
 Calls prog 64 #[.slice none 0 0,.bool false,.slice ((some ⟨v,0,none⟩)) 2 2] o λ x p=>
 ∃ b:Sl,(x=.returned (.slice b.a b.len b.cap))/\
 (c p)/\
 Calls prog 63 #[.pointer m,.slice b.a b.len b.cap] p λ y d=>
 ∃ e:Int,(y=.returned (.int .i64 e))/\
 (c d)/\
 Br (e==0)
 (Zb i λ r=>
 ∃ k:Option Addr,(At (λ f=>f=d) r [.pointer k])/\
 Zb j λ s=>
 ∃ l:Int,(At (λ f=>f=d) s [.int .i64 l])/\
 Zb k λ g=>
 ∃ q:World,((Instr.storeAt 83 (.pointer ((some ⟨g.block,g.off + 2,none⟩))) (.agg #[.int .i64 (IntKind.i64.wrap (l - 1)),.slice none 0 0])).run prog d=.ok () q)/\
 K (.int .i64 e) q)
 (K (.int .i64 e) d)) z
theorem Zvj (a:Option Addr) (b:Option Addr) (K:Value->World->Prop) (w:World) (h:B66 a b K w):Zq prog 66 #[.pointer a,.pointer b] w K:=cq (sk:=.leaf) func66 (by kernel_rfl) (by kernel_rfl) (by kernel_rfl) h
def B23 (g:Option Addr) (K:Value->World->Prop) (w:World):Prop:=
 New (.cells #[.pointer g] 31 (0,0)) (λ a d=>
 ∃ b:Option Addr,(At (λ f=>f=d) ⟨a,0,none⟩ [.pointer b])/\
 Calls prog 53 #[.pointer b,.func (.func 60) #[] #[.pointer ((some ⟨a,0,none⟩))]] d λ e i=>
 ∃ c:Int,(e=.returned (.int .i64 c))/\
 K (.int .i64 c) i) w
theorem ZvZ (a:Option Addr) (K:Value->World->Prop) (w:World) (h:B23 a K w):Zq prog 23 #[.pointer a] w K:=cq (sk:=.leaf) func23 (by kernel_rfl) (by kernel_rfl) (by kernel_rfl) h
def B60 (b:Option Addr) (K:Value->World->Prop) (w:World):Prop:=
 Drw w λ a x=>
 Zb b λ p=>
 ∃ e:Option Addr,(At a p [.pointer e])/\
 Zb e λ q=>
 ∃ f:Option Addr,(At a (Addr.add q 0) [.pointer f])/\
 Zb b λ r=>
 ∃ g:Option Addr,(At a r [.pointer g])/\
 Calls prog 61 #[.pointer g] x λ t m=>
 ∃ i:Option Addr,(t=.returned (.pointer i))/\
 (a m)/\
 Zb i λ s=>
 ∃ j:Int,∃ k:Int,∃ l:Int,(At a s [.int .i64 j,.int .i64 k,.int .i64 l])/\
 Calls prog 57 #[.agg #[.int .i64 j,.int .i64 k,.int .i64 l]] m λ u n=>
 ∃ c:ByteArray,(u=.returned (.string c))/\
 (a n)/\
 Calls prog 37 #[.pointer f,.string c] n λ v o=>
 ∃ d:Int,(v=.returned (.int .i64 d))/\
 (a o)/\
 K (.int .i64 d) o
theorem Zvp (a:Option Addr) (K:Value->World->Prop) (w:World) (h:B60 a K w):Zq prog 60 #[.pointer a] w K:=cq (sk:=.leaf) func60 (by kernel_rfl) (by kernel_rfl) (by kernel_rfl) h
def B19 (c:Option Addr) (t:Int) (K:Value->World->Prop) (w:World):Prop:=
 Zb c λ s=>
 ∃ u:Bool,(At (λ b=>b=w) ⟨s.block,s.off + 5,none⟩ [.bool u])/\
 Br u
 (K (.int .i64 8) w)
 (Zb c λ n=>
 Calls prog 52 #[.pointer ((some ⟨n.block,n.off + 2,none⟩))] w λ J E=>
 ∃ v:Int,(J=.returned (.int .i64 v))/\
 Br (decide (t>IntKind.i64.wrap (v + 1)))
 (K (.int .i64 7) E)
 (∃ (j:World->Prop) (H:World->Nat),(j  E)/\∀ (V:Env)  (d:World),j  d->
 ∃ (m:World->Prop),(Zb c λ o=>
 ∃ g:Sl,(At (λ b=>b=d) ⟨o.block,o.off + 4,none⟩ [.slice g.a g.len g.cap])/\
 Br (decide ((↑g.len:Int)>1))
 (Zb c λ p=>
 ∃ e:Sl,(At (λ b=>b=d) ⟨p.block,p.off + 4,none⟩ [.slice e.a e.len e.cap])/\
 Rng 1 e.len (Zb e.a λ q=>
 ∃ x:Int,(At (λ b=>b=d) ⟨(q.add (Zah (Int.toNat 1) 3)).block,(q.add (Zah (Int.toNat 1) 3)).off + 1,none⟩ [.int .i64 x])/\
 Br (decide (x<=t))
 (m  d)
 (K (.int .i64 0) d)))
 (K (.int .i64 0) d))/\
 ∀ (X:Env)  (i:World),m  i->
 Zb c λ r=>
 ∃ f:Sl,(At (λ b=>b=i) ⟨r.block,r.off + 4,none⟩ [.slice f.a f.len f.cap])/\
 Rng 0 f.len (Zb f.a λ I=>
 ∃ y:Int,∃ z:Int,∃ A:Int,(At (λ b=>b=i) (Addr.add I (Zah (Int.toNat 0) 3)) [.int .i64 y,.int .i64 z,.int .i64 A])/\
 Calls prog 57 #[.agg #[.int .i64 y,.int .i64 z,.int .i64 A]] i λ L T=>
 ∃ C:ByteArray,(L=.returned (.string C))/\
 Calls prog 56 #[.pointer c,.string C] T λ M U=>
 ∃ D:Value,(M=.returned (D))/\
 Calls prog 53 #[.pointer c,D] U λ N F=>
 ∃ k:Int,(N=.returned (.int .i64 k))/\
 Br (k !=0)
 (K (.int .i64 k) F)
 (Calls prog 58 #[.pointer c] F λ O G=>
 ∃ Q:Option Addr,∃ l:Sl,(O=.returned (.tuple #[.pointer Q,.slice l.a l.len l.cap]))/\
 (j  G)/\H  G<H  d))))
def sk19:Sk:=(.seq .leaf (.seq .leaf (.seq (.block (.loop [] [] [4,5,19,20,21,22,23,24,25,26,27,28,29,30,31,32,33,34,35,36,37,38,39,40,41,42,43,44,45,46,47,48,49,50,51] (.cut [] [] [19,20,21,22,23,24,25,26,27,28,29,30,31,32,33,34,35] .leaf .leaf))) .leaf)))
theorem Zv3 (b:Option Addr) (a:Int) (K:Value->World->Prop) (w:World) (h:B19 b a K w):Zq prog 19 #[.pointer b,.int .i64 a] w K:=cq (sk:=sk19) func19 (by kernel_rfl) (by kernel_rfl) (by kernel_rfl) h
def B65 (c:Sl) (K:Value->World->Prop) (w:World):Prop:=
 Br c.a.isNone
 (K (.slice none 0 0) w)
 (New (.cells #[] 55 (0,0)) (λ e f=>
 ∃ d:World,∃ b:Sl,((Builtin.append_ #[40,40] 40 #[.slice ((some ⟨e,0,none⟩)) 0 0,.slice c.a c.len c.cap]).run prog f=.ok (.slice b.a b.len b.cap) d)/\
 K (.slice b.a b.len b.cap) d) w)
theorem Zvk (b:Sl) (K:Value->World->Prop) (w:World) (h:B65 b K w):Zq prog 65 #[.slice b.a b.len b.cap] w K:=cq (sk:=.leaf) func65 (by kernel_rfl) (by kernel_rfl) (by kernel_rfl) h
def B51 (b:Sl) (e:Value) (K:Value->World->Prop) (w:World):Prop:=
 Calls prog 100 #[.slice b.a b.len b.cap,e] w λ d f=>
 ∃ c:Int,(d=.returned (.int .i64 c))/\
 K (.bool (decide (c >= 0))) f
theorem Zvy (b:Sl) (c:Value) (K:Value->World->Prop) (w:World) (h:B51 b c K w):Zq prog 51 #[.slice b.a b.len b.cap,c] w K:=cq (sk:=.leaf) func51 (by kernel_rfl) (by kernel_rfl) (by kernel_rfl) h
def B100 (f:Sl) (p:Value) (K:Value->World->Prop) (w:World):Prop:=
 ∃ (e:Int->World->Prop) (m:Int->World->Nat),(e 0 w)/\∀ (r:Env) (b:Int) (d:World),e b d->
 Br (decide (b<(↑f.len:Int)))
 (Rng b f.len (Zb f.a λ n=>
 ∃ i:Int,∃ j:Int,∃ k:Int,∃ c:Sl,(At (λ q=>q=d) (Addr.add n (Zah b.toNat 4)) [.int .i64 i,.int .i64 j,.int .i64 k,.slice c.a c.len c.cap])/\
 Zcm prog cl p [.agg #[.int .i64 i,.int .i64 j,.int .i64 k,.slice c.a c.len c.cap]] d λ o g=>
 ∃ l:Bool,(o=.returned (.bool l))/\
 Br l
 (K (.int .i64 b) g)
 ((e (IntKind.i64.wrap (b + 1)) g)/\m (IntKind.i64.wrap (b + 1)) g<m b d)))
 (K (.int .i64 ((-1))) d)
def Zw2:Sk:=(.seq .leaf (.seq (.seq .leaf (.block (.loop [8] [(.int .i64)] [4,5,8,9,10,11,12,13,14,15,16,17,18] .leaf))) .leaf))
theorem Zt9 (b:Sl) (c:Value) (K:Value->World->Prop) (w:World) (h:B100 b c K w):Zq prog 100 #[.slice b.a b.len b.cap,c] w K:=cq (sk:=Zw2) func100 (by kernel_rfl) (by kernel_rfl) (by kernel_rfl) h
end
section
open Go Go.VC Tryz
variable {R R':Cx} {Hs Rest:List HP} {w:World}
theorem _root_.Go.VC.Sat.k1 {A:HP} {R1:List HP} (hw:Sat R Hs w) [a:Zmf A Hs R1]:Sat R [A,VC.tru] w:=Sat.toTru (As:=[A]) (hw.perm a.perm)
theorem _root_.Go.VC.Sat.k2 {A B:HP} {R1 R2:List HP} (hw:Sat R Hs w) [a:Zmf A Hs R1] [b:Zmf B R1 R2]:Sat R [A,B,VC.tru] w:=Sat.toTru (As:=[A,B]) ((hw.perm a.perm).cons λ _ h=>h.perm b.perm)
theorem _root_.Go.VC.ReadsN.eltM {n:Nat} {s:Sl} {α:Type} {E:List α} {g:α->List Value} {S:World->Prop} (h:ReadsN n s (E.map g) S) {k:Nat} (hk:k<E.length) {a:Addr} (ha:s.a=some a):Elt n S a k (g E[k]):=by
 have hr:=h.rngM hk (F:=λ a'=>s.a=some a'->Elt n S a' k (g E[k])) λ a' _ el _=>el;have h3:=hr.out.2.2;unfold Zb at h3;rw [ha] at h3;exact h3 rfl
abbrev DE4:=Sl × Ey
abbrev ZaU (e:DE4):List Value:=[.int .i64 e.2.ix,.int .i64 e.2.tm,.int .i64 e.2.kd,.slice e.1.a e.1.len e.1.cap]
abbrev ZsM (e:DE4):Value:=.agg #[.int .i64 e.2.ix,.int .i64 e.2.tm,.int .i64 e.2.kd,.slice e.1.a e.1.len e.1.cap]
abbrev erE (ds:List DE4):List Ey:=ds.map (·.2)
def DsR (R:Cx) (ds:List DE4):Prop:=∀ e∈ds,SlR R.m e.1 (b8 e.2.dt)
theorem DsR.ext {ds:List DE4} (h:DsR R ds) (e:R.Ext R'):DsR R' ds:=λ x hx=>e.slR (h x hx)
theorem DsR.nil:DsR R []:=λ _ h=>by cases h
theorem DsR.app {a b:List DE4} (ha:DsR R a) (hb:DsR R b):DsR R (a++b):=λ x hx=>(List.mem_append.1 hx).elim (ha x) (hb x)
theorem DsR.one {e:DE4} (h:SlR R.m e.1 (b8 e.2.dt)):DsR R [e]:=λ x hx=>by simp at hx;subst hx;exact h
theorem DsR.take {a:List DE4} (ha:DsR R a) (n:Nat):DsR R (a.take n):=λ x hx=>ha x (List.mem_of_mem_take hx)
theorem DsR.drop {a:List DE4} (ha:DsR R a) (n:Nat):DsR R (a.drop n):=λ x hx=>ha x (List.mem_of_mem_drop hx)
theorem elE:ElN prog 40 40 55 4 48:=⟨underlying40,⟨_,underlying40⟩,by kernel_rfl⟩
theorem elG:ElN prog 84 84 96 3 24:=⟨underlying84,⟨_,underlying84⟩,by kernel_rfl⟩
theorem Zrj (e:DE4):Zac (ZaU e)=true:=rfl
theorem Zhl (ds:List DE4):Zac (ds.map ZaU).flatten=true:=by
 unfold Zac;rw [List.all_eq_true];intro x hx;rw [List.mem_flatten] at hx;obtain ⟨r,hr,hx⟩:=hx;obtain ⟨e,_,rfl⟩:=List.mem_map.1 hr;exact List.all_eq_true.1 (Zrj e) x hx
theorem ZoP (ds:List DE4):Wid 4 (ds.map ZaU):=λ r hr=>by
 obtain ⟨e,_,rfl⟩:=List.mem_map.1 hr;rfl
abbrev Zt (d:Nat) (lim base:Int) (s sg:Sl) (brk:Bool):Obj:=
 .cells [.pointer (some ⟨d,0,none⟩),.int .i64 lim,.int .i64 base,.slice s.a s.len s.cap,.slice sg.a sg.len sg.cap,.bool brk].toArray 86 (0,0)
abbrev ZL (s:Sl) (ds:List DE4):HP:=ZM 4 s 55 (ds.map ZaU)
theorem ZfD {p d:Nat} {lim base:Int} {s sg:Sl} {brk:Bool} (h0:0<=base) (h1:base<=2199023255552) (h2:s.len<=1099511627776) (hw:Sat R Hs w) [tk:Zcy p Hs (Zt d lim base s sg brk) Rest]:
  Zq prog 52 #[.pointer (some ⟨p,2,none⟩)] w λ v w'=>v=.int .i64 (base + s.len)/\Sat R Hs w':=by
 apply Zvx;refine Zv hw λ w hw=>?_;refine Zb.mk rfl ⟨base,(by rw [Zf];exact At.own Ze (by exact ⟨rfl,trivial⟩)),Zb.mk rfl ⟨s,At.own Ze (by exact ⟨rfl,trivial⟩),?_⟩⟩;rw [Zg (by omega) (by omega)];exact ⟨rfl,hw⟩
theorem ZiU {s:Sl} {ds:List DE4} (hr:RoN 4 R s (ds.map ZaU)) (hl:ds.length<=1000000000000) (hw:Sat R Hs w):
  Zq prog 65 #[.slice s.a s.len s.cap] w λ v w'=>∃ t:Sl,v=.slice t.a t.len t.cap/\Sat R (ZL t ds::Hs) w':=by
 apply Zvk;refine Br.mk (λ h=>?_) (λ h=>?_)
 ·have:ds=[]:=by
   cases ds with
   |nil=>rfl
   |cons e ds=>
    obtain ⟨b,off,l,T,fr,ha,_⟩:=hr.mem (by simp);rw [ha] at h;cases h
  subst this;exact ⟨⟨none,0,0⟩,rfl,ZM.nil hw⟩
 ·refine Zd hw λ b w hw=>?_
  have hlen:=hr.len;have hsrc:=Zg0 (P:=prog) ⟨_,underlying40⟩ hw hr (Zhl ds);refine ZbP (b:=b) elE hw hsrc (ZoP ds) (by rw [List.length_map];omega) (by rw [List.length_map];omega) λ t w hw=>?_;exact ⟨t,rfl,hw⟩
end
section
open Go Go.VC Tryz
variable {R R':Cx} {Hs Rest:List HP} {w:World}
theorem Zc2 {P:Program} {n bytes b:Nat} {t1 t2 ty T T':TypeId} {fr:Nat × Nat} {s:Sl} (E:ElN P t1 t2 T n bytes) {rows:List (List Value)} {x:List Value} {K:Sl->World->Prop}
  (hw:Sat R (ZM n s T rows::pts b (.cells x.toArray T' fr)::Hs) w) (hx:x.length=n) (h1:Zac x=true) (hb:2 * (rows.length + 1) * bytes<=281474976710656) (hb':rows.length + 1<=9223372036854775807)
  (k:∀ s' w',Sat R (ZM n s' T (rows++[x])::Hs) w'->K s' w'):
  ∃ w',∃ t:Sl,(Builtin.append_ #[t1,t2] ty #[.slice s.a s.len s.cap,.slice (some ⟨b,0,none⟩) 1 1]).run P w=.ok (.slice t.a t.len t.cap) w'/\K t w':=
 Zcl E hw (Znd E.hk 1 hw hx h1) (λ r hr=>by simp at hr;subst hr;exact hx) hb hb' λ s' w' h=>k s' w' (h.cons λ _ h=>h.drop)
theorem ZdU {r:Nat} {rd:Rd} (hb:∀ x∈rd.bs,0<=x/\x<256) (hw:Sat R (ZdK r rd::Hs) w):
  Zq prog 156 #[.pointer (some ⟨r,0,none⟩)] w λ v w'=>v=.int .i64 (ZE 1099511627777 rd).1/\Sat R (ZdK r (ZE 1099511627777 rd).2::Hs) w':=by
 apply Ztu;refine (Zdp hb hw).use ?_;rintro _ w ⟨rfl,hw⟩;have hv:=Zap (most:=1099511627777) hb (by omega);refine ⟨_,rfl,?_⟩;rw [Zg (by omega) (by omega)];exact ⟨rfl,hw⟩
def Zng (R:Cx) (Hs:List HP) (p d:Nat) (lim base:Int) (sg:Sl) (brk:Bool) (es:List Ey) (o:Option Lg) (v:Value) (w:World):Prop:=
 ∃ R' base' s' ds',R.Ext R'/\DsR R' ds'/\v=.bool o.isSome/\(o.getD ⟨base,es⟩)=⟨base',erE ds'⟩/\Sat R' (pts p (Zt d lim base' s' sg brk)::ZL s' ds'::Hs) w
theorem Zng.no {p d:Nat} {lim base:Int} {s sg:Sl} {brk:Bool} {ds:List DE4} {o:Option Lg} (hd:DsR R ds) (ho:o=none) (hw:Sat R (pts p (Zt d lim base s sg brk)::ZL s ds::Hs) w):Zng R Hs p d lim base sg brk (erE ds) o (.bool false) w:=
 ⟨R,base,s,ds,.refl,hd,by rw [ho];rfl,by rw [ho];rfl,hw⟩
theorem Zng.yes {p d:Nat} {lim base base':Int} {s sg:Sl} {brk:Bool} {ds':List DE4} {es:List Ey} {o:Option Lg} (e:R.Ext R') (hd:DsR R' ds') (ho:o=some ⟨base',erE ds'⟩) (hw:Sat R' (pts p (Zt d lim base' s sg brk)::ZL s ds'::Hs) w):Zng R Hs p d lim base sg brk es o (.bool true) w:=
 ⟨R',base',s,ds',e,hd,by rw [ho];rfl,by rw [ho];rfl,hw⟩
theorem Zng.ext {p d:Nat} {lim base:Int} {sg:Sl} {brk:Bool} {es:List Ey} {o:Option Lg} {v:Value} (e:R.Ext R') (h:Zng R' Hs p d lim base sg brk es o v w):Zng R Hs p d lim base sg brk es o v w:=
 let ⟨R2,b,s,ds,e2,h2⟩:=h;⟨R2,b,s,ds,e.trans e2,h2⟩
theorem ZqP {p d r:Nat} {lim base:Int} {s sg:Sl} {brk:Bool} {ds:List DE4} {rd:Rd} (h0:0<=base) (h1:base<=1099511627776) (hl:ds.length<=100000000000) (hd:DsR R ds) (hb:∀ x∈rd.bs,0<=x/\x<256) (hbl:rd.bs.length<=1099511627776)
  (hw:Sat R (ZdK r rd::pts p (Zt d lim base s sg brk)::ZL s ds::Hs) w):
  Zq prog 158 #[.pointer (some ⟨p,2,none⟩),.pointer (some ⟨r,0,none⟩)] w (Zng R Hs p d lim base sg brk (erE ds) (addR ⟨base,erE ds⟩ rd)):=by
 apply Zts;refine (ZdU hb hw).use ?_;clear hw;rintro _ w ⟨rfl,hw⟩;have hv1:=Zap (most:=1099511627777) hb (by omega);have hb1:=ZaF (most:=1099511627777) hb;have hn1:=Zfw (most:=1099511627777) (rd:=rd);obtain ⟨i,hi⟩:∃ i,i=ZE 1099511627777 rd:=⟨_,rfl⟩;rw [<-hi] at hw hv1 hb1 hn1 ⊢;refine ⟨_,rfl,?_⟩;refine (Zdp hb1 hw).use ?_;clear hw;rintro _ w ⟨rfl,hw⟩;have hv2:=Zap (most:=1099511627776) hb1 (by omega);have hb2:=ZaF (most:=1099511627776) hb1;have hn2:=Zfw (most:=1099511627776) (rd:=i.2);obtain ⟨t,ht⟩:∃ t,t=ZE 1099511627776 i.2:=⟨_,rfl⟩;rw [<-ht] at hw hv2 hb2 hn2 ⊢;refine ⟨_,rfl,?_⟩;refine (Zdp hb2 hw).use ?_;clear hw;rintro _ w ⟨rfl,hw⟩;have hv3:=Zap (most:=7) hb2 (by omega);have hb3:=ZaF (most:=7) hb2;have hn3:=Zfw (most:=7) (rd:=t.2);obtain ⟨k,hk⟩:∃ k,k=ZE 7 t.2:=⟨_,rfl⟩;rw [<-hk] at hw hv3 hb3 hn3 ⊢;refine ⟨_,rfl,Zd hw λ b w hw=>?_⟩;rw [Zg (x:=t.1) (by omega) (by omega),Zg (x:=k.1) (by omega) (by omega)];refine Zc hw (by kernel_rfl) rfl (by simp [Value.cells,Zn]) λ w hw=>?_;have hw:Sat R (ZdK r k.2::pts b (.cells [.int .i64 i.1,.int .i64 t.1,.int .i64 k.1,.slice none 0 0].toArray 55 (0,0))::pts p (Zt d lim base s sg brk)::ZL s ds::Hs) w:=Sat.swap hw;refine (Znx (most:=4096) (by omega) (by omega) hb3 hw).use ?_;clear hw;rintro _ w ⟨sd,rfl,hw⟩;obtain ⟨x,hx⟩:∃ x,x=ZaJ 4096 k.2:=⟨_,rfl⟩;rw [<-hx] at hw;obtain ⟨R1,e1,hsd,hw⟩:=Own.leak hw;have hd:=hd.ext e1;refine ⟨sd,rfl,?_⟩;refine Zc hw (by kernel_rfl) rfl (by simp [Value.cells,Zn]) λ w hw=>?_;have hw:Sat R1 (pts b (.cells [.int .i64 i.1,.int .i64 t.1,.int .i64 k.1,.slice sd.a sd.len sd.cap].toArray 55 (0,0))::ZdK r x.2::pts p (Zt d lim base s sg brk)::ZL s ds::Hs) w:=hw;have eA:addR ⟨base,erE ds⟩ rd=if Zab x.2=true/\i.1<=1099511627776/\i.1=base + (ds.length:Int) + 1 then some ⟨base,erE ds++[⟨i.1,t.1,k.1,x.1⟩]⟩ else none:=by
  subst hx hk ht hi;unfold addR Lg.last;simp only [List.length_map]
 rw [eA];have hsl:s.len=ds.length:=by
  have h2:Sat R1 (ZL s ds::pts b (.cells [.int .i64 i.1,.int .i64 t.1,.int .i64 k.1,.slice sd.a sd.len sd.cap].toArray 55 (0,0))::ZdK r x.2::pts p (Zt d lim base s sg brk)::Hs) w:=hw.arr;have:=ZM.len h2;simpa using this
 have out:∀ {w},¬ (Zab x.2=true/\i.1<=1099511627776/\i.1=base + (ds.length:Int) + 1)->Sat R1 (pts b (.cells [.int .i64 i.1,.int .i64 t.1,.int .i64 k.1,.slice sd.a sd.len sd.cap].toArray 55 (0,0))::ZdK r x.2::pts p (Zt d lim base s sg brk)::ZL s ds::Hs) w->
   Zng R Hs p d lim base sg brk (erE ds) (if Zab x.2=true/\i.1<=1099511627776/\i.1=base + (ds.length:Int) + 1 then some ⟨base,erE ds++[⟨i.1,t.1,k.1,x.1⟩]⟩ else none) (.bool false) w:=λ h hw=>
  .ext e1 (.no hd (if_neg h) hw.drop.drop)
 refine ⟨λ w=>(Zab x.2=true/\i.1<=1099511627776/\i.1=base + (ds.length:Int) + 1)/\Sat R1 (pts b (.cells [.int .i64 i.1,.int .i64 t.1,.int .i64 k.1,.slice sd.a sd.len sd.cap].toArray 55 (0,0))::ZdK r x.2::pts p (Zt d lim base s sg brk)::ZL s ds::Hs) w,?_,?_⟩
 ·refine Zv hw λ w hw=>?_
  refine (ZeE hw.swap).use ?_;clear hw;rintro _ w ⟨rfl,hw⟩;have hw:=hw.swap;refine ⟨_,rfl,hw,Br.nb (λ h=>out (λ h2=>by rw [h] at h2;cases h2.1) hw) (λ h=>?_)⟩;refine ⟨_,At.own Ze (by exact ⟨rfl,trivial⟩),Br.d (λ h2=>out (λ h3=>by omega) hw) (λ h2=>?_)⟩;refine ⟨_,At.own Ze (by exact ⟨rfl,trivial⟩),?_⟩;refine (ZfD (p:=p) h0 (by omega) (by omega) hw).use ?_;clear hw;rintro _ w ⟨rfl,hw⟩;refine ⟨_,rfl,hw,?_⟩;rw [Zg (by omega) (by omega),hsl];exact Br.ne (λ h3=>out (λ h4=>h3 h4.2.2) hw) (λ h3=>⟨⟨h,by omega,h3⟩,hw⟩)
 ·clear hw
  rintro _ w ⟨hc,hw⟩;refine Zs (Sat R1 [pts b (.cells [.int .i64 i.1,.int .i64 t.1,.int .i64 k.1,.slice sd.a sd.len sd.cap].toArray 55 (0,0)),pts p (Zt d lim base s sg brk),VC.tru]) hw (λ w hw=>hw.k2) λ w hw=>?_;refine Zb.mk rfl ⟨s,At.own Ze (by exact ⟨rfl,trivial⟩),i.1,t.1,k.1,sd,At.own Ze (by exact ⟨rfl,rfl,rfl,rfl,trivial⟩),Zd hw λ b2 w hw=>⟨hw.k2,?_⟩⟩;have hw:Sat R1 (ZL s ds::pts b2 (.cells (ZaU (sd,⟨i.1,t.1,k.1,x.1⟩)).toArray 55 (0,0))::pts b (.cells [.int .i64 i.1,.int .i64 t.1,.int .i64 k.1,.slice sd.a sd.len sd.cap].toArray 55 (0,0))::ZdK r x.2::pts p (Zt d lim base s sg brk)::Hs) w:=hw.arr;refine Zc2 elE hw rfl rfl (by rw [List.length_map];omega) (by rw [List.length_map];omega) λ s2 w hw=>?_;have hw:Sat R1 (pts p (Zt d lim base s sg brk)::pts b (.cells [.int .i64 i.1,.int .i64 t.1,.int .i64 k.1,.slice sd.a sd.len sd.cap].toArray 55 (0,0))::ZdK r x.2::ZM 4 s2 55 (ds.map ZaU++[ZaU (sd,⟨i.1,t.1,k.1,x.1⟩)])::Hs) w:=hw.arr;refine ⟨hw.k2,Zb.mk rfl ?_⟩;refine Zc hw (by kernel_rfl) rfl (by simp [Value.cells,Zn]) λ w hw=>?_;have hw:Sat R1 (pts p (Zt d lim base s2 sg brk)::pts b (.cells [.int .i64 i.1,.int .i64 t.1,.int .i64 k.1,.slice sd.a sd.len sd.cap].toArray 55 (0,0))::ZdK r x.2::ZM 4 s2 55 (ds.map ZaU++[ZaU (sd,⟨i.1,t.1,k.1,x.1⟩)])::Hs) w:=hw;refine .yes (base':=base) (ds':=ds++[(sd,⟨i.1,t.1,k.1,x.1⟩)]) (s:=s2) e1 (hd.app (.one hsd)) ?_ ?_
  ·rw [if_pos hc];simp [erE]
  ·unfold ZL;rw [List.map_append];exact hw.cons λ _ h=>h.drop.drop
end
section
open Go Go.VC Tryz
variable {R R':Cx} {Hs Rest:List HP} {w:World}
theorem Zqm {p d r:Nat} {lim base:Int} {s sg:Sl} {brk:Bool} {ds:List DE4} {rd:Rd} (h0:0<=base) (h1:base<=1099511627776) (hl:ds.length<=100000000000) (hd:DsR R ds) (hb:∀ x∈rd.bs,0<=x/\x<256)
  (hw:Sat R (ZdK r rd::pts p (Zt d lim base s sg brk)::ZL s ds::Hs) w):
  Zq prog 159 #[.pointer (some ⟨p,2,none⟩),.pointer (some ⟨r,0,none⟩)] w (Zng R Hs p d lim base sg brk (erE ds) (ZoI ⟨base,erE ds⟩ rd)):=by
 apply Ztr;refine (ZdU hb hw).use ?_;clear hw;rintro _ w ⟨rfl,hw⟩;have hv1:=Zap (most:=1099511627777) hb (by omega);obtain ⟨i,hi⟩:∃ i,i=ZE 1099511627777 rd:=⟨_,rfl⟩;rw [<-hi] at hw hv1 ⊢;have eA:ZoI ⟨base,erE ds⟩ rd=if Zab i.2=true/\1<=i.1 then some (Zfe ⟨base,erE ds⟩ i.1) else none:=by
  subst hi;rfl
 rw [eA];have hsl:s.len=ds.length:=by
  have h2:Sat R (ZL s ds::ZdK r i.2::pts p (Zt d lim base s sg brk)::Hs) w:=hw.arr;have:=ZM.len h2;simpa using this
 have hcap:s.len<=s.cap:=by
  have h2:Sat R (ZL s ds::ZdK r i.2::pts p (Zt d lim base s sg brk)::Hs) w:=hw.arr;exact ZM.cap (by omega) h2
 refine ⟨_,rfl,λ b w=>b=!(Zab i.2 && decide (1<=i.1))/\Sat R (pts p (Zt d lim base s sg brk)::ZL s ds::Hs) w,?_,?_⟩
 ·refine (ZeE hw).use ?_
  clear hw;rintro _ w ⟨rfl,hw⟩;have hw:=hw.drop;refine ⟨_,rfl,Br.nb (λ h=>⟨by rw [h];rfl,hw⟩) (λ h=>⟨?_,hw⟩)⟩;rw [h,Bool.true_and,<-decide_not];exact decide_eq_decide.2 (by omega)
 clear hw;rintro _ _ w ⟨rfl,hw⟩;refine Br.nb (λ h=>?_) (λ h=>?_)
 ·refine .no hd (if_neg (λ h2=>?_)) hw
  rw [h2.1,Bool.true_and,decide_eq_false_iff_not] at h;exact h h2.2
 rw [Bool.and_eq_true,decide_eq_true_eq] at h;rw [if_pos h];refine Zb.mk rfl ⟨base,(by rw [Zf];exact At.own (eqS hw) (by exact ⟨rfl,trivial⟩)),Br.d (λ hc=>?_) (λ hc=>?_)⟩
 ·refine Zb.mk rfl ?_
  rw [Zg (by omega) (by omega)];refine Zc hw (by kernel_rfl) rfl (by simp [Value.cells,Zn]) λ w hw=>?_;have hw:Sat R (pts p (Zt d lim (i.1 - 1) ⟨none,0,0⟩ sg brk)::ZL s ds::Hs) w:=hw;refine .yes (base':=i.1 - 1) (s:=⟨none,0,0⟩) (ds':=[]) .refl .nil ?_ (hw.cons λ _ h=>ZM.nil h.drop);unfold Zfe;rw [if_pos hc];rfl
 ·refine (ZfD (p:=p) h0 (by omega) (by omega) hw).use ?_
  clear hw;rintro _ w ⟨rfl,hw⟩;refine ⟨_,rfl,Br.d (λ hc2=>?_) (λ hc2=>?_)⟩
  ·have w1:IntKind.i64.wrap (IntKind.i64.wrap (i.1 - 1) - base)=i.1 - 1 - base:=by rw [Zg (x:=i.1 - 1) (by omega) (by omega),Zg (by omega) (by omega)]
   have hn:(i.1 - 1 - base).toNat<=ds.length:=by omega
   refine Zs (Sat R [pts p (Zt d lim base s sg brk),VC.tru]) hw (λ w hw=>hw.k1) λ w hw=>?_;refine Zb.mk rfl ⟨s,At.own Ze (by exact ⟨rfl,trivial⟩),Zb.mk rfl ⟨base,(by rw [Zf];exact At.own Ze (by exact ⟨rfl,trivial⟩)),?_⟩⟩;rw [w1];refine ⟨by omega,by omega,?_⟩;obtain ⟨R1,hr,⟨x,hx⟩,hw,back⟩:=ZM.lend hw.swap;have hr2:=hr.take (h:=(i.1 - 1 - base).toNat) (by rw [List.length_map];exact hn) s.cap;rw [<-List.map_take] at hr2;refine (ZiU hr2 (by rw [List.length_take];omega) hw).use ?_;clear hw;rintro _ w ⟨t,rfl,hw⟩;have hw:=back hw;have hw:Sat R (pts p (Zt d lim base s sg brk)::ZL t (ds.take (i.1 - 1 - base).toNat)::ZL s ds::Hs) w:=hw.arr;refine ⟨t,rfl,hw.k1,Zb.mk rfl ?_⟩;refine Zc hw (by kernel_rfl) rfl (by simp [Value.cells,Zn]) λ w hw=>?_;have hw:Sat R (pts p (Zt d lim base t sg brk)::ZL t (ds.take (i.1 - 1 - base).toNat)::ZL s ds::Hs) w:=hw;refine .yes (base':=base) (s:=t) (ds':=ds.take (i.1 - 1 - base).toNat) .refl (hd.take _) ?_ (hw.cons λ _ h=>h.cons λ _ h=>h.drop);unfold Zfe;rw [if_neg hc,if_pos (by unfold Lg.last;simp only [List.length_map];omega)];simp [erE]
  ·refine .yes (base':=base) (s:=s) (ds':=ds) .refl hd ?_ hw
   unfold Zfe;rw [if_neg hc,if_neg (by unfold Lg.last;simp only [List.length_map];omega)]
theorem Zls {p d r:Nat} {lim base:Int} {s sg:Sl} {brk:Bool} {ds:List DE4} {rd:Rd} (hd:DsR R ds) (hb:∀ x∈rd.bs,0<=x/\x<256)
  (hw:Sat R (ZdK r rd::pts p (Zt d lim base s sg brk)::ZL s ds::Hs) w):
  Zq prog 160 #[.pointer (some ⟨p,2,none⟩),.pointer (some ⟨r,0,none⟩)] w (Zng R Hs p d lim base sg brk (erE ds) (Zd4 ⟨base,erE ds⟩ rd)):=by
 apply Ztq;refine (ZdU hb hw).use ?_;clear hw;rintro _ w ⟨rfl,hw⟩;have hv1:=Zap (most:=1099511627777) hb (by omega);obtain ⟨i,hi⟩:∃ i,i=ZE 1099511627777 rd:=⟨_,rfl⟩;rw [<-hi] at hw hv1 ⊢;have eA:Zd4 ⟨base,erE ds⟩ rd=if Zab i.2=true/\1<=i.1 then some ⟨i.1 - 1,[]⟩ else none:=by
  subst hi;rfl
 rw [eA];refine ⟨_,rfl,(ZeE hw).use ?_⟩;clear hw;rintro _ w ⟨rfl,hw⟩;have hw:=hw.drop;refine ⟨_,rfl,Br.nb (λ h=>.no hd (if_neg (λ h2=>by rw [h] at h2;cases h2.1)) hw) (λ h=>Br.d (λ h2=>.no hd (if_neg (λ h3=>by omega)) hw) (λ h2=>?_))⟩;rw [if_pos ⟨h,by omega⟩,Zg (by omega) (by omega)];refine Zb.mk rfl ?_;refine Zc hw (by kernel_rfl) rfl (by simp [Value.cells,Zn]) λ w hw=>?_;have hw:Sat R (pts p (Zt d lim (i.1 - 1) ⟨none,0,0⟩ sg brk)::ZL s ds::Hs) w:=hw;exact .yes (base':=i.1 - 1) (s:=⟨none,0,0⟩) (ds':=[]) .refl .nil rfl (hw.cons λ _ h=>ZM.nil h.drop)
theorem ZkV {p d r:Nat} {lim base:Int} {s sg:Sl} {brk:Bool} {ds:List DE4} {rd:Rd} (h0:0<=base) (h1:base<=1099511627776) (hl:ds.length<=100000000000) (hd:DsR R ds) (hb:∀ x∈rd.bs,0<=x/\x<256) (hbl:rd.bs.length<=1099511627776)
  (hw:Sat R (ZdK r rd::pts p (Zt d lim base s sg brk)::ZL s ds::Hs) w):
  Zq prog 110 #[.pointer (some ⟨p,2,none⟩),.pointer (some ⟨r,0,none⟩)] w (Zng R Hs p d lim base sg brk (erE ds) (Zau ⟨base,erE ds⟩ rd)):=by
 apply Zt1;refine (Zdp hb hw).use ?_;clear hw;rintro _ w ⟨rfl,hw⟩;have hb1:=ZaF (most:=3) hb;have hn1:=Zfw (most:=3) (rd:=rd);obtain ⟨k,hk⟩:∃ k,k=ZE 3 rd:=⟨_,rfl⟩;rw [<-hk] at hw hb1 hn1 ⊢;have eA:Zau ⟨base,erE ds⟩ rd=if k.1=1 then addR ⟨base,erE ds⟩ k.2 else if k.1=2 then ZoI ⟨base,erE ds⟩ k.2 else if k.1=3 then Zd4 ⟨base,erE ds⟩ k.2 else none:=by
  subst hk;rfl
 rw [eA];have out:∀ {o:Option Lg} {v:Value} {w:World},Zng R Hs p d lim base sg brk (erE ds) o v w->∃ t:Bool,Ending.returned v=.returned (.bool t)/\Zng R Hs p d lim base sg brk (erE ds) o (.bool t) w:=λ h=>by
  have h':=h;obtain ⟨_,_,_,_,_,_,rfl,_,_⟩:=h';exact ⟨_,rfl,h⟩
 refine ⟨_,rfl,Br.e (λ h=>?_) (λ h=>?_)⟩
 ·rw [if_pos h]
  exact (ZqP h0 h1 hl hd hb1 (by omega) hw).use λ v w h=>out h
 rw [if_neg h];refine Br.e (λ h=>?_) (λ h=>?_)
 ·rw [if_pos h]
  exact (Zqm h0 h1 hl hd hb1 hw).use λ v w h=>out h
 rw [if_neg h];refine Br.e (λ h=>?_) (λ h=>?_)
 ·rw [if_pos h]
  exact (Zls hd hb1 hw).use λ v w h=>out h
 rw [if_neg h];exact .no hd rfl hw.drop
theorem ZpX {s:Sl} {b:List Int} {n:Int} (hb:∀ x∈b,0<=x/\x<256) (hl:b.length<=1099511627776) (hs:Ro R s (b8 b)) (hw:Sat R Hs w):
  Zq prog 109 #[.slice s.a s.len s.cap,.int .i64 n] w λ v w'=>v=.int .i64 (ZeT b n)/\Sat R Hs w':=by
 apply Zt2;refine (ZkJ hs hl hw).use ?_;clear hw;rintro _ w ⟨r,rfl,hw⟩;refine ⟨_,rfl,(Zdp (rd:=⟨b,false⟩) hb hw).use ?_⟩;clear hw;rintro _ w ⟨rfl,hw⟩;have hb1:=ZaF (most:=0) (rd:=⟨b,false⟩) hb;refine ⟨_,rfl,(Zdp hb1 hw).use ?_⟩;clear hw;rintro _ w ⟨rfl,hw⟩;have hv2:=Zap (most:=99999999) hb1 (by omega);have hb2:=ZaF (most:=99999999) hb1;refine ⟨_,rfl,(ZdU hb2 hw).use ?_⟩;clear hw;rintro _ w ⟨rfl,hw⟩;refine ⟨_,rfl,(ZeE hw).use ?_⟩;clear hw;rintro _ w ⟨rfl,hw⟩;have hw:=hw.drop;rw [Zg (by omega) (by omega)];unfold ZeT;simp only;refine ⟨_,rfl,Br.nb (λ h=>?_) (λ h=>Br.ne (λ h2=>?_) (λ h2=>?_))⟩
 ·rw [if_neg (λ h2=>by rw [h] at h2;cases h2.1)];exact ⟨rfl,hw⟩
 ·rw [if_neg (λ h3=>h2 h3.2)];exact ⟨rfl,hw⟩
 ·rw [if_pos ⟨h,h2⟩];exact ⟨rfl,hw⟩
end
end Go.Proofs.YtkfedbncmfnpnaaGreatDoor
namespace Go.VC
section
open Go
def Zdv (c:Int):Bool:=decide (48<=c) && decide (c<=57)
abbrev Zuk:List UInt8:=[119,97,108,45]
theorem Zpn {k:ByteArray}:Lib.hasPrefix k.data.toList Zuk=true↔(bytesL k).take 4=[119,97,108,45]:=by
 unfold Lib.hasPrefix bytesL;rw [List.isPrefixOf_iff_prefix];constructor
 ·rintro ⟨t,ht⟩
  rw [<-ht];rfl
 ·intro h
  rw [<-List.map_take] at h;have:k.data.toList.take 4=Zuk:=by
   generalize k.data.toList.take 4=l at h;have hinj:∀ (a b:List UInt8),a.map (λ c=>(c.toNat:Int))=b.map (λ c=>(c.toNat:Int))->a=b:=λ a=>by
    induction a with
    |nil=>intro b h;cases b with|nil=>rfl|cons=>cases h
    |cons x a ih=>
     intro b h;cases b with
     |nil=>cases h
     |cons y b=>
      simp only [List.map_cons,List.cons.injEq] at h;rw [ih b h.2]
      congr 1
      exact UInt8.toNat_inj.1 (by omega)
   exact hinj l Zuk h
  rw [<-this];exact List.take_prefix ..
theorem Zrm {k:ByteArray} (h:Lib.hasPrefix k.data.toList Zuk=false):Zeb (bytesL k)=0:=by
 unfold Zeb;rw [if_neg];rintro ⟨h1,_⟩;rw [<-Zpn] at h1;rw [h1] at h;cases h
theorem Zl6 (k:ByteArray):bytesL ⟨(k.data.toList.drop 4).toArray⟩=(bytesL k).drop 4:=by
 unfold bytesL;simp
theorem Zro {k:ByteArray} (h:(k.data.toList.drop 4).length≠8):Zeb (bytesL k)=0:=by
 unfold Zeb;rw [if_neg];rintro ⟨_,h2,_⟩;rw [Zbe] at h2;have hs:k.data.toList.length=k.size:=Array.length_toList;rw [List.length_drop] at h;omega
theorem Zrn {k:ByteArray} (h:((bytesL k).drop 4).all Zdv=false):Zeb (bytesL k)=0:=by
 unfold Zeb;rw [if_neg];rintro ⟨_,_,h3⟩;unfold Zdv at h;rw [h] at h3;cases h3
theorem Zqj:∀ (l:List UInt8) (acc:Nat),(l.map (λ c=>(c.toNat:Int))).all Zdv=true->Lib.decFrom acc l=some ((l.map (λ c=>(c.toNat:Int))).foldl (λ n c=>n * 10 + (c - 48)) (acc:Int)).toNat/\0<=(l.map (λ c=>(c.toNat:Int))).foldl (λ n c=>n * 10 + (c - 48)) (acc:Int)
 |[],acc,_=>by simp [Lib.decFrom]
 |b::l,acc,h=>by
  simp only [List.map_cons,List.all_cons,Bool.and_eq_true] at h;have hb:=h.1;unfold Zdv at hb;simp only [Bool.and_eq_true,decide_eq_true_eq] at hb;unfold Lib.decFrom;have:Lib.digitVal b=some (b.toNat - 48):=by unfold Lib.digitVal;rw [if_pos (by omega)]
  rw [this];simp only [List.map_cons,List.foldl_cons];have:=Zqj l (acc * 10 + (b.toNat - 48)) h.2;have e:((acc * 10 + (b.toNat - 48):Nat):Int)=(acc:Int) * 10 + ((b.toNat:Int) - 48):=by omega
  rw [e] at this;exact this
theorem ZpA {k:ByteArray} (h:Lib.hasPrefix k.data.toList Zuk=true) (hl:(k.data.toList.drop 4).length=8) (hd:((bytesL k).drop 4).all Zdv=true):Lib.atoi (k.data.toList.drop 4)=some (Zeb (bytesL k):Int):=by
 have e:(bytesL k).drop 4=(k.data.toList.drop 4).map (λ c=>(c.toNat:Int)):=by unfold bytesL;simp
 have hn:Zeb (bytesL k)=(Zfk ((bytesL k).drop 4)).toNat:=by
  unfold Zeb;rw [if_pos];refine ⟨Zpn.1 h,?_,hd⟩;rw [Zbe];have hs:k.data.toList.length=k.size:=Array.length_toList;rw [List.length_drop] at hl;omega
 rw [hn,e];rw [e] at hd;generalize k.data.toList.drop 4=l at hl hd;cases l with
 |nil=>cases hl
 |cons b l=>
  have hv:=Zqj (b::l) 0 hd;have hb:48<=b.toNat:=by
   simp only [List.map_cons,List.all_cons,Bool.and_eq_true,Zdv,decide_eq_true_eq] at hd;omega
  have n1:(b==45)=false:=by
   rw [beq_eq_false_iff_ne];rintro rfl;revert hb;decide
  have n2:(b==43)=false:=by
   rw [beq_eq_false_iff_ne];rintro rfl;revert hb;decide
  unfold Lib.atoi;simp only [n1,n2,Bool.false_eq_true,if_false];unfold Lib.decNat;rw [if_neg (by simp),hv.1];simp only [Option.map_some];rfl
theorem ZdP {l:List Int}:Zeb l<100000000:=by
 unfold Zeb;split
 ·rename_i h
  obtain ⟨_,h2,h3⟩:=h;have hl:(l.drop 4).length=8:=by simp;omega
  generalize l.drop 4=m at hl h3
  match m,hl with
  |[a,b,c,d,e,f,g,h],_=>
   simp only [List.all_cons,List.all_nil,Bool.and_true,Bool.and_eq_true,decide_eq_true_eq] at h3;unfold Zfk;simp only [List.foldl_cons,List.foldl_nil];omega
 ·omega
end
end Go.VC
namespace Go.Proofs.YtkfedbncmfnpnaaGreatDoor
section
open Go Go.VC Tryz
variable {R R':Cx} {Hs Rest:List HP} {w:World}
theorem Zrk (c:Int) (hw:Sat R Hs w):Zq prog 151 #[.int .i32 c] w λ v w'=>v=.bool (!Zdv c)/\Sat R Hs w':=by
 apply Zty;unfold Zdv;refine Br.d (λ h=>⟨?_,hw⟩) (λ h=>⟨?_,hw⟩)
 ·simp;omega
 ·congr 1
  rw [Bool.eq_iff_iff];simp;omega
theorem ZlO {s:ByteArray} (hsz:s.size<=1099511627776) (hw:Sat R Hs w):Zq prog 215 #[.string s,.func (.func 151) #[] #[],.bool true] w λ v w'=>(∃ n:Int,v=.int .i64 n/\(0<=n↔(bytesL s).all Zdv=false))/\Sat R Hs w':=by
 apply Zs0;refine Zd hw λ b w hw=>⟨λ w=>∃ pos,pos<=s.size/\(∀ x∈(bytesL s).take pos,Zdv x=true)/\Sat R (pts b (.stringIter s pos)::Hs) w,λ w=>Zle b w,⟨0,by omega,by simp,hw⟩,?_⟩;clear hw;rintro _ w ⟨pos,hp,hd,hw⟩;have hl:=Zbe s;have hmu:=Zij hw;refine ZnR hw (λ hlt w hw=>?_) (λ hn=>?_)
 ·have hg:=ZqB hlt
  have odd:∀ {c:Int} {w:World},Zdv ((bytesL s)[pos]'(by omega))=false->Sat R Hs w->(∃ n:Int,Value.int .i64 (pos:Int)=.int .i64 n/\(0<=n↔(bytesL s).all Zdv=false))/\Sat R Hs w:=λ {c w} h hw=>by
   refine ⟨⟨_,rfl,?_⟩,hw⟩;refine ⟨λ _=>?_,λ _=>by omega⟩;rw [List.all_eq_false];exact ⟨_,List.getElem_mem _,by rw [h];simp⟩
  refine Zcm.mk (by kernel_rfl) ((Zrk _ hw).use ?_);clear hw;rintro _ w ⟨rfl,hw⟩;refine ⟨_,rfl,?_⟩;by_cases h128:(s.get! pos).toNat<128
  ·rw [ZuM h128] at hw ⊢
   simp only at hw ⊢;rw [hg];cases hdg:Zdv ((bytesL s)[pos]'(by omega)) with
   |false=>exact Br.t rfl (odd (c:=0) hdg hw.drop)
   |true=>
    refine Br.f rfl ⟨⟨pos + 1,by omega,λ x hx=>?_,hw⟩,?_⟩
    ·rw [List.take_add_one,List.getElem?_eq_getElem (by omega)] at hx
     rcases List.mem_append.1 hx with hx|hx
     ·exact hd x hx
     ·simp at hx;rw [hx];exact hdg
    ·rw [Zij hw,hmu];omega
  ·have h:=ZuN h128
   have h2:Zdv ((Utf8.decode s pos).1:Int)=false:=by unfold Zdv;simp;omega
   rw [h2];refine Br.t rfl (odd (c:=0) ?_ hw.drop);rw [<-hg];unfold Zdv;simp;omega
 ·refine ⟨⟨_,rfl,?_⟩,hw.drop⟩
  have:pos=s.size:=by omega
  subst this;rw [<-hl,List.take_length] at hd;have:=List.all_eq_true.2 hd;rw [this];simp
theorem Zic {s:ByteArray} (hsz:s.size<=1099511627776) (hw:Sat R Hs w):Zq prog 152 #[.string s,.func (.func 151) #[] #[]] w λ v w'=>v=.bool (!(bytesL s).all Zdv)/\Sat R Hs w':=by
 apply Ztx;have h1:Zq prog 185 #[.string s,.func (.func 151) #[] #[]] w λ v w'=>(∃ n:Int,v=.int .i64 n/\(0<=n↔(bytesL s).all Zdv=false))/\Sat R Hs w':=by
  apply Ztb;refine (ZlO hsz hw).use ?_;rintro _ w ⟨⟨n,rfl,hn⟩,hw⟩;exact ⟨n,rfl,⟨n,rfl,hn⟩,hw⟩
 refine h1.use ?_;rintro _ w ⟨⟨n,rfl,hn⟩,hw⟩;refine ⟨n,rfl,?_,hw⟩
 congr 1
 cases h:(bytesL s).all Zdv with
 |true=>rw [h] at hn;simp at hn ⊢;omega
 |false=>rw [h] at hn;simp at hn ⊢;omega
abbrev Zk5 (l:List Nat):List Value:=(l.map λ n:Nat=>(n:Int)).map (Value.int .i64)
theorem elI8:El prog 41 41 3 8:=⟨underlying41,⟨_,underlying41⟩,by kernel_rfl⟩
theorem Zhn {l:List ByteArray} {k:Nat} (hk:k<l.length):ZN (l.take (k + 1))=if 0<Zeb (bytesL l[k]) then ZN (l.take k)++[Zeb (bytesL l[k])] else ZN (l.take k):=by
 unfold ZN;rw [List.take_add_one,List.getElem?_eq_getElem hk,List.map_append,List.filter_append];simp only [Option.toList_some,List.map_cons,List.map_nil];split
 ·rename_i h;simp [h]
 ·rename_i h;simp [h]
theorem Zdq (l:List ByteArray):(ZN l).length<=l.length:=by
 unfold ZN;refine Nat.le_trans (List.length_filter_le ..) ?_;simp
theorem Zjs {s:Sl} {l:List ByteArray} (hs:Ro R s (l.map Value.string)) (hl:l.length<=1000000) (hk:∀ k∈l,k.size<=1000) (hw:Sat R Hs w):
  Zq prog 107 #[.slice s.a s.len s.cap] w λ v w'=>∃ t:Sl,v=.slice t.a t.len t.cap/\Sat R (Own t 3 (Zk5 (ZN l))::Hs) w':=by
 have hsl:s.len=l.length:=by have:=hs.len;simpa using this
 apply Zt4;refine ⟨λ o i w=>∃ k:Nat,i=k/\k<=l.length/\Sat R (Own o 3 (Zk5 (ZN (l.take k)))::Hs) w,λ _ i _=>l.length - i.toNat,⟨0,rfl,by omega,Own.nil hw⟩,?_⟩;clear hw;rintro _ o _ w ⟨k,rfl,hkl,hw⟩;refine Br.d (λ h=>?_) (λ h=>?_)
 ·have hk':k<l.length:=by omega
  have hsz:=hk l[k] (List.getElem_mem _);refine hs.idxStr (eqS hw) hk' ?_;have w1:IntKind.i64.wrap ((k:Int) + 1)=((k + 1:Nat):Int):=by rw [Zg (by omega) (by omega)];omega
  rw [w1];have eT:=Zhn hk';have skip:Zeb (bytesL l[k])=0->∀ {w},Sat R (Own o 3 (Zk5 (ZN (l.take k)))::Hs) w->
    (∃ j:Nat,((k + 1:Nat):Int)=j/\j<=l.length/\Sat R (Own o 3 (Zk5 (ZN (l.take j)))::Hs) w)/\l.length - ((k + 1:Nat):Int).toNat<l.length - ((k:Nat):Int).toNat:=λ h0 {w} hw=>by
   refine ⟨⟨k + 1,rfl,by omega,?_⟩,by omega⟩;rw [eT,h0];exact hw
  refine Calls.mono (Tryz.strings_CutPrefix l[k] (ByteArray.mk #[119,97,108,45]) w) ?_;rintro _ w' ⟨rfl,rfl⟩;refine ⟨_,_,rfl,?_⟩;obtain ⟨r,hr⟩:∃ r:ByteArray,r=⟨(l[k].data.toList.drop 4).toArray⟩:=⟨_,rfl⟩;refine ⟨λ w=>(Lib.hasPrefix l[k].data.toList Zuk=true/\(l[k].data.toList.drop 4).length=8/\((bytesL l[k]).drop 4).all Zdv=true)/\Sat R (Own o 3 (Zk5 (ZN (l.take k)))::Hs) w,?_,?_⟩
  ·refine Br.nb (λ h1=>skip (Zrm h1) hw) (λ h1=>?_)
   have ht:Lib.trimPrefix l[k].data.toList (ByteArray.mk #[119,97,108,45]).data.toList=l[k].data.toList.drop 4:=by
    unfold Lib.trimPrefix;rw [if_pos h1];rfl
   rw [ht,<-hr];have hrs:r.size=(l[k].data.toList.drop 4).length:=by
    rw [hr];exact (Array.length_toList ..).symm
   have hrl:(l[k].data.toList.drop 4).length<=1000:=by
    have hs2:l[k].data.toList.length=l[k].size:=Array.length_toList;rw [List.length_drop];omega
   refine Br.ne (λ h2=>skip (Zro (by omega)) hw) (λ h2=>?_);refine (Zic (s:=r) (by omega) hw).use ?_;clear hw;rintro _ w ⟨rfl,hw⟩;have eb:bytesL r=(bytesL l[k]).drop 4:=by rw [hr];exact Zl6 _
   rw [eb];exact ⟨_,rfl,Br.nb (λ h3=>skip (Zrn h3) hw) (λ h3=>⟨⟨h1,by omega,h3⟩,hw⟩)⟩
  ·clear hw
   rintro _ w ⟨⟨h1,h2,h3⟩,hw⟩;have ht:Lib.trimPrefix l[k].data.toList (ByteArray.mk #[119,97,108,45]).data.toList=l[k].data.toList.drop 4:=by
    unfold Lib.trimPrefix;rw [if_pos h1];rfl
   have hlt:=ZdP (l:=bytesL l[k]);have hat:Lib.atoi r.data.toList=some (Zeb (bytesL l[k]):Int):=by rw [hr];exact ZpA h1 h2 h3
   have hrs:r.size=8:=by
    rw [hr,<-h2];exact (Array.length_toList ..).symm
   rw [ht,<-hr];refine Calls.mono (Tryz.strconv_Atoi r _ (by omega) hat w) ?_;rintro _ w' ⟨rfl,t,rfl⟩;have hw:=hw.keeps (Zmi.of_below (Joins.below_bytesWorld _ w 5 t (Nat.le_refl _)));refine ⟨_,_,rfl,Br.d (λ h4=>?_) (λ h4=>skip (by omega) hw)⟩;have hnl:=Zdq (l.take k);rw [List.length_take] at hnl;refine ZnN elI8 (s:=o) hw (by rw [List.length_map];omega) λ s2 w hw=>?_;refine ⟨⟨k + 1,rfl,by omega,?_⟩,by dsimp only;omega⟩;rw [eT,if_pos (by omega)];have e:((ZN (l.take k)).map λ n:Nat=>(n:Int))++[((Zeb (bytesL l[k]):Nat):Int)]=(ZN (l.take k)++[Zeb (bytesL l[k])]).map λ n:Nat=>(n:Int):=by simp
   rw [e] at hw;exact hw
 ·have:k=l.length:=by omega
  subst this;rw [List.take_length] at hw;exact ⟨o,rfl,hw⟩
end
end Go.Proofs.YtkfedbncmfnpnaaGreatDoor
namespace Go.VC
section
variable {rd:Nat->List Int} {prev:Option Nat} {g g1 g2:Lg} {segs:List Sg} {n:Nat} {rest:List Nat} {d:Int}
abbrev nxt (rd:Nat->List Int) (prev:Option Nat) (n:Nat):Int:=ZR prev n (scan (rd n))
theorem ZaO (h:nxt rd prev n=0\/(prev≠none/\nxt rd prev n≠g.last + 1)):Zaq rd prev g segs (n::rest)=⟨g,segs,some ⟨n,nxt rd prev n,0⟩,rest⟩:=by
 conv=>lhs;unfold Zaq
 simp only;rw [if_pos h]
theorem ZbB (h:¬ (nxt rd prev n=0\/(prev≠none/\nxt rd prev n≠g.last + 1))) (hg:(if prev=none then (⟨nxt rd prev n - 1,g.l⟩:Lg) else g)=g1)
  (hr:Zfu g1 (ZH n (nxt rd prev n)).length (scan (rd n)).tail=(g2,some d)):Zaq rd prev g segs (n::rest)=⟨g2,segs++[⟨n,nxt rd prev n,(rd n).length⟩],some ⟨n,nxt rd prev n,d⟩,rest⟩:=by
 subst hg
 conv=>lhs;unfold Zaq
 simp only;rw [if_neg h,hr]
theorem ZbA (h:¬ (nxt rd prev n=0\/(prev≠none/\nxt rd prev n≠g.last + 1))) (hg:(if prev=none then (⟨nxt rd prev n - 1,g.l⟩:Lg) else g)=g1)
  (hr:Zfu g1 (ZH n (nxt rd prev n)).length (scan (rd n)).tail=(g2,none)) (he:Zo (scan (rd n))=(rd n).length):Zaq rd prev g segs (n::rest)=Zaq rd (some n) g2 (segs++[⟨n,nxt rd prev n,(rd n).length⟩]) rest:=by
 subst hg
 conv=>lhs;unfold Zaq
 simp only;rw [if_neg h,hr];simp only;rw [if_pos he]
theorem Zci (h:¬ (nxt rd prev n=0\/(prev≠none/\nxt rd prev n≠g.last + 1))) (hg:(if prev=none then (⟨nxt rd prev n - 1,g.l⟩:Lg) else g)=g1)
  (hr:Zfu g1 (ZH n (nxt rd prev n)).length (scan (rd n)).tail=(g2,none)) (he:Zo (scan (rd n))≠(rd n).length):Zaq rd prev g segs (n::rest)=⟨g2,segs++[⟨n,nxt rd prev n,(rd n).length⟩],some ⟨n,nxt rd prev n,Zo (scan (rd n))⟩,rest⟩:=by
 subst hg
 conv=>lhs;unfold Zaq
 simp only;rw [if_neg h,hr];simp only;rw [if_neg he]
theorem Zdr {l:List (List Int)} (h:0<l.length) (hor:prev=none\/prev.map (· + 1)=some n):ZR prev n l=ZeT l[0] n:=by
 cases l with
 |nil=>simp at h
 |cons a l=>unfold ZR;simp only;rw [if_pos hor];rfl
theorem Zpz (hb:∀ x∈rd n,0<=x/\x<256) (hs:∀ b∈scan (rd n),∀ x∈b,0<=x/\x<256):0<=nxt rd prev n/\nxt rd prev n<=1099511627777:=by
 unfold nxt ZR;split
 ·omega
 ·rename_i h t he
  split
  ·have hh:∀ x∈h,0<=x/\x<256:=hs h (by rw [he];exact List.mem_cons_self ..)
   have key:∀ (most:Int) (r:Rd),0<=most->(∀ x∈r.bs,0<=x/\x<256)->(0<=(ZE most r).1/\(ZE most r).1<=most)/\∀ x∈(ZE most r).2.bs,0<=x/\x<256:=λ most r hm hb=>by
    unfold ZE;split
    ·exact ⟨⟨by simp,hm⟩,hb⟩
    ·split
     ·rename_i n neg k hp
      have:=Zc3 hb hp;split
      ·rename_i hc;exact ⟨⟨this.1,hc.2⟩,λ x hx=>hb x (List.mem_of_mem_drop hx)⟩
      ·exact ⟨⟨by simp,hm⟩,hb⟩
     ·exact ⟨⟨by simp,hm⟩,hb⟩
   unfold ZeT;simp only;obtain ⟨_,h1⟩:=key 0 ⟨h,false⟩ (by omega) hh;obtain ⟨_,h2⟩:=key 99999999 _ (by omega) h1;obtain ⟨h3,_⟩:=key 1099511627777 _ (by omega) h2;split<;>omega
  ·omega
theorem Zpf (most:Int) (r:Rd) (hm:0<=most) (hb:∀ x∈r.bs,0<=x/\x<256):(0<=(ZE most r).1/\(ZE most r).1<=most)/\∀ x∈(ZE most r).2.bs,0<=x/\x<256:=by
 unfold ZE;split
 ·exact ⟨⟨by simp,hm⟩,hb⟩
 ·split
  ·rename_i n neg k hp
   have:=Zc3 hb hp;split
   ·rename_i hc;exact ⟨⟨this.1,hc.2⟩,λ x hx=>hb x (List.mem_of_mem_drop hx)⟩
   ·exact ⟨⟨by simp,hm⟩,hb⟩
  ·exact ⟨⟨by simp,hm⟩,hb⟩
theorem ZfP {g g':Lg} {b:List Int} (h:ZV g b=some g') (hb:0<=g.base/\g.base<=1099511627776) (hx:∀ x∈b,0<=x/\x<256):0<=g'.base/\g'.base<=1099511627776/\g'.l.length<=g.l.length + 1:=by
 have h0:=Zpf 3 ⟨b,false⟩ (by omega) hx;have h1:=Zpf 1099511627777 _ (by omega) h0.2;unfold ZV Zau at h;simp only at h;split at h
 ·unfold addR at h
  simp only at h;split at h
  ·cases h;simp;exact hb
  ·cases h
 ·split at h
  ·unfold ZoI at h
   simp only at h;split at h
   ·cases h
    unfold Zfe;split
    ·simp;omega
    ·split
     ·simp only [List.length_take];omega
     ·omega
   ·cases h
  ·split at h
   ·unfold Zd4 at h
    simp only at h;split at h
    ·cases h;simp;omega
    ·cases h
   ·cases h
theorem Zht {rd:Nat->List Int}:∀ {nums:List Nat} {prev:Option Nat} {g:Lg} {segs:List Sg},(∀ s,(Zaq rd prev g segs nums).amiss=some s->s.num∈nums)/\∀ n∈(Zaq rd prev g segs nums).behind,n∈nums:=λ {nums}=>by
 induction nums with
 |nil=>intro prev g segs;unfold Zaq;exact ⟨λ _ h=>(by cases h),λ _ h=>(by cases h)⟩
 |cons n rest ih=>
  intro prev g segs;by_cases h:nxt rd prev n=0\/(prev≠none/\nxt rd prev n≠g.last + 1)
  ·rw [ZaO h]
   exact ⟨λ s hs=>(by cases hs;exact List.mem_cons_self ..),λ m hm=>List.mem_cons_of_mem _ hm⟩
  ·rcases hr:Zfu (if prev=none then (⟨nxt rd prev n - 1,g.l⟩:Lg) else g) (ZH n (nxt rd prev n)).length (scan (rd n)).tail with ⟨g2,o⟩
   cases o with
   |some d=>
    rw [ZbB h rfl hr];exact ⟨λ s hs=>(by cases hs;exact List.mem_cons_self ..),λ m hm=>List.mem_cons_of_mem _ hm⟩
   |none=>
    by_cases he:Zo (scan (rd n))=(rd n).length
    ·rw [ZbA h rfl hr he]
     obtain ⟨h1,h2⟩:=ih (prev:=some n) (g:=g2) (segs:=segs++[⟨n,nxt rd prev n,((rd n).length:Int)⟩]);exact ⟨λ s hs=>List.mem_cons_of_mem _ (h1 s hs),λ m hm=>List.mem_cons_of_mem _ (h2 m hm)⟩
    ·rw [Zci h rfl hr he]
     exact ⟨λ s hs=>(by cases hs;exact List.mem_cons_self ..),λ m hm=>List.mem_cons_of_mem _ hm⟩
theorem ZiC {rd:Nat->List Int}:∀ {nums:List Nat} {prev:Option Nat} {g:Lg} {segs:List Sg},(Zaq rd prev g segs nums).behind.length<=nums.length:=λ {nums}=>by
 induction nums with
 |nil=>intro prev g segs;unfold Zaq;exact Nat.le_refl _
 |cons n rest ih=>
  intro prev g segs;by_cases h:nxt rd prev n=0\/(prev≠none/\nxt rd prev n≠g.last + 1)
  ·rw [ZaO h];simp
  ·rcases hr:Zfu (if prev=none then (⟨nxt rd prev n - 1,g.l⟩:Lg) else g) (ZH n (nxt rd prev n)).length (scan (rd n)).tail with ⟨g2,o⟩
   cases o with
   |some d=>rw [ZbB h rfl hr];simp
   |none=>
    by_cases he:Zo (scan (rd n))=(rd n).length
    ·rw [ZbA h rfl hr he]
     exact Nat.le_trans ih (by simp)
    ·rw [Zci h rfl hr he];simp
theorem Zjz {h:List Int} {n:Nat} (hb:∀ x∈h,0<=x/\x<256) (hx:ZeT h n≠0):h=hdB n (ZeT h n):=by
 unfold ZeT at hx ⊢;simp only at hx ⊢;split at hx
 ·rename_i hc
  rw [if_pos hc];obtain ⟨_,b1⟩:=Zpf 0 ⟨h,false⟩ (by omega) hb;obtain ⟨_,b2⟩:=Zpf 99999999 _ (by omega) b1;obtain ⟨hw,hn⟩:=hc;unfold Zab at hw;simp only [Bool.and_eq_true,Bool.not_eq_true',decide_eq_true_eq] at hw;obtain ⟨f1,g1⟩:=Zhf b2 hw.1;obtain ⟨f2,g2⟩:=Zhf b1 f1;obtain ⟨f3,g3⟩:=Zhf (r:=⟨h,false⟩) hb f2;have z0:(ZE 0 ⟨h,false⟩).1=0:=by obtain ⟨h1,_⟩:=Zpf 0 ⟨h,false⟩ (by omega) hb;omega
  have e0:(ZE 1099511627777 (ZE 99999999 (ZE 0 ⟨h,false⟩).2).2).2.bs=[]:=List.length_eq_zero_iff.1 hw.2;rw [e0,List.append_nil] at g1;rw [g1,hn,Int.toNat_natCast] at g2;rw [g2,z0] at g3;simpa [hdB] using g3
 ·exact absurd rfl hx
theorem Zft {l:List (List Int)} (h:0<l.length):Zo l=8 + (l[0]).length + Zo l.tail:=by
 cases l with
 |nil=>simp at h
 |cons a l=>exact ZJ a l
theorem Zn6 {rd:Nat->List Int} (hb:∀ n,∀ b∈scan (rd n),∀ x∈b,0<=x/\x<256) (hl:∀ n,Zo (scan (rd n))<=(rd n).length):∀ {nums:List Nat} {prev:Option Nat} {g:Lg} {segs:List Sg} (s:Sg),(Zaq rd prev g segs nums).amiss=some s->0<=s.size/\s.size<=(rd s.num).length:=λ {nums}=>by
 induction nums with
 |nil=>intro prev g segs s h;unfold Zaq at h;cases h
 |cons n rest ih=>
  intro prev g segs s hs;by_cases h:nxt rd prev n=0\/(prev≠none/\nxt rd prev n≠g.last + 1)
  ·rw [ZaO h] at hs;cases hs;simp
  ·rcases hr:Zfu (if prev=none then (⟨nxt rd prev n - 1,g.l⟩:Lg) else g) (ZH n (nxt rd prev n)).length (scan (rd n)).tail with ⟨g2,o⟩
   cases o with
   |some d=>
    rw [ZbB h rfl hr] at hs;cases hs;obtain ⟨a,x,c,ht,_,rfl⟩:=Zji hr;have hx0:nxt rd prev n≠0:=λ h0=>h (.inl h0);have hpos:0<(scan (rd n)).length:=by
     rcases Nat.eq_zero_or_pos (scan (rd n)).length with h0|h0
     ·exfalso;refine hx0 ?_;unfold nxt ZR;rw [List.length_eq_zero_iff.1 h0]
     ·exact h0
    have hh:(scan (rd n))[0]=hdB n (nxt rd prev n):=by
     have hor:prev=none\/prev.map (· + 1)=some n:=by
      apply Classical.byContradiction;intro hno;refine hx0 ?_;unfold nxt ZR;split
      ·rfl
      ·rw [if_neg hno]
     have e:nxt rd prev n=ZeT (scan (rd n))[0] n:=Zdr hpos hor;rw [e];exact Zjz (hb n _ (List.getElem_mem _)) (by rw [<-e];exact hx0)
    have e1:=Zft hpos;rw [hh,ht,Zgo,ZJ] at e1;have h2:=hl n;unfold ZH;rw [ZK];simp only;omega
   |none=>
    by_cases he:Zo (scan (rd n))=(rd n).length
    ·rw [ZbA h rfl hr he] at hs
     exact ih s hs
    ·rw [Zci h rfl hr he] at hs
     cases hs;have:=hl n;simp only;omega
end
end Go.VC
namespace Go.Proofs.YtkfedbncmfnpnaaGreatDoor
section
open Go Go.VC Tryz
variable {R R':Cx} {Hs Rest:List HP} {w:World}
abbrev ZjQ (s:Sg):List Value:=[.int .i64 s.num,.int .i64 s.next,.int .i64 s.size]
abbrev ZZ (s:Sg):Obj:=.cells (ZjQ s).toArray 96 (0,0)
abbrev ZbE (s:Sl) (segs:List Sg):HP:=ZM 3 s 96 (segs.map ZjQ)
abbrev WS (p d:Nat) (lim base:Int) (s sg:Sl) (brk:Bool) (ds:List DE4) (segs:List Sg) (st:DS) (Hs:List HP):List HP:=pts p (Zt d lim base s sg brk)::ZL s ds::ZbE sg segs::Zl d st::Hs
def Zui (am:Option Addr) (o:Option Sg):HP:=match o with
  |none=>pur (am=none)
  |some g=>exs λ b:Nat=>Zig [pur (am=some ⟨b,0,none⟩),pts b (ZZ g)]
theorem Zui.no (h:Sat R Hs w):Sat R (Zui none none::Hs) w:=Sat.pur.2 ⟨rfl,h⟩
theorem Zui.yes {b:Nat} {g:Sg} (h:Sat R (pts b (ZZ g)::Hs) w):Sat R (Zui (some ⟨b,0,none⟩) (some g)::Hs) w:=Sat.exs.2 ⟨b,Sat.star.2 (Sat.pur.2 ⟨rfl,h⟩)⟩
theorem Zik {T:TypeId}:∀ {ps:List (Sl × List Int)} {R:Cx} {Hs:List HP} {w:World},Sat R (Zig (ps.map λ p=>Own p.1 T (b8 p.2))::Hs) w->∃ R',R.Ext R'/\(∀ p∈ps,SlR R'.m p.1 (b8 p.2))/\Sat R' Hs w
  |[],R,_,_,h=>⟨R,.refl,λ _ h=>(by cases h),Sat.star.1 h⟩
  |p::ps,R,Hs,w,h=>by
    have h1:Sat R (Own p.1 T (b8 p.2)::(ps.map λ p=>Own p.1 T (b8 p.2))++Hs) w:=Sat.star.1 h;obtain ⟨R1,e1,g1,h2⟩:=Own.leak h1;obtain ⟨R2,e2,g2,h3⟩:=Zik (Sat.star.2 h2);refine ⟨R2,e1.trans e2,λ q hq=>?_,h3⟩;rcases List.mem_cons.1 hq with rfl|hq
    · exact e2.slR g1
    · exact g2 q hq
theorem ZiW {l:Sl} {xss:List (List Int)} (h:Sat R (ZaW l xss::Hs) w):∃ (R':Cx) (ps:List (Sl × List Int)),R.Ext R'/\ps.map (·.2)=xss/\SlR R'.m l ((ps.map λ p:Sl × List Int=>p.1).map Sl.v)/\(∀ p∈ps,SlR R'.m p.1 (b8 p.2))/\Sat R' Hs w:=by
  obtain ⟨ps,hps,hw⟩:=Sat.bytesL.1 h;obtain ⟨R1,e1,g1,hw⟩:=Own.leak hw;obtain ⟨R2,e2,g2,hw⟩:=Zik hw;refine ⟨R2,ps,e1.trans e2,hps,?_,g2,hw⟩;rw [List.map_map];exact e2.slR g1
theorem _root_.Go.VC.SlR.ixS {s:Sl} {ps:List Sl} {S:World->Prop} {i:Int} (hr:SlR R.m s (ps.map Sl.v)) (hS:∀ w,S w->Sat R Hs w) (j:Nat) (hi:i=j) (hj:j<ps.length) {F:Sl->Prop} (h:F ps[j]):
    Rng i s.len (Zb s.a λ a=>∃ t:Sl,(At S (a.add i.toNat) [.slice t.a t.len t.cap])/\F t):=by
  subst hi;have hl:s.len=ps.length:=by have:=hr.len;simpa using this
  obtain ⟨b,off,l,T,fr,ha,hb,hel⟩:=hr.mem (by intro h0;rw [List.map_eq_nil_iff] at h0;rw [h0] at hj;simp at hj);refine Rng.mk (by omega) (by omega) (Zb.mk ha ⟨ps[j],λ w hw i v hv=>?_,h⟩);have hi:i=0:=by
    cases i with
    |zero=>rfl
    |succ i=>simp at hv
  subst hi;simp only [List.getElem?_cons_zero,Option.some.injEq] at hv;subst hv;rw [Int.toNat_natCast,Zf,Zf];have:=(hS w hw).of_ro hb;simp only [World.cell?,this,Option.isSome_none,Bool.false_eq_true,if_false];exact hel j _ (by simp [hj,Sl.v])
def Zwj (R:Cx) (Hs:List HP) (p d:Nat) (lim:Int) (brk:Bool) (st:DS) (v:Value) (w:World):Prop:=
  ∃ R' base s ds sg am bh,R.Ext R'/\DsR R' ds/\v=.tuple #[.pointer am,.slice bh.a bh.len bh.cap]/\(⟨base,erE ds⟩:Lg)=(Zj st).g/\SlR R'.m bh (Zk5 (Zj st).behind)/\0<=base/\base<=1099511627776/\ds.length<=100000000000/\
    (Zj st).segs.length<=40000/\Sat R' (Zui am (Zj st).amiss::WS p d lim base s sg brk ds (Zj st).segs st Hs) w
theorem ZkF {p d:Nat} {lim base:Int} {s sg:Sl} {brk:Bool} {ds:List DE4} {segs:List Sg} {st:DS} (i:Inv st) (hby:Zb9 st.fs) (hc:st.fs.length<=40000) (hp:Zec R) (hw:Sat R (WS p d lim base s sg brk ds segs st Hs) w):
    Zq prog 58 #[.pointer (some ⟨p,0,none⟩)] w (Zwj R Hs p d lim brk st):=by
  apply Zvr
  suffices H:∀ K:Value->World->Prop,(∀ v w',Zwj R Hs p d lim brk st v w'->K v w')->B58 (some ⟨p,0,none⟩) K w from H _ λ _ _ h=>h
  intro K hK;refine Zb.mk rfl ?_;refine Zc hw (by kernel_rfl) rfl (by simp [Value.cells,Zn]) λ w hw=>?_;refine Zb.mk rfl ?_;refine Zc hw (by kernel_rfl) rfl (by simp [Value.cells,Zn]) λ w hw=>?_;have hw:Sat R (pts p (Zt d lim 0 ⟨none,0,0⟩ ⟨none,0,0⟩ brk)::ZL s ds::ZbE sg segs::Zl d st::Hs) w:=hw;have hw:Sat R (Zl d st::pts p (Zt d lim 0 ⟨none,0,0⟩ ⟨none,0,0⟩ brk)::Hs) w:=(hw.cons λ _ h=>h.drop.drop).swap;refine Zb.mk rfl ⟨_,(by rw [Zf];exact At.own (eqS hw) (by exact ⟨rfl,trivial⟩)),?_⟩;refine (Zds i (by omega) hw).use ?_;clear hw;rintro _ w ⟨sn,rfl,hw⟩;refine ⟨sn,rfl,?_⟩;obtain ⟨R1,e1,hn1,hw⟩:=Own.leak hw;have hnl:=Za7 st.fs;refine (Zjs (hn1.ro (by rw [List.length_map];omega)) (by omega) (λ k hk=>by have:=ZdS (i.names k (Zet.1 hk));omega) hw).use ?_;clear hw;rintro _ w ⟨sa,rfl,hw⟩;refine ⟨sa,rfl,?_⟩;obtain ⟨R2,e2,hall,hw⟩:=Own.leak hw;obtain ⟨nums,hnums⟩:∃ n,n=ZN (Zr st.fs):=⟨_,rfl⟩;obtain ⟨rd,hrd⟩:∃ rd:Nat->List Int,rd=λ n=>(ZC st (Za n)).1:=⟨_,rfl⟩;have hload:Zj st=Zaq rd none ⟨0,[]⟩ [] nums:=by subst hrd hnums;rfl
  have hnb:∀ n∈nums,1<=n/\n<100000000:=λ n hn=>by
    rw [hnums] at hn;unfold ZN at hn;rw [List.mem_filter] at hn;obtain ⟨h1,h2⟩:=hn;obtain ⟨k,_,rfl⟩:=List.mem_map.1 h1;exact ⟨by have:=of_decide_eq_true h2;omega,ZdP⟩
  have hnlen:nums.length<=40000:=by rw [hnums];have:=Zdq (Zr st.fs);omega
  rw [<-hnums] at hall;have hal:sa.len=nums.length:=by have:=hall.len;simpa using this
  have hrb:∀ n,(∀ x∈rd n,0<=x/\x<256)/\(rd n).length<=16777216:=λ n=>by
    rw [hrd];refine ⟨ZhT hby _,?_⟩;show (ZC st (Za n)).1.length<=_;unfold ZC;split
    · simp
    · split
      · simp
      · split
        · simp
        · rename_i f hf
          have:=ZbH hf;have:=i.full;have:=i.r1;simp only;omega
  have hsb:∀ n,∀ b∈scan (rd n),b.length<=65536/\∀ x∈b,0<=x/\x<256:=λ n b hb=>by
    obtain ⟨h1,h2⟩:=ZgE _ (rd n) (Nat.le_refl _) b hb;exact ⟨h1,λ x hx=>(hrb n).1 x (h2 x hx)⟩
  have hp2:=(hp.ext e1).ext e2;have e12:=e1.trans e2;refine ⟨λ i w=>∃ (k:Nat) (g:Lg) (sgs:List Sg) (R3:Cx) (s:Sl) (ds:List DE4) (sg:Sl),i=k/\k<=nums.length/\R2.Ext R3/\DsR R3 ds/\g=⟨g.base,erE ds⟩/\(0<=g.base/\g.base<=1099511627776)/\ds.length<=k * 2097153/\(k=0->g=⟨0,[]⟩)/\sgs.length=k/\
      Zj st=Zaq rd (if k=0 then none else nums[k - 1]?) g sgs (nums.drop k)/\Sat R3 (WS p d lim g.base s sg brk ds sgs st Hs) w,λ i _=>nums.length - i.toNat,⟨0,⟨0,[]⟩,[],R2,⟨none,0,0⟩,[],⟨none,0,0⟩,rfl,by omega,.refl,.nil,rfl,⟨by simp,by simp⟩,by simp,λ _=>rfl,rfl,hload,?_⟩,?_⟩
  · exact hw.swap.cons λ _ h=>ZM.nil (ZM.nil h)
  clear hw;rintro _ _ w ⟨k,g,sgs,R3,s,ds,sg,rfl,hk,e3,hd,hg,hgb,hdl,hg0,hsl,hL,hw⟩;have hall3:=e3.slR hall;refine Br.d (λ h=>?_) (λ h=>?_)
  rotate_left
  · have hkn:k=nums.length:=by omega
    rw [hkn,List.drop_length] at hL;have hL2:Zj st=⟨g,sgs,none,[]⟩:=by rw [hL];unfold Zaq;rfl
    refine hK _ _ ⟨R3,g.base,s,ds,sg,none,⟨none,0,0⟩,e12.trans e3,hd,rfl,?_,?_,hgb.1,hgb.2,by omega,?_,?_⟩
    · rw [hL2];exact hg.symm
    · rw [hL2];exact ⟨rfl,by simp,λ h=>absurd rfl h⟩
    · rw [hL2];show sgs.length<=_;omega
    · rw [hL2];exact Zui.no hw
  have hk':k<nums.length:=by omega
  have hnk:=hnb nums[k] (List.getElem_mem _);obtain ⟨n,hn⟩:∃ n,n=nums[k]:=⟨_,rfl⟩;rw [<-hn] at hnk;have hdrop:nums.drop k=n::nums.drop (k + 1):=by rw [hn];exact ZaQ hk'
  rw [hdrop] at hL;obtain ⟨prev,hprev⟩:∃ q,q=(if k=0 then none else nums[k - 1]?):=⟨_,rfl⟩
  rw [<-hprev] at hL;have w1:IntKind.i64.wrap ((k:Int) + 1)=((k + 1:Nat):Int):=by rw [Zg (by omega) (by omega)];omega
  rw [w1];have hbh:SlR R3.m (Z0 sa (k + 1)) (Zk5 (nums.drop (k + 1))):=by
    have:=hall3.drop (k:=k + 1) (by simp;omega);simpa [Zk5,List.map_drop] using this
  refine hall3.ix (eqS hw) k rfl (by simpa using hk') ?_;have en:(nums.map λ n:Nat=>(n:Int))[k]'(by simpa using hk')=((n:Nat):Int):=by simp [hn]
  rw [en];refine Zd hw λ b w hw=>?_;refine Zc hw (by kernel_rfl) rfl (by simp [Value.cells,Zn]) λ w hw=>?_;have hw:Sat R3 (pts b (ZZ ⟨n,0,0⟩)::WS p d lim g.base s sg brk ds sgs st Hs) w:=hw;refine Zs (Sat R3 [pts b (ZZ ⟨n,0,0⟩),pts p (Zt d lim g.base s sg brk),VC.tru]) hw (λ w hw=>hw.k2) λ w hw=>?_;refine Zb.mk rfl ⟨_,(by rw [Zf];exact At.own Ze (by exact ⟨rfl,trivial⟩)),_,_,_,At.own Ze (by exact ⟨rfl,rfl,rfl,trivial⟩),?_⟩;refine (ZaR (hp2.ext e3) hnk.2 hw).use ?_;clear hw;rintro _ w ⟨rfl,hw⟩;refine ⟨_,rfl,hw.k2,?_⟩;have hw:Sat R3 (Zl d st::pts b (ZZ ⟨n,0,0⟩)::pts p (Zt d lim g.base s sg brk)::ZL s ds::ZbE sg sgs::Hs) w:=hw.arr;refine (Zen i hw).use ?_;clear hw;rintro _ w ⟨t,rfl,hw⟩;refine ⟨t,_,rfl,hw.k2,?_⟩;obtain ⟨R4,e4,ht,hw⟩:=Own.leak hw;have ern:(ZC st (Za n)).1=rd n:=by rw [hrd]
  rw [ern] at ht;have hbl:=(hrb n).2;have htl:t.len=(rd n).length:=by have:=ht.len;simpa using this
  refine (Zo2 (hrb n).1 (by omega) ht hw).use ?_;clear hw;rintro _ w ⟨l,rfl,hw⟩;obtain ⟨R5,ps,e5,hps,hl,hpp,hw⟩:=ZiW hw;refine ⟨l,_,rfl,?_⟩;have hpl:ps.length=(scan (rd n)).length:=by rw [<-hps];simp
  have hll:l.len=ps.length:=by have:=hl.len;simpa using this
  have hcap:=hl.cap;have hn8:=Zb3 (scan (rd n));have hsle:=ZeH _ (rd n) (Nat.le_refl _);have e35:=e4.trans e5;have hd:=hd.ext e35;have hall5:=e35.slR hall3;have hbh:=e35.slR hbh;have hpj:∀ j (hj:j<ps.length),ps[j].2=(scan (rd n))[j]'(by omega)/\SlR R5.m ps[j].1 (b8 ((scan (rd n))[j]'(by omega))):=λ j hj=>by
    have e:ps[j].2=(scan (rd n))[j]'(by omega):=by
      have:(ps.map (·.2))[j]'(by simpa using hj)=(scan (rd n))[j]'(by omega):=by simp only [hps]
      simpa using this
    exact ⟨e,by rw [<-e];exact hpp _ (List.getElem_mem _)⟩
  have hnx:=Zpz (prev:=prev) (hrb n).1 λ b hb=>(hsb n b hb).2;have hprev0:prev=none↔k=0:=by
    rw [hprev];split
    · simp [*]
    · rename_i h0
      rw [List.getElem?_eq_getElem (by omega)];simp [h0]
  have fin:∀ {R6:Cx} {base:Int} {s:Sl} {ds:List DE4} {sg:Sl} {sgs':List Sg} {am:Sg} {w:World},R5.Ext R6->DsR R6 ds->Zj st=⟨⟨base,erE ds⟩,sgs',some am,nums.drop (k + 1)⟩->0<=base->base<=1099511627776->ds.length<=100000000000->sgs'.length<=40000->
      Sat R6 (pts b (ZZ am)::WS p d lim base s sg brk ds sgs' st Hs) w->(0:Int)<=((k + 1:Nat):Int)/\(((k + 1:Nat):Int)<=(sa.len:Int))/\K (.tuple #[.pointer (some ⟨b,0,none⟩),.slice (ZcW sa.a ((k + 1:Nat):Int).toNat sa.cap 1) (sa.len - ((k + 1:Nat):Int).toNat) (sa.cap - ((k + 1:Nat):Int).toNat)]) w:=
    λ {R6 base s ds sg sgs' am w} e6 hd hld hb0 hb1 hdl hsl hw=>by
      refine ⟨by omega,by omega,hK _ _ ⟨R6,base,s,ds,sg,some ⟨b,0,none⟩,Z0 sa (k + 1),((e12.trans e3).trans e35).trans e6,hd,by rw [Int.toNat_natCast],?_,?_,hb0,hb1,hdl,?_,?_⟩⟩
      · rw [hld]
      · rw [hld];exact e6.slR hbh
      · rw [hld];exact hsl
      · rw [hld];exact Zui.yes hw
  refine ⟨Sat R5 (pts b (ZZ ⟨n,nxt rd prev n,0⟩)::WS p d lim g.base s sg brk ds sgs st Hs),?_,?_⟩
  · have hw:Sat R5 (pts b (ZZ ⟨n,0,0⟩)::WS p d lim g.base s sg brk ds sgs st Hs) w:=hw.arr
    have skip:nxt rd prev n=0->Sat R5 (pts b (ZZ ⟨n,nxt rd prev n,0⟩)::WS p d lim g.base s sg brk ds sgs st Hs) w:=λ h=>by rw [h];exact hw
    have some1:∀ (hpos:0<ps.length),(prev=none\/prev.map (· + 1)=some n)->Rng 0 l.len (Zb l.a λ a_t72=>
        ∃ t73:Sl,(At (λ w'=>w'=w) (Addr.add a_t72 0) [.slice t73.a t73.len t73.cap])/\
        Calls prog 109 #[.slice t73.a t73.len t73.cap,.int .i64 n] w λ e_5 w_12=>
        ∃ t75:Int,(e_5=.returned (.int .i64 t75))/\
        ∃ w_13:World,((Instr.storeAt 3 (.pointer ((some ⟨b,0 + 1,none⟩))) (.int .i64 t75)).run prog w_12=.ok () w_13)/\
        Sat R5 (pts b (ZZ ⟨n,nxt rd prev n,0⟩)::WS p d lim g.base s sg brk ds sgs st Hs) w_13):=λ hpos hor=>by
      refine hl.ixS (eqS hw) 0 rfl (by simpa using hpos) ?_;obtain ⟨_,h2⟩:=hpj 0 hpos;have hb0:=hsb n _ (List.getElem_mem (h:=(by omega:0<(scan (rd n)).length)));have en0:(ps.map λ p:Sl × List Int=>p.1)[0]'(by simpa using hpos)=ps[0].1:=by simp
      rw [en0];refine (ZpX hb0.2 (by omega) (h2.ro (by rw [List.length_map];omega)) hw).use ?_;clear hw;rintro _ w ⟨rfl,hw⟩;refine ⟨_,rfl,?_⟩;refine Zc hw (by kernel_rfl) rfl (by simp [Value.cells,Zn]) λ w hw=>?_;have enx:nxt rd prev n=ZeT ((scan (rd n))[0]'(by omega)) n:=Zdr (by omega) hor;rw [enx];exact hw
    have noscan:ps.length=0->nxt rd prev n=0:=λ h0=>by
      unfold nxt ZR;cases hs:scan (rd n) with
      |nil=>rfl
      |cons a l=>rw [hs] at hpl;simp at hpl;omega
    refine Br.d (λ h1=>?_) (λ h1=>skip (noscan (by omega)));refine Br.e (λ h2=>?_) (λ h2=>?_)
    · exact some1 (by omega) (.inl (hprev0.2 (by omega)))
    · have h20:k≠0:=λ h=>h2 (by rw [h];rfl)
      have wk:IntKind.i64.wrap ((k:Int) - 1)=((k - 1:Nat):Int):=by rw [Zg (by omega) (by omega)];omega
      rw [wk];refine hall5.ix (eqS hw) (k - 1) rfl (by simp;omega) ?_;have en1:(nums.map λ n:Nat=>(n:Int))[k - 1]'(by simp;omega)=((nums[k - 1]'(by omega):Nat):Int):=by simp
      rw [en1];have hpv:prev=some (nums[k - 1]'(by omega)):=by rw [hprev,if_neg h20,List.getElem?_eq_getElem (by omega)]
      have hpb:=hnb _ (List.getElem_mem (h:=(by omega:k - 1<nums.length)));rw [Zg (by omega) (by omega)];refine Br.e (λ h3=>?_) (λ h3=>skip ?_)
      · exact some1 (by omega) (.inr (by rw [hpv];simp;omega))
      · unfold nxt ZR
        split
        · rfl
        · rw [if_neg]
          rw [hpv];simp;omega
  clear hw;rintro _ w hw;have hdsl:s.len=ds.length:=by
    have h2:Sat R5 (ZL s ds::pts b (ZZ ⟨n,nxt rd prev n,0⟩)::pts p (Zt d lim g.base s sg brk)::ZbE sg sgs::Zl d st::Hs) w:=hw.arr;have:=ZM.len h2;simpa using this
  have hlast:g.last=g.base + ds.length:=by rw [hg];unfold Lg.last;simp
  refine ⟨λ w=>¬ (nxt rd prev n=0\/(prev≠none/\nxt rd prev n≠g.last + 1))/\Sat R5 (pts b (ZZ ⟨n,nxt rd prev n,0⟩)::WS p d lim (if k=0 then nxt rd prev n - 1 else g.base) s sg brk ds sgs st Hs) w,?_,?_⟩
  · refine ⟨λ t w=>(t=decide (nxt rd prev n=0\/(prev≠none/\nxt rd prev n≠g.last + 1)))/\Sat R5 (pts b (ZZ ⟨n,nxt rd prev n,0⟩)::WS p d lim g.base s sg brk ds sgs st Hs) w,?_,?_⟩
    · refine Zv hw λ w hw=>?_
      refine ⟨_,At.own Ze (by exact ⟨rfl,trivial⟩),Br.e (λ h1=>⟨(decide_eq_true (.inl h1)).symm,hw⟩) (λ h1=>?_)⟩;refine Br.d (λ h2=>?_) (λ h2=>⟨?_,hw⟩)
      · refine ⟨_,At.own Ze (by exact ⟨rfl,trivial⟩),Zb.mk rfl ?_⟩
        refine (ZfD (p:=p) hgb.1 (by omega) (by omega) hw).use ?_;clear hw;rintro _ w ⟨rfl,hw⟩;refine ⟨_,rfl,hw,?_,hw⟩;rw [Zg (by omega) (by omega),hdsl,hlast];have hpn:prev≠none:=λ h=>by have:=hprev0.1 h;omega
        by_cases h3:nxt rd prev n=g.base + (ds.length:Int) + 1
        · rw [show (nxt rd prev n !=g.base + (ds.length:Int) + 1)=false by simp [h3]]
          symm
          exact decide_eq_false (λ h=>h.elim h1 (λ h=>h.2 h3))
        · rw [show (nxt rd prev n !=g.base + (ds.length:Int) + 1)=true by simp [h3]]
          symm
          exact decide_eq_true (.inr ⟨hpn,h3⟩)
      · symm
        refine decide_eq_false (λ h=>h.elim h1 (λ h=>h.1 (hprev0.2 (by omega))))
    clear hw;rintro _ _ w ⟨rfl,hw⟩;refine Br.d (λ h1=>?_) (λ h1=>?_)
    · refine Zv hw λ w hw=>?_
      refine fin .refl hd (by rw [hL,ZaO h1,<-hg]) hgb.1 hgb.2 (by omega) (by omega) hw
    · refine Br.e (λ h2=>?_) (λ h2=>⟨h1,?_⟩)
      · have hk0:k=0:=by omega
        refine ⟨nxt rd prev n,At.own (eqS hw) (by exact ⟨rfl,trivial⟩),Zb.mk rfl ?_⟩;have hx0:nxt rd prev n≠0:=λ h=>h1 (.inl h);rw [Zg (by omega) (by omega)];refine Zc hw (by kernel_rfl) rfl (by simp [Value.cells,Zn]) λ w hw=>?_;refine ⟨h1,?_⟩;rw [if_pos hk0];have hw:Sat R5 (pts p (Zt d lim (nxt rd prev n - 1) s sg brk)::pts b (ZZ ⟨n,nxt rd prev n,0⟩)::ZL s ds::ZbE sg sgs::Zl d st::Hs) w:=hw;exact hw.swap
      · rw [if_neg (λ h=>h2 (by rw [h];rfl))];exact hw
  clear hw;rintro _ w ⟨h1,hw⟩;obtain ⟨g1,hg1⟩:∃ g1:Lg,g1=(if prev=none then ⟨nxt rd prev n - 1,g.l⟩ else g):=⟨_,rfl⟩
  have hx0:nxt rd prev n≠0:=λ h=>h1 (.inl h);have eg1:g1=⟨if k=0 then nxt rd prev n - 1 else g.base,erE ds⟩:=by
    rw [hg1];by_cases hk0:k=0
    · rw [if_pos (hprev0.2 hk0),if_pos hk0]
      have:g.l=erE ds:=by rw [hg]
      rw [this]
    · rw [if_neg (λ h=>hk0 (hprev0.1 h)),if_neg hk0];exact hg
  have hb1:0<=(if k=0 then nxt rd prev n - 1 else g.base)/\(if k=0 then nxt rd prev n - 1 else g.base)<=1099511627776:=by split<;>omega
  obtain ⟨base1,hbase1⟩:∃ b,b=(if k=0 then nxt rd prev n - 1 else g.base):=⟨_,rfl⟩
  rw [<-hbase1] at hw eg1 hb1;rw [htl];refine Zc hw (by kernel_rfl) rfl (by simp [Value.cells,Zn]) λ w hw=>?_;have hw:Sat R5 (pts b (ZZ ⟨n,nxt rd prev n,(rd n).length⟩)::WS p d lim base1 s sg brk ds sgs st Hs) w:=hw;refine Zs (Sat R5 [pts b (ZZ ⟨n,nxt rd prev n,(rd n).length⟩),pts p (Zt d lim base1 s sg brk),VC.tru]) hw (λ w hw=>hw.k2) λ w hw=>?_;refine Zb.mk rfl ⟨sg,At.own Ze (by exact ⟨rfl,trivial⟩),_,_,_,At.own Ze (by exact ⟨rfl,rfl,rfl,trivial⟩),Zd hw λ b2 w hw=>⟨hw.k2,?_⟩⟩;have hw:Sat R5 (ZbE sg sgs::pts b2 (.cells (ZjQ ⟨n,nxt rd prev n,(rd n).length⟩).toArray 96 (0,0))::pts b (ZZ ⟨n,nxt rd prev n,(rd n).length⟩)::pts p (Zt d lim base1 s sg brk)::ZL s ds::Zl d st::Hs) w:=hw.arr;refine Zc2 elG hw rfl rfl (by rw [List.length_map];omega) (by rw [List.length_map];omega) λ sg2 w hw=>?_;obtain ⟨sgs2,hsgs2⟩:∃ x,x=sgs++[⟨n,nxt rd prev n,((rd n).length:Int)⟩]:=⟨_,rfl⟩;have hw:Sat R5 (pts p (Zt d lim base1 s sg brk)::pts b (ZZ ⟨n,nxt rd prev n,(rd n).length⟩)::ZL s ds::ZbE sg2 sgs2::Zl d st::Hs) w:=by
    rw [hsgs2];unfold ZbE;rw [List.map_append];simp only [List.map_cons,List.map_nil];exact hw.arr
  refine ⟨hw.k2,Zb.mk rfl ?_⟩;refine Zc hw (by kernel_rfl) rfl (by simp [Value.cells,Zn]) λ w hw=>?_;have hw:Sat R5 (pts b (ZZ ⟨n,nxt rd prev n,(rd n).length⟩)::WS p d lim base1 s sg2 brk ds sgs2 st Hs) w:=Sat.swap hw;refine ⟨_,At.own (eqS hw) (by exact ⟨rfl,trivial⟩),Zd hw λ b3 w hw=>?_⟩;obtain ⟨hc3,hw⟩:=Sat.lend.1 hw;refine (Zck (t:=none) (sd:=⟨none,0,0⟩) (xs:=[0,n,nxt rd prev n]) (sl:=⟨some ⟨b3,0,none⟩,3,3⟩) (λ x hx=>by simp at hx;omega) (by simp) (λ d h=>by cases h) (Zdo (by simp) rfl hc3) hw).use ?_;clear hw;rintro _ w ⟨te,rfl,hw⟩;have hte:te.len=(ZH n (nxt rd prev n)).length:=by have:=Own.len hw;rw [ZlX] at this;simpa using this
  have hw:=(Sat.lend.2 ⟨hc3,hw.drop⟩).drop;have hscn:0<ps.length:=by
    rcases Nat.eq_zero_or_pos ps.length with h0|h0
    · exfalso
      refine hx0 ?_;unfold nxt ZR;cases hs:scan (rd n) with
      |nil=>rfl
      |cons a l=>rw [hs] at hpl;simp at hpl;omega
    · exact h0
  have hl1:SlR R5.m (Z0 l 1) ((ps.drop 1).map λ p=>Sl.v p.1):=by
    have:=hl.drop (k:=1) (by simp;omega);simpa [List.map_drop,Function.comp_def] using this
  have htail:(scan (rd n)).tail=(scan (rd n)).drop 1:=by rw [List.drop_one]
  refine ⟨te,rfl,by omega,by omega,?_⟩;rw [hte];obtain ⟨bodies,hbod⟩:∃ x,x=(scan (rd n)).drop 1:=⟨_,rfl⟩;have hbl2:bodies.length=ps.length - 1:=by rw [hbod,List.length_drop];omega
  have hl0:=ZK (hdB n (nxt rd prev n));have hl0':=ZdV (n:=n) (next:=nxt rd prev n) (by omega) hnx.2;refine ⟨λ dn i w=>∃ (j:Nat) (gj:Lg) (R6:Cx) (s:Sl) (ds':List DE4),i=j/\j<=bodies.length/\R5.Ext R6/\DsR R6 ds'/\gj=⟨gj.base,erE ds'⟩/\(0<=gj.base/\gj.base<=1099511627776)/\ds'.length<=ds.length + j/\(0<=dn/\dn<=1000 + 70000 * j)/\
      Zfu g1 (ZH n (nxt rd prev n)).length bodies=Zfu gj dn (bodies.drop j)/\Sat R6 (pts b (ZZ ⟨n,nxt rd prev n,(rd n).length⟩)::WS p d lim gj.base s sg2 brk ds' sgs2 st Hs) w,λ _ i _=>bodies.length - i.toNat,⟨0,g1,R5,s,ds,rfl,by omega,.refl,hd,by rw [eg1],by rw [eg1];exact hb1,by omega,⟨by omega,by unfold ZH;omega⟩,rfl,by rw [eg1];exact hw⟩,?_⟩
  clear hw;rintro _ dn _ w ⟨j,gj,R6,s,ds',rfl,hj,e6,hd6,hgj,hgjb,hdl6,hdn,hrun,hw⟩;have hll1:l.len - Int.toNat 1=bodies.length:=by rw [hbl2,hll];rfl
  rw [hll1];have h8:8 * bodies.length<=16777216:=by omega
  have hd40:ds'.length<=100000000000:=by omega
  refine Br.d (λ h2=>?_) (λ h2=>?_)
  · have hj':j<bodies.length:=by omega
    have hdj:bodies.drop j=bodies[j]::bodies.drop (j + 1):=ZaQ hj';have hbj:bodies[j]=(scan (rd n))[j + 1]'(by omega):=by simp only [hbod,List.getElem_drop];congr 1;omega
    have hl6:=e6.slR hl1;have hl6b:SlR R6.m (Z0 l 1) (((ps.drop 1).map λ p:Sl × List Int=>p.1).map Sl.v):=by rw [List.map_map];exact hl6
    have hsd:(⟨ZcW l.a (Int.toNat 1) l.cap 1,bodies.length,l.cap - 1⟩:Sl)=Z0 l 1:=by rw [<-hll1];rfl
    have main:=hl6b.ixS (eqS hw) j rfl (by simp;omega) (i:=(j:Int)) (F:=λ t134=>Drw w λ S_4 w_31=>
      Calls prog 111 #[.slice t134.a t134.len t134.cap] w_31 λ e_9 w_32=>
      ∃ t139:Option Addr,(e_9=.returned (.pointer t139))/\
      Calls prog 110 #[.pointer ((some ⟨p,0 + 2,none⟩)),.pointer t139] w_32 λ e_10 w_33=>
      ∃ t140:Bool,(e_10=.returned (.bool t140))/\
      Br (!t140)
       (∃ w_34:World,((Instr.storeAt 3 (.pointer ((some ⟨b,0 + 2,none⟩))) (.int .i64 dn)).run prog w_33=.ok () w_34)/\
        Drw w_34 λ S_5 w_35=>
        ((0:Int)<=((k + 1:Nat):Int))/\
        ((((k + 1:Nat):Int):Int)<=(sa.len:Int))/\
        K (.tuple #[.pointer ((some ⟨b,0,none⟩)),.slice (ZcW sa.a ((k + 1:Nat):Int).toNat sa.cap 1) (sa.len - ((k + 1:Nat):Int).toNat) (sa.cap - ((k + 1:Nat):Int).toNat)]) w_35)
       (Calls prog 112 #[.slice t134.a t134.len t134.cap] w_33 λ e_11 w_36=>
        ∃ t150:Sl,∃ t150_1:Int,(e_11=.returned (.tuple #[.slice t150.a t150.len t150.cap,.int .i64 t150_1]))/\
        (∃ (j':Nat) (gj:Lg) (R6:Cx) (s:Sl) (ds':List DE4),IntKind.i64.wrap ((j:Int) + 1)=j'/\j'<=bodies.length/\R5.Ext R6/\DsR R6 ds'/\gj=⟨gj.base,erE ds'⟩/\(0<=gj.base/\gj.base<=1099511627776)/\ds'.length<=ds.length + j'/\(0<=IntKind.i64.wrap (dn + (t150.len:Int))/\IntKind.i64.wrap (dn + (t150.len:Int))<=1000 + 70000 * j')/\
          Zfu g1 (ZH n (nxt rd prev n)).length bodies=Zfu gj (IntKind.i64.wrap (dn + (t150.len:Int))) (bodies.drop j')/\Sat R6 (pts b (ZZ ⟨n,nxt rd prev n,(rd n).length⟩)::WS p d lim gj.base s sg2 brk ds' sgs2 st Hs) w_36)/\
        bodies.length - (IntKind.i64.wrap ((j:Int) + 1)).toNat<bodies.length - ((j:Nat):Int).toNat)) ?_
    · rw [<-hsd] at main
      refine (show _ from main)
    have en2:((ps.drop 1).map λ p:Sl × List Int=>p.1)[j]'(by simp;omega)=(ps[j + 1]'(by omega)).1:=by simp [Nat.add_comm]
    rw [en2];obtain ⟨_,hbo⟩:=hpj (j + 1) (by omega);rw [<-hbj] at hbo;have hbo6:=e6.slR hbo;have hbb:=hsb n bodies[j] (by rw [hbj];exact List.getElem_mem _);have hro:=hbo6.ro (by rw [List.length_map];omega);refine Zs (λ _=>True) hw (λ _ _=>trivial) λ w hw=>?_;refine (ZkJ hro (by omega) hw).use ?_;clear hw;rintro _ w ⟨r,rfl,hw⟩;refine ⟨_,rfl,?_⟩;have hw:Sat R6 (ZdK r ⟨bodies[j],false⟩::pts p (Zt d lim gj.base s sg2 brk)::ZL s ds'::pts b (ZZ ⟨n,nxt rd prev n,(rd n).length⟩)::ZbE sg2 sgs2::Zl d st::Hs) w:=hw.arr;refine (ZkV (rd:=⟨bodies[j],false⟩) hgjb.1 hgjb.2 hd40 hd6 hbb.2 (by show bodies[j].length<=_;omega) hw).use ?_;clear hw;rintro _ w ⟨R7,base7,s7,ds7,e7,hd7,rfl,hg7,hw⟩;have hcg:Zau ⟨gj.base,erE ds'⟩ ⟨bodies[j],false⟩=ZV gj bodies[j]:=by rw [<-hgj];rfl
    rw [hcg,<-hgj] at hg7;rw [hcg];refine ⟨_,rfl,?_⟩;have hrj:Zfu gj dn (bodies.drop j)=match ZV gj bodies[j] with|none=>(gj,some dn)|some g'=>Zfu g' (dn + (8 + bodies[j].length)) (bodies.drop (j + 1)):=by rw [hdj];rfl
    cases hch:ZV gj bodies[j] with
    |none=>
      rw [hch] at hg7 hrj;simp only [Option.getD_none] at hg7;refine Br.t rfl ?_;have hw:Sat R7 (pts b (ZZ ⟨n,nxt rd prev n,(rd n).length⟩)::WS p d lim base7 s7 sg2 brk ds7 sgs2 st Hs) w:=by
        have:erE ds'=erE ds7:=by rw [hgj] at hg7;exact (Lg.mk.inj hg7).2
        exact hw.arr
      refine Zc hw (by kernel_rfl) rfl (by simp [Value.cells,Zn]) λ w hw=>?_;have hw:Sat R7 (pts b (ZZ ⟨n,nxt rd prev n,dn⟩)::WS p d lim base7 s7 sg2 brk ds7 sgs2 st Hs) w:=hw;have hbase7:base7=gj.base:=by rw [hgj] at hg7;exact (Lg.mk.inj hg7).1.symm
      have hlen7:ds7.length=ds'.length:=by
        have:erE ds'=erE ds7:=by rw [hgj] at hg7;exact (Lg.mk.inj hg7).2
        have:=congrArg List.length this;simpa using this.symm
      refine Zv hw λ w hw=>?_;refine fin (e6.trans e7) hd7 ?_ (by omega) (by omega) (by omega) (by rw [hsgs2];simp;omega) hw;rw [hL,ZbB h1 hg1.symm (g2:=⟨base7,erE ds7⟩) (d:=dn) (by rw [htail,<-hbod,hrun,hrj,hg7]),hsgs2]
    |some g'=>
      rw [hch] at hg7 hrj;simp only [Option.getD_some] at hg7;refine Br.f rfl ?_;refine (Zha hbb.2 (e7.ro hro) hw).use ?_;rintro _ w (⟨h,_⟩|⟨_,t2,rfl,hw⟩)
      · omega
      have ht2:t2.len=8 + bodies[j].length:=by have:=Own.len hw;rw [List.length_map,ZK] at this;exact this
      have hw:=hw.drop;have hch2:=hch;have wj:IntKind.i64.wrap ((j:Int) + 1)=((j + 1:Nat):Int):=by rw [Zg (by omega) (by omega)];omega
      have wd:IntKind.i64.wrap (dn + (t2.len:Int))=dn + (8 + bodies[j].length):=by rw [Zg (by omega) (by omega),ht2];omega
      have hlen7:ds7.length<=ds'.length + 1/\0<=base7/\base7<=1099511627776:=by
        have hb:=ZfP hch (by rw [hgj];exact ⟨hgjb.1,hgjb.2⟩) hbb.2;rw [hg7] at hb;rw [hgj] at hb;simp only [List.length_map] at hb;exact ⟨hb.2.2,hb.1,hb.2.1⟩
      refine ⟨t2,_,rfl,⟨j + 1,g',R7,s7,ds7,wj,by omega,e6.trans e7,hd7,?_,?_,by omega,by rw [wd];omega,?_,?_⟩,by rw [wj];omega⟩
      · rw [hg7]
      · rw [hg7];exact hlen7.2
      · rw [hrun,hrj,wd]
      · rw [hg7];exact hw.arr
  · have hjl:j=bodies.length:=by omega
    rw [hjl,List.drop_length] at hrun;have hrun2:Zfu g1 (ZH n (nxt rd prev n)).length (scan (rd n)).tail=(gj,none):=by rw [htail,<-hbod,hrun];rfl
    refine Br.e (λ h3=>?_) (λ h3=>?_)
    · have h3':Zo (scan (rd n))=(rd n).length:=by omega
      refine ⟨⟨k + 1,gj,sgs2,R6,s,ds',sg2,rfl,by omega,(e3.trans e35).trans e6,hd6,hgj,hgjb,by omega,λ h=>by omega,by rw [hsgs2];simp;omega,?_,hw.drop⟩,by dsimp only;omega⟩;rw [hL,ZbA h1 hg1.symm hrun2 h3',<-hsgs2,if_neg (by omega),Nat.add_sub_cancel,List.getElem?_eq_getElem hk',<-hn]
    · refine Zc hw (by kernel_rfl) rfl (by simp [Value.cells,Zn]) λ w hw=>?_
      have hw:Sat R6 (pts b (ZZ ⟨n,nxt rd prev n,Zo (scan (rd n))⟩)::WS p d lim gj.base s sg2 brk ds' sgs2 st Hs) w:=hw;refine Zv hw λ w hw=>?_;refine fin e6 hd6 ?_ hgjb.1 hgjb.2 hd40 (by rw [hsgs2];simp;omega) hw;rw [hL,Zci h1 hg1.symm hrun2 (by omega),hsgs2,<-hgj]
end
section
open Go Go.VC Tryz
variable {R R':Cx} {Hs Rest:List HP} {w:World}
theorem _root_.Go.VC.Ro.ixV {s:Sl} {xs:List Value} {S:World->Prop} {i:Int} (hr:Ro R s xs) (hS:∀ w,S w->Sat R Hs w) (j:Nat) (hi:i=j) (hj:j<xs.length) {F:Value->Prop} (h:F xs[j]):
  Rng i s.len (Zb s.a λ a=>∃ t:Value,(At S (a.add i.toNat) [t])/\F t):=by
 subst hi;have hl:=hr.len;obtain ⟨b,off,l,T,fr,ha,hb,hel⟩:=hr.mem (by intro h0;rw [h0] at hj;simp at hj);refine Rng.mk (by omega) (by omega) (Zb.mk ha ⟨xs[j],λ w hw i v hv=>?_,h⟩);have hi:i=0:=by
  cases i with
  |zero=>rfl
  |succ i=>simp at hv
 subst hi;simp only [List.getElem?_cons_zero,Option.some.injEq] at hv;subst hv;rw [Int.toNat_natCast,Zf,Zf];have:=(hS w hw).of_ro hb;simp only [World.cell?,this,Option.isSome_none,Bool.false_eq_true,if_false];exact hel j _ (by simp [hj])
def ZgA (R:Cx):List Value->(Int->World->Prop)->World->Prop
 |[],Q,w=>Q 0 w
 |f::fs,Q,w=>Zcm prog cl f [] w λ e w'=>∃ n:Int,e=.returned (.int .i64 n)/\((n≠0/\Q n w')\/(n=0/\(∃ Hs,Sat R Hs w')/\ZgA R fs Q w'))
theorem ZgP {s:Sl} {fs:List Value} {Q:Int->World->Prop} (hs:Ro R s fs) (hl:fs.length<=1000000) (hw:Sat R Hs w) (h:ZgA R fs Q w):
  Zq prog 90 #[.slice s.a s.len s.cap] w λ v w'=>∃ n:Int,v=.int .i64 n/\Q n w':=by
 have hsl:=hs.len;apply ZuY;refine ⟨λ i w=>∃ k:Nat,i=k/\k<=fs.length/\(∃ Hs,Sat R Hs w)/\ZgA R (fs.drop k) Q w,λ i _=>fs.length - i.toNat,⟨0,rfl,by omega,⟨_,hw⟩,h⟩,?_⟩;clear hw h;rintro _ _ w ⟨k,rfl,hk,⟨Hs,hw⟩,h⟩;refine Br.d (λ h1=>?_) (λ h1=>?_)
 ·have hk':k<fs.length:=by omega
  rw [ZaQ hk'] at h;refine hs.ixV (eqS hw) k rfl hk' ?_;refine Zcm.mono h ?_;rintro e w' ⟨n,rfl,h2⟩;refine ⟨n,rfl,?_⟩;rcases h2 with ⟨hn,h2⟩|⟨hn,h2,h3⟩
  ·exact Br.t (by simp [hn]) ⟨n,rfl,h2⟩
  ·refine Br.f (by simp [hn]) ⟨⟨k + 1,by rw [Zg (by omega) (by omega)];omega,by omega,h2,h3⟩,by dsimp only;rw [Zg (by omega) (by omega)];omega⟩
 ·have:k=fs.length:=by omega
  rw [this,List.drop_length] at h;exact ⟨0,rfl,h⟩
def ZjT (R:Cx) (b:Nat) (v:Value):Prop:=∃ T fr,R.m b=some (.cells [v].toArray T fr)
abbrev ZjP (R:Cx) (b p:Nat):Prop:=ZjT R b (.pointer (some ⟨p,0,none⟩))
theorem ZjT.ext {b:Nat} {v:Value} (h:ZjT R b v) (e:R.Ext R'):ZjT R' b v:=let ⟨T,fr,h⟩:=h;⟨T,fr,e.m _ _ h⟩
theorem ZjT.at {b:Nat} {v:Value} {S:World->Prop} (h:ZjT R b v) (hS:∀ w,S w->Sat R Hs w):At S ⟨b,0,none⟩ [v]:=let ⟨_,_,h⟩:=h;At.ro hS h ⟨rfl,trivial⟩
theorem Za3 {b:Nat} {v:Value} {T:TypeId} {fr:Nat × Nat} (h:Sat R (pts b (.cells #[v] T fr)::Hs) w):∃ R',R.Ext R'/\ZjT R' b v/\Sat R' Hs w:=
 let ⟨R',e,hb,hw⟩:=pts.leak h;⟨R',e,⟨T,fr,hb⟩,hw⟩
theorem ZhU {b:Nat} {v:Value} {T:TypeId} {fr:Nat × Nat} {l:List Value} (hl:l=[v]) (h:Sat R (pts b (.cells l.toArray T fr)::Hs) w):∃ R',R.Ext R'/\ZjT R' b v/\Sat R' Hs w:=by subst hl;exact Za3 h
theorem Zeg (p:Nat) (name:ByteArray) (hw:Sat R Hs w):Zq prog 56 #[.pointer (some ⟨p,0,none⟩),.string name] w λ v w'=>∃ (R':Cx) (bw bn:Nat),R.Ext R'/\v=.func (.func 103) #[] #[.pointer (some ⟨bw,0,none⟩),.pointer (some ⟨bn,0,none⟩)]/\ZjP R' bw p/\ZjT R' bn (.string name)/\Sat R' Hs w':=by
 apply Zvt;refine Zd hw λ bw w hw=>?_;obtain ⟨R1,e1,b1,hw⟩:=Za3 hw;refine Zd hw λ bn w hw=>?_;obtain ⟨R2,e2,b2,hw⟩:=Za3 hw;exact ⟨R2,bw,bn,e1.trans e2,rfl,b1.ext e2,b2,hw⟩
variable {p d:Nat} {lim base:Int} {s sg:Sl} {brk:Bool} {ds:List DE4} {segs:List Sg} {st:DS}
theorem Zeh {bw bn:Nat} {name:ByteArray} (i:Inv st) (h1:ZjP R bw p) (h2:ZjT R bn (.string name)) (hw:Sat R (WS p d lim base s sg brk ds segs st Hs) w):
  Zq prog 103 #[.pointer (some ⟨bw,0,none⟩),.pointer (some ⟨bn,0,none⟩)] w λ v w'=>v=.int .i64 (Zi st name).2/\Sat R (WS p d lim base s sg brk ds segs (Zi st name).1 Hs) w':=by
 apply Zt6;refine Zs (Sat R [pts p (Zt d lim base s sg brk),VC.tru]) hw (λ w hw=>hw.k1) λ w hw=>?_;refine Zb.mk rfl ⟨_,h1.at Ze,Zb.mk rfl ⟨_,(by rw [Zf];exact At.own Ze (by exact ⟨rfl,trivial⟩)),Zb.mk rfl ⟨_,h2.at Ze,?_⟩⟩⟩;have hw:Sat R (Zl d st::pts p (Zt d lim base s sg brk)::ZL s ds::ZbE sg segs::Hs) w:=hw.arr;refine (ZgV i hw).use ?_;clear hw;rintro _ w ⟨rfl,hw⟩;exact ⟨_,rfl,hw.k1,rfl,hw.arr⟩
theorem Zn2 {bw bs bb:Nat} {g:Sg} {x:Sl} {xs:List Int} (i:Inv st) (hp:Zec R) (hn:g.num<100000000) (hxl:xs.length<=100000) (h1:ZjP R bw p) (h2:R.m bs=some (ZZ g)) (h3:ZjT R bb (.slice x.a x.len x.cap)) (hx:Ro R x (b8 xs)) (hw:Sat R (WS p d lim base s sg brk ds segs st Hs) w):
  Zq prog 131 #[.pointer (some ⟨bw,0,none⟩),.pointer (some ⟨bs,0,none⟩),.pointer (some ⟨bb,0,none⟩)] w λ v w'=>v=.int .i64 (Zk st (Za g.num) xs).2/\Sat R (WS p d lim base s sg brk ds segs (Zk st (Za g.num) xs).1 Hs) w':=by
 apply ZtJ;refine Zs (Sat R [pts p (Zt d lim base s sg brk),VC.tru]) hw (λ w hw=>hw.k1) λ w hw=>?_;refine Zb.mk rfl ⟨_,h1.at Ze,Zb.mk rfl ⟨_,(by rw [Zf];exact At.own Ze (by exact ⟨rfl,trivial⟩)),Zb.mk rfl ⟨_,_,_,At.ro Ze h2 (by exact ⟨rfl,rfl,rfl,trivial⟩),Zb.mk rfl ⟨x,h3.at Ze,?_⟩⟩⟩⟩;refine (ZaR hp hn hw).use ?_;clear hw;rintro _ w ⟨rfl,hw⟩;refine ⟨_,rfl,hw.k1,?_⟩;have hw:Sat R (Zl d st::pts p (Zt d lim base s sg brk)::ZL s ds::ZbE sg segs::Hs) w:=hw.arr;refine (Zd0 i hx (by omega) hw).use ?_;clear hw;rintro _ w ⟨rfl,hw⟩;exact ⟨_,rfl,hw.k1,rfl,hw.arr⟩
theorem Zn1 {bw bs:Nat} {g:Sg} (i:Inv st) (hp:Zec R) (hn:g.num<100000000) (h1:ZjP R bw p) (h2:R.m bs=some (ZZ g)) (hw:Sat R (WS p d lim base s sg brk ds segs st Hs) w):
  Zq prog 132 #[.pointer (some ⟨bw,0,none⟩),.pointer (some ⟨bs,0,none⟩)] w λ v w'=>v=.int .i64 (ZA st (Za g.num)).2/\Sat R (WS p d lim base s sg brk ds segs (ZA st (Za g.num)).1 Hs) w':=by
 apply ZtI;refine Zs (Sat R [pts p (Zt d lim base s sg brk),VC.tru]) hw (λ w hw=>hw.k1) λ w hw=>?_;refine Zb.mk rfl ⟨_,h1.at Ze,Zb.mk rfl ⟨_,(by rw [Zf];exact At.own Ze (by exact ⟨rfl,trivial⟩)),Zb.mk rfl ⟨_,_,_,At.ro Ze h2 (by exact ⟨rfl,rfl,rfl,trivial⟩),?_⟩⟩⟩;refine (ZaR hp hn hw).use ?_;clear hw;rintro _ w ⟨rfl,hw⟩;refine ⟨_,rfl,hw.k1,?_⟩;have hw:Sat R (Zl d st::pts p (Zt d lim base s sg brk)::ZL s ds::ZbE sg segs::Hs) w:=hw.arr;refine (Zei i hw).use ?_;clear hw;rintro _ w ⟨rfl,hw⟩;exact ⟨_,rfl,hw.k1,rfl,hw.arr⟩
theorem Zn0 {bw bs:Nat} {g:Sg} (hl:segs.length<=1000000) (h1:ZjP R bw p) (h2:R.m bs=some (ZZ g)) (hw:Sat R (WS p d lim base s sg brk ds segs st Hs) w):
  Zq prog 133 #[.pointer (some ⟨bw,0,none⟩),.pointer (some ⟨bs,0,none⟩)] w λ v w'=>∃ sg':Sl,v=.int .i64 0/\Sat R (WS p d lim base s sg' brk ds (segs++[g]) st Hs) w':=by
 apply ZtH;refine Zs (Sat R [pts p (Zt d lim base s sg brk),VC.tru]) hw (λ w hw=>hw.k1) λ w hw=>?_;refine Zb.mk rfl ⟨_,h1.at Ze,Zb.mk rfl ⟨_,h1.at Ze,Zb.mk rfl ⟨sg,At.own Ze (by exact ⟨rfl,trivial⟩),Zb.mk rfl ⟨_,_,_,At.ro Ze h2 (by exact ⟨rfl,rfl,rfl,trivial⟩),Zd hw λ b w hw=>⟨hw.k1,?_⟩⟩⟩⟩⟩;have hw:Sat R (ZbE sg segs::pts b (.cells (ZjQ g).toArray 96 (0,0))::pts p (Zt d lim base s sg brk)::ZL s ds::Zl d st::Hs) w:=hw.arr;refine Zc2 elG hw rfl rfl (by rw [List.length_map];omega) (by rw [List.length_map];omega) λ sg2 w hw=>?_;have hw:Sat R (pts p (Zt d lim base s sg brk)::ZL s ds::ZbE sg2 (segs++[g])::Zl d st::Hs) w:=by
  unfold ZbE;rw [List.map_append];simp only [List.map_cons,List.map_nil];exact hw.arr
 refine ⟨hw.k1,Zb.mk rfl ?_⟩;refine Zc hw (by kernel_rfl) rfl (by simp [Value.cells,Zn]) λ w hw=>?_;exact ⟨sg2,rfl,hw⟩
def Zk0 (R:Cx) (Hs:List HP) (p d:Nat) (lim base:Int) (s:Sl) (brk:Bool) (ds:List DE4) (segs:Int->List Sg) (x:DS × Int) (n:Int) (w:World):Prop:=∃ (R':Cx) (sg:Sl),R.Ext R'/\n=x.2/\Sat R' (WS p d lim base s sg brk ds (segs n) x.1 Hs) w
def ZcU (segs:List Sg) (n:Nat) (next:Int) (e:Int):List Sg:=if e=0 then segs++[⟨n,next,(ZH n next).length⟩] else segs
theorem ZkD {n:Nat} {next:Int} (i:Inv st) (hp:Zec R) (hn:n<=99999999) (h0:0<=next) (h1:next<=1099511627777) (hl:segs.length<=1000000) (hw:Sat R (WS p d lim base s sg brk ds segs st Hs) w):
  Zq prog 89 #[.pointer (some ⟨p,0,none⟩),.int .i64 n,.int .i64 next] w λ v w'=>∃ e,v=.int .i64 e/\Zk0 R Hs p d lim base s brk ds (ZcU segs n next) (Zae st n next) e w':=by
 apply ZuZ;refine Zd hw λ bw w hw=>?_;obtain ⟨R1,e1,b1,hw⟩:=Za3 hw;refine Zd hw λ b3 w hw=>?_;obtain ⟨hc3,hw⟩:=Sat.lend.1 hw;refine (Zck (t:=none) (sd:=⟨none,0,0⟩) (xs:=[0,n,next]) (sl:=⟨some ⟨b3,0,none⟩,3,3⟩) (λ x hx=>by simp at hx;omega) (by simp) (λ d h=>by cases h) (Zdo (by simp) rfl hc3) hw).use ?_;clear hw;rintro _ w ⟨t,rfl,hw⟩;rw [ZlX] at hw;have htl:t.len=(ZH n next).length:=by have:=Own.len hw;simpa using this
 have hhl:(ZH n next).length<=1000:=by have:=ZdV (n:=n) (next:=next) hn h1;unfold ZH;rw [ZK];omega
 have hw:Sat R1 (Own t 5 (b8 (ZH n next))::WS p d lim base s sg brk ds segs st Hs) w:=((Sat.lend.2 ⟨hc3,hw⟩:Sat R1 (pts b3 _::Own t 5 (b8 (ZH n next))::WS p d lim base s sg brk ds segs st Hs) w)).drop;obtain ⟨R2,e2,ht,hw⟩:=Own.leak hw;refine ⟨t,rfl,Zd hw λ bb w hw=>?_⟩;refine Zc hw (by kernel_rfl) rfl (by simp [Value.cells,Zn]) λ w hw=>?_;refine ⟨t,At.own (eqS hw) (by exact ⟨rfl,trivial⟩),?_⟩;obtain ⟨R3,e3,b3',hw⟩:=ZhU (v:=.slice t.a t.len t.cap) rfl hw;refine Zd hw λ bs w hw=>?_;refine Zc hw (by kernel_rfl) rfl (by simp [Value.cells,Zn]) λ w hw=>?_;rw [htl] at hw;have hw:Sat R3 (pts bs (ZZ ⟨n,next,(ZH n next).length⟩)::WS p d lim base s sg brk ds segs st Hs) w:=hw;obtain ⟨R4,e4,b4,hw⟩:=pts.leak hw;refine Zd hw λ bt w hw=>?_;obtain ⟨R5,e5,b5,hw⟩:=pts.leak hw;have e25:=(e3.trans e4).trans e5;have e15:=e2.trans e25;have hp5:=hp.ext (e1.trans e15);have hx:=(e25.slR ht).ro (by rw [List.length_map];omega);have hro:Ro R5 ⟨some ⟨bt,0,none⟩,3,3⟩ [.func (.func 131) #[] #[.pointer (some ⟨bw,0,none⟩),.pointer (some ⟨bs,0,none⟩),.pointer (some ⟨bb,0,none⟩)],.func (.func 132) #[] #[.pointer (some ⟨bw,0,none⟩),.pointer (some ⟨bs,0,none⟩)],.func (.func 133) #[] #[.pointer (some ⟨bw,0,none⟩),.pointer (some ⟨bs,0,none⟩)]]:=
  ⟨rfl,by simp,λ _=>⟨bt,0,_,_,_,rfl,b5,λ i v h=>by simpa using h⟩⟩
 have hbw:=b1.ext e15;have hbb:=b3'.ext (e4.trans e5);have hbs:=e5.m _ _ b4;refine (ZgP (Q:=Zk0 R Hs p d lim base s brk ds (ZcU segs n next) (Zae st n next)) hro (by simp) hw ?_).use ?_
 ·refine Zcm.mk (by kernel_rfl) ((Zn2 (g:=⟨n,next,(ZH n next).length⟩) (x:=t) (xs:=ZH n next) i hp5 (by show n<_;omega) (by omega) hbw hbs hbb hx hw).use ?_)
  clear hw;rintro _ w ⟨rfl,hw⟩;refine ⟨_,rfl,?_⟩;by_cases he:(Zk st (Za n) (ZH n next)).2=0
  case neg=>
   refine .inl ⟨he,R5,sg,e1.trans e15,?_,?_⟩
   ·unfold Zae Z3;rw [if_neg he]
   ·unfold Zae Z3 ZcU;rw [if_neg he,if_neg he];exact hw
  refine .inr ⟨he,⟨_,hw⟩,?_⟩;have i2:=Z7 i (Za n) (ZH n next);refine Zcm.mk (by kernel_rfl) ((Zn1 (g:=⟨n,next,(ZH n next).length⟩) i2 hp5 (by show n<_;omega) hbw hbs hw).use ?_);clear hw;rintro _ w ⟨rfl,hw⟩;have em:Zae st n next=ZA (Zk st (Za n) (ZH n next)).1 (Za n):=by unfold Zae Z3;rw [if_pos he]
  rw [<-em] at hw ⊢;refine ⟨_,rfl,?_⟩;by_cases he2:(Zae st n next).2=0
  case neg=>
   refine .inl ⟨he2,R5,sg,e1.trans e15,rfl,?_⟩;unfold ZcU;rw [if_neg he2];exact hw
  refine .inr ⟨he2,⟨_,hw⟩,?_⟩;refine Zcm.mk (by kernel_rfl) ((Zn0 hl hbw hbs hw).use ?_);clear hw;rintro _ w ⟨sg',rfl,hw⟩;refine ⟨_,rfl,.inr ⟨rfl,⟨_,hw⟩,R5,sg',e1.trans e15,he2.symm,?_⟩⟩;unfold ZcU;rw [if_pos rfl];exact hw
 ·rintro _ w ⟨e,rfl,h⟩
  exact ⟨e,rfl,e,rfl,h⟩
end
end Go.Proofs.YtkfedbncmfnpnaaGreatDoor
