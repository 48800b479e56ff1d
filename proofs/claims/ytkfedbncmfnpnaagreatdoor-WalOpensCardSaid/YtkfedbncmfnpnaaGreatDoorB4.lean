/- Package field: numbers and bytes as bytes. Condition: bounds on lengths. -/
import Derived.Test.YtkfedbncmfnpnaaGreatDoorB2
import Derived.Test.YtkfedbncmfnpnaaGreatDoorB3
import Derived.KernelRfl
import Derived.Laws.MakeOwn
import Derived.Maps.RangeRun
import Derived.Shelf.Strings.Builder1
import Derived.Shelf.Strings.Builder2
import Derived.Shelf.Small.Bits
import Derived.Shelf.Small.Wraps
import Derived.Shelf.Strings.BuilderF
import Derived.Shelf.Strconv.Atoi
import Derived.Shelf.Strconv.Itoa0
import Derived.Shelf.Strconv.Itoa1
import Derived.Shelf.LaysM
import Derived.Shelf.Strconv.Itoa2
import Derived.Shelf.Strconv.Itoa3
import Derived.Shelf.Sort.Plain
import Derived.Shelf.GgClosure.StringsIndexFunc
import Derived.Ground.GgwProg
import Derived.Shelf.GgClosure.StringsIndexFuncTop
import Derived.Shelf.Strings.Prefix
import Derived.Shelf.Bits.Mul64
import Derived.Shelf.Strings.Repeat
import Derived.Shelf.Slices.In.SortNone
import Derived.Test.YtkfedbncmfnpnaaGreatDoorProg
import Derived.Lib.ItoaNum
import Derived.Lib.Repeat
import Derived.Lib.Atoi
import Derived.Lib.LaidTab
import Derived.Lib.Strings
import Derived.Lib.SmallJoins
namespace Go.Proofs.YtkfedbncmfnpnaaGreatDoor
set_option linter.unusedVariables false
set_option linter.unusedSimpArgs false
open Go Go.VC
variable {R:Cx} {Hs Rest:List HP} {w:World}
theorem _root_.Go.VC.SlR.mono {h h':Heap} {s:Sl} {xs:List Value} (hs:∀ b o,h b=some o→h' b=some o) (a:SlR h s xs):SlR h' s xs:=
 ⟨a.len,a.cap,fun hx=>let ⟨b,off,l,T,fr,ha,hb,hl⟩:=a.mem hx;⟨b,off,l,T,fr,ha,hs _ _ hb,hl⟩⟩
abbrev amissP:List PanicEntry:=[⟨.iface 239 (.agg #[]),false,false⟩]
theorem must_c {b:Bool} {Q:Ending→World→Prop} (h1:b=true→Q (.returned (.tuple #[])) w) (h2:b=false→Q (.panicked amissP) w):Calls Tryz.prog 193 #[.bool b] w Q:=by
 have h:GetsX Tryz.prog 193 #[.bool b] w (fun ch w'=>b=false∧ch=amissP∧w'=w) (fun v w'=>b=true∧v=.tuple #[]∧w'=w):=by
  apply call193
  refine Br.nb (fun h=>?_) (fun h=>?_)
  ·exact ⟨h,rfl,rfl⟩
  ·exact ⟨h,rfl,rfl⟩
 refine h.use ?_ ?_
 ·rintro v w' ⟨hb,rfl,e⟩;rw [e];exact h1 hb
 ·rintro v w' ⟨hb,rfl,e⟩;rw [e];exact h2 hb
abbrev lp (l:Nat) (s:Sl):HP:=pts l (.cells [.slice s.a s.len s.cap].toArray 53 (0,0))
abbrev sdrop (s:Sl) (k:Nat):Sl:=⟨cutA s.a k s.cap 1,s.len - k,s.cap - k⟩
theorem take_spec {l:Nat} {s:Sl} {xs:List Value} {k:Nat} (hr:SlR R.m s xs) (hw:Sat R (lp l s::Hs) w):
  GetsX Tryz.prog 222 #[.pointer (some ⟨l,0,none⟩),.int .i64 k] w
   (fun ch w'=>xs.length<k∧ch=amissP∧Sat R (lp l s::Hs) w')
   (fun v w'=>k≤xs.length∧v=.slice s.a k s.cap∧Sat R (lp l (sdrop s k)::Hs) w'):=by
 have hlen:=hr.len
 have hcap:=hr.cap
 apply call222
 refine NilP.mk rfl ⟨s,At.own (eqS hw) (by exact ⟨rfl,trivial⟩),must_c (fun h=>.inl ⟨rfl,?_⟩) (fun h=>.inr ⟨_,rfl,?_⟩)⟩
 ·have h:=of_decide_eq_true h
  refine NilP.mk rfl ⟨s,At.own (eqS hw) (by exact ⟨rfl,trivial⟩),by omega,by omega,NilP.mk rfl ⟨s,At.own (eqS hw) (by exact ⟨rfl,trivial⟩),by omega,by omega,NilP.mk rfl ?_⟩⟩
  rw [Int.toNat_natCast]
  refine store_rule hw (by kernel_rfl) rfl (by simp [Value.cells]) fun w hw=>?_
  exact ⟨by omega,rfl,hw⟩
 ·have h:=of_decide_eq_false h
  exact ⟨by omega,rfl,hw⟩
theorem andn32:∀ c:Fin 32,bitI .andNot .u8 ((c.1:Nat):Int) 16=if 16≤((c.1:Nat):Int) then ((c.1:Nat):Int) - 16 else ((c.1:Nat):Int):=by decide +kernel
theorem andn {c:Int} (h0:0≤c) (h1:c<32):IntKind.i64.wrap (bitI .andNot .u8 c 16)=if 16≤c then c - 16 else c:=by
 obtain ⟨n,rfl⟩:=Int.eq_ofNat_of_zero_le h0
 have:=andn32 ⟨n,by omega⟩
 simp only at this
 rw [this]
 split<;>exact wrap64 (by omega) (by omega)
theorem shl8_or {n t:Int} (h0:0≤n) (h1:n<72057594037927936) (t0:0≤t) (t1:t<256):bitI .or .u64 (shlI .u64 n 8) (IntKind.u64.wrap t)=n * 256 + t:=by
 have e:shlI .u64 n 8=n * 256:=by
  show IntKind.u64.wrap (n * 2 ^ 8)=_
  rw [wrapU64 (by omega) (by omega)];omega
 rw [e,wrapU64 t0 (by omega)]
 obtain ⟨a,rfl⟩:=Int.eq_ofNat_of_zero_le h0
 obtain ⟨b,rfl⟩:=Int.eq_ofNat_of_zero_le t0
 have:=orU64 (x:=a * 256) (y:=b) (by omega) (by omega)
 rw [or_byte a b (by omega)] at this
 rw [show ((a * 256:Nat):Int)=(a:Int) * 256 from Int.natCast_mul a 256] at this
 rw [this]
 exact (Int.natCast_add (a * 256) b).trans (by rw [Int.natCast_mul];rfl)
abbrev widN (c:Int):Nat:=(if 16≤c then c - 16 else c).toNat
theorem fsize_spec {h:Heap} {l:Nat} {s:Sl} {bs:List Int} (hb:∀ x∈bs,0≤x∧x<256) (hsub:∀ b o,h b=some o→R.m b=some o) (hr0:SlR h s (b8 bs)) (hw:Sat R (lp l s::Hs) w):
  GetsX Tryz.prog 192 #[.pointer (some ⟨l,0,none⟩)] w
   (fun ch w'=>parse bs=none∧ch=amissP∧∃ s',Sat R (lp l s'::Hs) w')
   (fun v w'=>∃ n neg k s',parse bs=some (n,neg,k)∧v=.tuple #[.int .u64 n,.bool neg]∧SlR h s' (b8 (bs.drop k))∧Sat R (lp l s'::Hs) w'):=by
 have hr:SlR R.m s (b8 bs):=hr0.mono hsub
 apply call192
 refine (take_spec (k:=1) hr hw).use ?_ ?_
 rotate_left
 ·rintro _ w ⟨h,rfl,hw⟩
  refine .inr ⟨_,rfl,?_,rfl,s,hw⟩
  cases bs with
  |nil=>rfl
  |cons=>simp at h
 rintro _ w ⟨hlen,rfl,hw⟩
 cases bs with
 |nil=>simp at hlen
 |cons c rest=>
 have hc:=hb c List.mem_cons_self
 have hbr:∀ x∈rest,0≤x∧x<256:=fun x hx=>hb x (List.mem_cons_of_mem _ hx)
 refine .inl ⟨⟨s.a,1,s.cap⟩,rfl,?_⟩
 have hr1:SlR R.m ⟨s.a,1,s.cap⟩ (b8 [c]):=hr.take (k:=1) hlen
 have hrd:SlR R.m (sdrop s 1) (b8 rest):=hr.drop (k:=1) hlen
 have:=SlR.idxK (Hs:=lp l (sdrop s 1)::Hs) (S:=fun w'=>w'=w) hr1 (eqS hw) (k:=0) (by simp) (F:=fun t=>t=c) rfl
 obtain ⟨h0,h1,this⟩:=this.out
 obtain ⟨a,ha,t,hat,rfl⟩:=this.out
 refine Rng.mk h0 h1 (NilP.mk ha ⟨t,hat,?_⟩)
 have hsnone:∀ {p:Prop},¬ p→True:=fun _=>trivial
 refine ⟨fun w=>(t<32∧widN t≤8∧(widN t=0→t=0))∧Sat R (lp l (sdrop s 1)::Hs) w,?_,?_⟩
 ·have bad:(t<32∧widN t≤8∧widN t≤rest.length∧(widN t=0→t=0)∧(widN t≠0→rest.head?≠some 0)→False)→parse (t::rest)=none:=fun h=>by
   unfold parse;simp only;rw [if_neg h]
  refine Br.d (fun h=>?_) (fun h=>?_)
  ·rw [andn hc.1 h]
   refine Br.d (fun h2=>?_) (fun h2=>?_)
   ·refine Br.d (fun h3=>?_) (fun h3=>?_)
    ·exact must_c (fun _=>.inl ⟨rfl,⟨h,by unfold widN;omega,fun h4=>by unfold widN at h4;omega⟩,hw⟩) (fun h=>by cases h)
    ·refine must_c (fun h4=>.inl ⟨rfl,⟨h,by unfold widN;omega,fun h5=>?_⟩,hw⟩) (fun h4=>.inr ⟨_,rfl,bad ?_,rfl,_,hw⟩)
     ·simp only [ge_iff_le,Bool.not_eq_true',decide_eq_false_iff_not] at h4
      rw [if_neg h4] at h3;omega
     ·simp only [ge_iff_le,Bool.not_eq_false',decide_eq_true_eq] at h4
      rintro ⟨_,_,_,h5,_⟩
      rw [if_pos h4] at h3
      have:=h5 (by unfold widN;rw [if_pos h4];omega)
      omega
   ·exact must_c (fun h=>by cases h) (fun _=>.inr ⟨_,rfl,bad (by rintro ⟨_,h3,_⟩;unfold widN at h3;omega),rfl,_,hw⟩)
  ·exact must_c (fun h=>by cases h) (fun _=>.inr ⟨_,rfl,bad (by rintro ⟨h3,_⟩;exact h h3),rfl,_,hw⟩)
 clear hat ha h0 h1
 rintro _ w ⟨⟨h32,h8,hz⟩,hw⟩
 rw [andn hc.1 h32]
 have hwid:(if 16≤t then t - 16 else t)=((widN t:Nat):Int):=by
  unfold widN;rw [Int.toNat_of_nonneg];split<;>omega
 rw [hwid]
 generalize hW:widN t=W at *
 refine (take_spec (k:=W) hrd hw).use ?_ ?_
 rotate_left
 ·rintro _ w ⟨h,rfl,hw⟩
  refine .inr ⟨_,rfl,?_,rfl,_,hw⟩
  unfold parse;simp only;rw [if_neg]
  rintro ⟨_,_,h3,_⟩
  have:widN t≤rest.length:=h3
  simp at h;omega
 rintro _ w ⟨hl,rfl,hw⟩
 have hl:W≤rest.length:=by simpa using hl
 have hrt:SlR R.m ⟨(sdrop s 1).a,W,(sdrop s 1).cap⟩ (b8 (rest.take W)):=by have:=hrd.take (k:=W) (by simpa using hl);rwa [←List.map_take] at this
 have hlt:(rest.take W).length=W:=by simp;omega
 refine .inl ⟨⟨(sdrop s 1).a,W,(sdrop s 1).cap⟩,rfl,?_⟩
 refine ⟨fun n i w=>∃ k:Nat,i=k∧k≤W∧n=valI 0 (rest.take k)∧(k≠0→rest.head?≠some 0)∧Sat R (lp l (sdrop (sdrop s 1) W)::Hs) w,fun _ i _=>W - i.toNat,⟨0,rfl,Nat.zero_le _,rfl,fun h=>absurd rfl h,hw⟩,?_⟩
 rintro _ _ _ w ⟨k,rfl,hk,rfl,hh,hw⟩
 refine Br.d (fun h=>?_) (fun h=>?_)
 ·have hk2:k<W:=by have:((k:Nat):Int)<(W:Int):=h;omega
  have hkr:k<rest.length:=by omega
  have:=SlR.idxK (Hs:=lp l (sdrop (sdrop s 1) W)::Hs) (S:=fun w'=>w'=w) hrt (eqS hw) (k:=k) (by omega) (F:=fun t=>t=rest[k]) (by simp)
  obtain ⟨h0,h1,this⟩:=this.out
  obtain ⟨a,ha,x,hat,rfl⟩:=this.out
  refine Rng.mk h0 h1 (NilP.mk ha ⟨_,hat,?_⟩)
  have hx:=hbr rest[k] (List.getElem_mem _)
  have hvb:∀ x∈rest.take k,0≤x∧x<256:=fun x hx=>hbr x (List.mem_of_mem_take hx)
  have hv0:=valI_nn (acc:=0) (Int.le_refl _) hvb
  have hv1:valI 0 (rest.take k)<72057594037927936:=by
   refine Int.lt_of_lt_of_le (valI_lt (Int.le_refl _) hvb) ?_
   rw [List.length_take,Nat.min_eq_left (by omega),Int.zero_add,Int.one_mul]
   have h9:256 ^ k≤256 ^ 7:=Nat.pow_le_pow_right (by omega) (by omega)
   have:((256 ^ k:Nat):Int)≤((256 ^ 7:Nat):Int):=Int.ofNat_le.2 h9
   rw [Int.natCast_pow] at this
   exact Int.le_trans this (by decide)
  have hstep:∀ w,(rest.head?≠some 0)→Sat R (lp l (sdrop (sdrop s 1) W)::Hs) w→
    (∃ k':Nat,IntKind.i64.wrap ((k:Int) + 1)=k'∧k'≤W∧bitI .or .u64 (shlI .u64 (valI 0 (rest.take k)) 8) (IntKind.u64.wrap rest[k])=valI 0 (rest.take k')∧(k'≠0→rest.head?≠some 0)∧Sat R (lp l (sdrop (sdrop s 1) W)::Hs) w)∧W - (IntKind.i64.wrap ((k:Int) + 1)).toNat<W - (k:Int).toNat:=fun w h1 hw=>by
   rw [wrap64 (by omega) (by omega)]
   refine ⟨⟨k + 1,by omega,by omega,?_,fun _=>h1,hw⟩,by omega⟩
   rw [shl8_or hv0 hv1 hx.1 hx.2,List.take_succ_eq_append_getElem hkr,valI_snoc]
  refine Br.d (fun h3=>?_) (fun h3=>?_)
  ·exact must_c (fun _=>.inl ⟨rfl,hstep _ (hh (by omega)) hw⟩) (fun h=>by cases h)
  ·have hk0:k=0:=by omega
   subst hk0
   have hhead:rest.head? =some rest[0]:=by rw [List.head?_eq_getElem?,List.getElem?_eq_getElem hkr]
   refine must_c (fun h4=>.inl ⟨rfl,hstep _ ?_ hw⟩) (fun h4=>.inr ⟨_,rfl,?_,rfl,_,hw⟩)
   ·have h4:=of_decide_eq_true h4
    rw [hhead];intro h5;simp only [Option.some.injEq] at h5;omega
   ·have h4:=of_decide_eq_false h4
    unfold parse;simp only;rw [if_neg]
    rintro ⟨_,_,_,_,h5⟩
    have h6:widN t≠0:=by omega
    refine h5 h6 ?_
    rw [hhead];congr 1;omega
 ·have hkW:k=W:=by have:¬ ((k:Nat):Int)<(W:Int):=h;omega
  subst hkW
  refine ⟨valI 0 (rest.take k),decide (t ≥ 16),k + 1,sdrop (sdrop s 1) k,?_,rfl,?_,?_⟩
  ·unfold parse;simp only
   have e:(if 16≤t then t - 16 else t).toNat=k:=hW
   rw [e,if_pos ⟨h32,h8,hl,hz,hh⟩]
  ·have:=(hr0.drop (k:=1) hlen).drop (k:=k) (by simpa using hl)
   simpa using this
  ·exact hw
end Go.Proofs.YtkfedbncmfnpnaaGreatDoor
/- Package record: Scan. Condition: bounds on lengths. -/
namespace Go.Proofs.YtkfedbncmfnpnaaGreatDoor
set_option linter.unusedVariables false
set_option linter.unusedSimpArgs false
open Go Go.VC
variable {R:Cx} {Hs Rest:List HP} {w:World}
theorem _root_.Go.VC.Sat.restTru {A:HP} (h:Sat R (A::Hs) w):Sat R [A,VC.tru] w:=
 h.cons fun R' h=>by
  have key:∀ (Hs:List HP) (R':Cx),Sat R' Hs w→Sat R' [VC.tru] w:=fun Hs=>by
   induction Hs with
   |nil=>exact fun R' h=>h.tru
   |cons B Hs ih=>exact fun R' h=>Sat.absorb (h.cons fun R'' h=>ih R'' h)
  exact key _ _ h
def slLen (c:Nat) (w:World):Nat:=match (w.heap[c]? :Option Obj) with
 |some (Obj.cells l _ _)=>(match (l[0]? :Option Value) with|some (Value.slice _ n _)=>n|_=>0)
 |_=>0
theorem slLen_at {c:Nat} {t:Sl} {T:TypeId} (hw:Sat R (pts c (.cells [.slice t.a t.len t.cap].toArray T (0,0))::Hs) w):slLen c w=t.len:=by
 unfold slLen
 rw [hw.at]
 rfl
theorem records_spec {s:Sl} (hw:Sat R Hs w):Gets Tryz.prog 154 #[.slice s.a s.len s.cap] w fun v w'=>∃ c,v=.func (.func 188) #[] #[.pointer (some ⟨c,0,none⟩)]∧Sat R (lp c s::Hs) w':=by
 apply call154
 exact new_rule hw fun c w hw=>⟨c,rfl,hw⟩
theorem _root_.Go.VC.SlR.b8take {h:Heap} {s:Sl} {xs:List Int} (a:SlR h s (b8 xs)) {k:Nat} (hk:k≤xs.length):SlR h ⟨s.a,k,s.cap⟩ (b8 (xs.take k)):=by
 have:=a.take (k:=k) (by simpa using hk)
 simpa using this
theorem _root_.Go.VC.SlR.b8drop {h:Heap} {s:Sl} {xs:List Int} (a:SlR h s (b8 xs)) {k:Nat} (hk:k≤xs.length):SlR h (sdrop s k) (b8 (xs.drop k)):=by
 have:=a.drop (k:=k) (by simpa using hk)
 simpa using this
theorem iter_spec {L c nn:Nat} {s:Sl} {bs:List Int} (hbs:∀ x∈bs,0≤x∧x<256) (hlen:bs.length≤1099511627776) (hs:SlR R.m s (b8 bs)) (I:List (List Int)→List HP)
  (hY:∀ (pre:List (List Int)) (x:List Int) (W:World) (A:HP) (t:Sl),pre++[x]<+:scan bs→SlR R.m t (b8 x)→Sat R (A::I pre) W→
   YieldAt Fence.wide (nn - 1) Tryz.prog L #[.slice t.a t.len t.cap] W fun e W'=>e=.returned (.bool true)∧Sat R (A::I (pre++[x])) W')
  (hw:Sat R (lp c s::I []) w):
  CallsIn Fence.wide nn Tryz.prog 188 #[.func (.yield L) #[] #[],.pointer (some ⟨c,0,none⟩)] w fun e w'=>(∃ v,e=.returned v)∧Sat R (I (scan bs)) w':=by
 refine CallsIn.mono (cally188 L (some ⟨c,0,none⟩) (fun _ w'=>Sat R (I (scan bs)) w') w ?_) (fun e w' ⟨v,hv,h⟩=>⟨⟨v,hv⟩,h⟩)
 refine ⟨fun w=>∃ pre rest t,scan bs=pre++scan rest∧rest.length≤bs.length∧(∀ x∈rest,0≤x∧x<256)∧SlR R.m t (b8 rest)∧Sat R (lp c t::I pre) w,fun w=>slLen c w,⟨[],bs,s,rfl,Nat.le_refl _,hbs,hs,hw⟩,?_⟩
 clear hw
 rintro _ w0 ⟨pre,rest,t,hsc,hrl,hrb,hr,hw⟩
 have hmu:slLen c w0=t.len:=slLen_at hw
 have hl:t.len=rest.length:=by have:=hr.len;simpa using this
 have hcap:=hr.cap
 have stop:∀ {w},first rest=none→Sat R (lp c t::I pre) w→Sat R (I (scan bs)) w:=fun hf hw=>by
  rw [hsc,scan_none hf,List.append_nil];exact hw.drop
 refine NilP.mk rfl ⟨t,At.own (eqS hw) (by exact ⟨rfl,trivial⟩),?_⟩
 refine Br.mk (fun h=>?_) (fun h=>?_)
 rotate_left
 ·have h:=of_decide_eq_false h
  exact stop (by unfold first;rw [if_neg (by omega)]) hw
 have h8:8≤rest.length:=by have:=of_decide_eq_true h;omega
 have hfirst:first rest=if (valI 0 (rest.take 4)).toNat≤65536∧(valI 0 (rest.take 4)).toNat≤rest.length - 8∧crcAdd 0 (rest.take 4++(rest.drop 8).take (valI 0 (rest.take 4)).toNat)=(valI 0 ((rest.drop 4).take 4)).toNat then some ((rest.drop 8).take (valI 0 (rest.take 4)).toNat) else none:=by
  unfold first;rw [if_pos h8]
 have hb4:∀ x∈rest.take 4,0≤x∧x<256:=fun x hx=>hrb x (List.mem_of_mem_take hx)
 have hb8:∀ x∈(rest.drop 4).take 4,0≤x∧x<256:=fun x hx=>hrb x (List.mem_of_mem_drop (List.mem_of_mem_take hx))
 have hn0:=valI_nn (acc:=0) (Int.le_refl _) hb4
 have hn1:valI 0 (rest.take 4)<4294967296:=by
  refine Int.lt_of_lt_of_le (valI_lt (Int.le_refl _) hb4) ?_
  rw [List.length_take,Nat.min_eq_left (by omega)];decide
 have hm0:=valI_nn (acc:=0) (Int.le_refl _) hb8
 obtain ⟨n,hn⟩:=Int.eq_ofNat_of_zero_le hn0
 rw [hn] at hn1 hfirst
 rw [Int.toNat_natCast] at hfirst
 have r4:SlR R.m ⟨t.a,4,t.cap⟩ (b8 (rest.take 4)):=hr.b8take (by omega)
 have r48:SlR R.m ⟨(sdrop t 4).a,4,(sdrop t 4).cap⟩ (b8 ((rest.drop 4).take 4)):=(hr.b8drop (k:=4) (by omega)).b8take (by simp;omega)
 refine NilP.mk rfl ⟨t,At.own (eqS hw) (by exact ⟨rfl,trivial⟩),by omega,by omega,?_⟩
 refine (number4_spec (s:=⟨t.a,4,t.cap⟩) (xs:=rest.take 4) (by simp;omega) hb4 (r4.ro (by simp;omega)) hw).use ?_
 rintro _ w ⟨rfl,hw⟩
 rw [hn]
 refine ⟨_,rfl,fun w=>(n≤65536∧n≤rest.length - 8)∧Sat R (lp c t::I pre) w,?_,?_⟩
 ·refine Br.mk (fun h=>?_) (fun h=>?_)
  ·have h:=of_decide_eq_true h
   exact stop (by rw [hfirst,if_neg];rintro ⟨h1,_⟩;omega) hw
  ·have h:=of_decide_eq_false h
   refine NilP.mk rfl ⟨t,At.own (eqS hw) (by exact ⟨rfl,trivial⟩),?_⟩
   rw [wrap64 (by omega) (by omega),wrap64 (by omega) (by omega)]
   refine Br.mk (fun h2=>?_) (fun h2=>?_)
   ·have h2:=of_decide_eq_true h2
    exact stop (by rw [hfirst,if_neg];rintro ⟨_,h1,_⟩;omega) hw
   ·have h2:=of_decide_eq_false h2
    exact ⟨⟨by omega,by omega⟩,hw⟩
 clear hw
 rintro _ w ⟨⟨hn2,hn3⟩,hw⟩
 have e8:IntKind.i64.wrap (8 + IntKind.i64.wrap (n:Int))=((8 + n:Nat):Int):=by
  rw [wrap64 (x:=(n:Int)) (by omega) (by omega),wrap64 (by omega) (by omega)];omega
 have e9:(((8 + n:Nat):Int)).toNat - Int.toNat 8=n:=by omega
 have rb:SlR R.m ⟨(sdrop t 8).a,n,(sdrop t 8).cap⟩ (b8 ((rest.drop 8).take n)):=(hr.b8drop (k:=8) (by omega)).b8take (by simp;omega)
 have hbb:∀ x∈(rest.drop 8).take n,0≤x∧x<256:=fun x hx=>hrb x (List.mem_of_mem_drop (List.mem_of_mem_take hx))
 refine NilP.mk rfl ⟨t,At.own (eqS hw) (by exact ⟨rfl,trivial⟩),?_⟩
 rw [e8,e9]
 refine ⟨by omega,by omega,by omega,by omega,?_⟩
 refine drw_rule' (Sat R [lp c t,VC.tru]) hw (fun w hw=>hw.restTru) fun w hw=>?_
 refine NilP.mk rfl ⟨t,At.own selfS (by exact ⟨rfl,trivial⟩),by omega,by omega,NilP.mk rfl ⟨t,At.own selfS (by exact ⟨rfl,trivial⟩),by omega,by omega,by omega,by omega,?_⟩⟩
 refine (sum_spec (s:=⟨t.a,4,t.cap⟩) (xs:=rest.take 4) hb4 (r4.ro (by simp;omega)) hw).use ?_
 rintro _ w ⟨rfl,hw⟩
 refine ⟨_,rfl,hw.restTru,?_⟩
 have hc1:crcAdd 0 (rest.take 4)<4294967296:=crcAdd_lt (by omega) hb4
 have hq2:=crcAdd_app 0 (rest.take 4) ((rest.drop 8).take n)
 generalize crcAdd 0 (rest.take 4)=q at hc1 hq2 ⊢
 refine (add_spec (sum:=q) (s:=⟨(sdrop t 8).a,n,(sdrop t 8).cap⟩) hc1 hbb (rb.ro (by simp;omega)) hw).use ?_
 rintro _ w ⟨rfl,hw⟩
 refine ⟨_,rfl,hw.restTru,?_⟩
 rw [hq2]
 refine (number4_spec (s:=⟨(sdrop t 4).a,4,(sdrop t 4).cap⟩) (xs:=(rest.drop 4).take 4) (by simp;omega) hb8 (r48.ro (by simp;omega)) hw).use ?_
 rintro _ w ⟨rfl,hw⟩
 refine ⟨_,rfl,hw.restTru,?_⟩
 generalize hC:crcAdd 0 (rest.take 4++(rest.drop 8).take n)=C at hfirst ⊢
 refine Br.ne (fun h=>?_) (fun h=>?_)
 ·exact stop (by rw [hfirst,if_neg];rintro ⟨_,_,h1⟩;omega) hw
 have hsome:first rest=some ((rest.drop 8).take n):=by rw [hfirst,if_pos ⟨hn2,hn3,by omega⟩]
 have hxl:((rest.drop 8).take n).length=n:=by simp;omega
 have hss:=scan_some hsome
 rw [hxl] at hss
 refine (hY pre ((rest.drop 8).take n) w (lp c t) ⟨(sdrop t 8).a,n,(sdrop t 8).cap⟩ ⟨scan (rest.drop (8 + n)),by rw [hsc,hss];simp⟩ rb hw).imp ?_
 rintro fn ⟨tmps,assign,body,hrun,hround⟩
 refine ⟨tmps,assign,body,hrun,RoundIn.mono hround ?_⟩
 rintro e w ⟨rfl,hw⟩
 refine ⟨true,rfl,hw.restTru,?_⟩
 refine Br.f rfl ?_
 refine NilP.mk rfl ⟨t,At.own (eqS hw) (by exact ⟨rfl,trivial⟩),?_⟩
 refine ⟨by omega,by omega,?_⟩
 rw [Int.toNat_natCast]
 refine store_rule hw (by kernel_rfl) rfl (by simp [Value.cells]) fun w hw=>?_
 have hw:Sat R (lp c (sdrop t (8 + n))::I (pre++[(rest.drop 8).take n])) w:=hw
 refine ⟨⟨pre++[(rest.drop 8).take n],rest.drop (8 + n),sdrop t (8 + n),?_,by simp;omega,fun x hx=>hrb x (List.mem_of_mem_drop hx),hr.b8drop (by omega),hw⟩,?_⟩
 ·rw [hsc,hss];simp
 ·show slLen c w<slLen c w0
  rw [slLen_at hw,hmu]
  show t.len - (8 + n)<t.len
  omega
end Go.Proofs.YtkfedbncmfnpnaaGreatDoor
/- Package record: Scan, the whole. Condition: bounds on lengths. -/
namespace Go.Proofs.YtkfedbncmfnpnaaGreatDoor
set_option linter.unusedVariables false
set_option linter.unusedSimpArgs false
open Go Go.VC
variable {R:Cx} {Hs Rest:List HP} {w:World}
def BytesL (l:Sl) (xss:List (List Int)):HP:=
 exs fun ps:List (Sl × List Int)=>Star [pur (ps.map (·.2)=xss),Own l 53 (ps.map fun p=>Sl.v p.1),Star (ps.map fun p=>Own p.1 5 (b8 p.2))]
theorem Sat.bytesL {l:Sl} {xss:List (List Int)}:Sat R (BytesL l xss::Hs) w↔∃ ps:List (Sl × List Int),ps.map (·.2)=xss∧Sat R (Own l 53 (ps.map fun p=>Sl.v p.1)::Star (ps.map fun p=>Own p.1 5 (b8 p.2))::Hs) w:=by
 unfold BytesL
 rw [Sat.exs]
 exact ⟨fun ⟨ps,h⟩=>let h:=Sat.pur.1 (Sat.star.1 h);⟨ps,h.1,h.2⟩,fun ⟨ps,h,hs⟩=>⟨ps,Sat.star.2 (Sat.pur.2 ⟨h,hs⟩)⟩⟩
def OutAt (b:Nat) (xss:List (List Int)):HP:=exs fun l:Sl=>Star [pts b (.cells [.slice l.a l.len l.cap].toArray 139 (0,0)),BytesL l xss]
theorem Sat.outAt {b:Nat} {xss:List (List Int)}:Sat R (OutAt b xss::Hs) w↔∃ l:Sl,Sat R (pts b (.cells [.slice l.a l.len l.cap].toArray 139 (0,0))::BytesL l xss::Hs) w:=by
 unfold OutAt
 rw [Sat.exs]
 exact ⟨fun ⟨s,h⟩=>⟨s,Sat.star.1 h⟩,fun ⟨s,h⟩=>⟨s,Sat.star.2 h⟩⟩
theorem elBB:El Tryz.prog 139 139 53 24:=⟨Tryz.underlying139,⟨_,Tryz.underlying139⟩,by kernel_rfl⟩
theorem one_sl (ps:List (Sl × List Int)):oneAll (ps.map fun p=>Sl.v p.1)=true:=by unfold oneAll;simp [Value.oneCell',Sl.v]
theorem scanLen_app:∀ a b:List (List Int),scanLen (a++b)=scanLen a + scanLen b
 |[],b=>by simp [scanLen]
 |x::a,b=>by rw [List.cons_append,scanLen_cons,scanLen_cons,scanLen_app a b];omega
theorem len_scanLen:∀ a:List (List Int),8 * a.length≤scanLen a
 |[]=>by simp [scanLen]
 |x::a=>by rw [scanLen_cons,List.length_cons];have:=len_scanLen a;omega
theorem scanLen_le:∀ (n:Nat) (bs:List Int),bs.length≤n→scanLen (scan bs)≤bs.length:=fun n=>by
 induction n with
 |zero=>
  intro bs h
  cases hf:first bs with
  |none=>rw [scan_none hf];simp [scanLen]
  |some b=>have:=(first_len hf).1;omega
 |succ n ih=>
  intro bs h
  cases hf:first bs with
  |none=>rw [scan_none hf];simp [scanLen]
  |some b=>
   have hb:=(first_len hf).1
   rw [scan_some hf,scanLen_cons]
   have:=ih (bs.drop (8 + b.length)) (by simp;omega)
   rw [List.length_drop] at this
   omega
theorem scanLen_pre {pre bs} (h:pre<+:scan bs):scanLen pre≤bs.length:=by
 obtain ⟨r,hr⟩:=h
 have:=scanLen_le _ bs (Nat.le_refl _)
 rw [←hr,scanLen_app] at this
 omega
theorem body_spec {b4 b5:Nat} {s:Sl} {x:List Int} {pre:List (List Int)} {K:World→Prop} (hs:Ro R s (b8 x)) (hl:scanLen (pre++[x])≤1099511627776)
  (hw:Sat R (OutAt b4 pre::pts b5 (.cells [.int .i64 (scanLen pre:Nat)].toArray 3 (0,0))::Hs) w)
  (k:∀ w,Sat R (OutAt b4 (pre++[x])::pts b5 (.cells [.int .i64 (scanLen (pre++[x]):Nat)].toArray 3 (0,0))::Hs) w→K w):
  Bb108 (some ⟨b4,0,none⟩) (some ⟨b5,0,none⟩) s K w:=by
 have hsl:s.len=x.length:=by have:=hs.len;simpa using this
 have happ:=scanLen_app pre [x]
 rw [scanLen_cons] at happ
 have hsn:scanLen []=0:=rfl
 have hpl:=len_scanLen pre
 obtain ⟨l,hw⟩:=Sat.outAt.1 hw
 refine drw_rule' (Sat R [pts b4 (.cells [.slice l.a l.len l.cap].toArray 139 (0,0)),VC.tru]) hw (fun w hw=>hw.restTru) fun w hw=>?_
 refine NilP.mk rfl ⟨l,At.own selfS (by exact ⟨rfl,trivial⟩),?_⟩
 refine (clone_spec hs (by omega) hw).use ?_
 rintro _ w ⟨t,rfl,hw⟩
 refine ⟨t,rfl,hw.swap.restTru,?_⟩
 refine new_rule hw fun b13 w hw=>?_
 have hw:Sat R (pts b13 (.cells [Value.slice t.a t.len t.cap].toArray 53 (0,0))::Own t 5 (b8 x)::pts b4 (.cells [.slice l.a l.len l.cap].toArray 139 (0,0))::BytesL l pre::pts b5 (.cells [.int .i64 (scanLen pre:Nat)].toArray 3 (0,0))::Hs) w:=hw
 have hw2:Sat R (pts b4 (.cells [.slice l.a l.len l.cap].toArray 139 (0,0))::BytesL l pre::pts b5 (.cells [.int .i64 (scanLen pre:Nat)].toArray 3 (0,0))::pts b13 (.cells [Value.slice t.a t.len t.cap].toArray 53 (0,0))::Own t 5 (b8 x)::Hs) w:=hw.arr
 refine ⟨hw2.restTru,?_⟩
 have hw3:Sat R (BytesL l pre::pts b4 (.cells [.slice l.a l.len l.cap].toArray 139 (0,0))::pts b5 (.cells [.int .i64 (scanLen pre:Nat)].toArray 3 (0,0))::pts b13 (.cells [Value.slice t.a t.len t.cap].toArray 53 (0,0))::Own t 5 (b8 x)::Hs) w:=hw2.swap
 obtain ⟨ps,hps,hw4⟩:=Sat.bytesL.1 hw3
 have hpsl:ps.length=pre.length:=by rw [←hps];simp
 have hsrc:Src Tryz.prog 1 139 (.slice (some ⟨b13,0,none⟩) 1 1) 1 [Value.slice t.a t.len t.cap] w:=Src_one elBB.hk 1 hw rfl
 refine append_rule elBB (s:=l) hw4 hsrc (one_sl ps) (by rw [List.length_map];omega) (by rw [List.length_map];omega) fun l2 w hw=>?_
 have hw:Sat R (pts b4 (.cells [.slice l.a l.len l.cap].toArray 139 (0,0))::Own l2 53 ((ps.map fun p=>Sl.v p.1)++[Value.slice t.a t.len t.cap])::Star (ps.map fun p=>Own p.1 5 (b8 p.2))::pts b5 (.cells [.int .i64 (scanLen pre:Nat)].toArray 3 (0,0))::pts b13 (.cells [Value.slice t.a t.len t.cap].toArray 53 (0,0))::Own t 5 (b8 x)::Hs) w:=hw.arr
 refine store_rule hw (by kernel_rfl) rfl (by simp [Value.cells]) fun w hw=>?_
 have hw:=hw.re (pts b4 (.cells [.slice l2.a l2.len l2.cap].toArray 139 (0,0)))
 have hw:Sat R (pts b5 (.cells [.int .i64 (scanLen pre:Nat)].toArray 3 (0,0))::pts b4 (.cells [.slice l2.a l2.len l2.cap].toArray 139 (0,0))::Own l2 53 ((ps.map fun p=>Sl.v p.1)++[Value.slice t.a t.len t.cap])::Own t 5 (b8 x)::Star (ps.map fun p=>Own p.1 5 (b8 p.2))::pts b13 (.cells [Value.slice t.a t.len t.cap].toArray 53 (0,0))::Hs) w:=hw.arr
 refine NilP.mk rfl ⟨_,At.own (eqS hw) (by exact ⟨rfl,trivial⟩),?_⟩
 rw [hsl,wrap64 (x:=8 + (x.length:Int)) (by omega) (by omega),wrap64 (by omega) (by omega)]
 refine store_rule hw (by kernel_rfl) rfl (by simp [Value.cells]) fun w hw=>k w ?_
 have e:((scanLen pre:Nat):Int) + (8 + (x.length:Int))=((scanLen (pre++[x]):Nat):Int):=by rw [happ,hsn];omega
 rw [e] at hw
 have hw:Sat R (pts b5 (.cells [.int .i64 (scanLen (pre++[x]):Nat)].toArray 3 (0,0))::pts b4 (.cells [.slice l2.a l2.len l2.cap].toArray 139 (0,0))::Own l2 53 ((ps.map fun p=>Sl.v p.1)++[Value.slice t.a t.len t.cap])::Own t 5 (b8 x)::Star (ps.map fun p=>Own p.1 5 (b8 p.2))::pts b13 (.cells [Value.slice t.a t.len t.cap].toArray 53 (0,0))::Hs) w:=hw
 have hw:Sat R (pts b4 (.cells [.slice l2.a l2.len l2.cap].toArray 139 (0,0))::Own l2 53 ((ps.map fun p=>Sl.v p.1)++[Value.slice t.a t.len t.cap])::Own t 5 (b8 x)::Star (ps.map fun p=>Own p.1 5 (b8 p.2))::pts b13 (.cells [Value.slice t.a t.len t.cap].toArray 53 (0,0))::pts b5 (.cells [.int .i64 (scanLen (pre++[x]):Nat)].toArray 3 (0,0))::Hs) w:=hw.arr
 refine Sat.outAt.2 ⟨l2,hw.cons fun R' hw=>Sat.bytesL.2 ⟨ps++[(t,x)],by simp [hps],?_⟩⟩
 have e2:((ps++[(t,x)]).map fun p=>Sl.v p.1)=(ps.map fun p=>Sl.v p.1)++[Value.slice t.a t.len t.cap]:=by simp [Sl.v]
 rw [e2]
 refine hw.cons fun R' hw=>?_
 refine Sat.star.2 ?_
 rw [List.map_append,List.append_assoc]
 have h3:Sat R' (Star (ps.map fun p=>Own p.1 5 (b8 p.2))::Own t 5 (b8 x)::pts b13 (.cells [Value.slice t.a t.len t.cap].toArray 53 (0,0))::pts b5 (.cells [.int .i64 (scanLen (pre++[x]):Nat)].toArray 3 (0,0))::Hs) w:=hw.swap
 have h4:=Sat.star.1 h3
 have dropB:∀ (l:List HP) (R:Cx),Sat R (l++(Own t 5 (b8 x)::pts b13 (.cells [Value.slice t.a t.len t.cap].toArray 53 (0,0))::pts b5 (.cells [.int .i64 (scanLen (pre++[x]):Nat)].toArray 3 (0,0))::Hs)) w→Sat R (l++(Own t 5 (b8 x)::pts b5 (.cells [.int .i64 (scanLen (pre++[x]):Nat)].toArray 3 (0,0))::Hs)) w:=fun l=>by
  induction l with
  |nil=>exact fun R h=>h.cons fun _ h=>h.drop
  |cons A l ih=>exact fun R h=>h.cons fun _ h=>ih _ h
 exact dropB _ _ h4
end Go.Proofs.YtkfedbncmfnpnaaGreatDoor
/- Package record: Scan's contract. Condition: bounds on lengths. -/
namespace Go.Proofs.YtkfedbncmfnpnaaGreatDoor
set_option linter.unusedVariables false
set_option linter.unusedSimpArgs false
open Go Go.VC
variable {R:Cx} {Hs Rest:List HP} {w:World}
theorem env_at (a:Act) (i:Nat):a.env i=a.tmps.getD i undef:=rfl
theorem round_spec {b4 b5 L D fn m:Nat} {tmps:Array Value} {s:Sl} {x:List Int} {pre:List (List Int)} {W:World} (hsz:tmps.size=22) (h4:tmps.getD 4 undef=.pointer (some ⟨b4,0,none⟩)) (h5:tmps.getD 5 undef=.pointer (some ⟨b5,0,none⟩))
  (hs:Ro R s (b8 x)) (hl:scanLen (pre++[x])≤1099511627776)
  (hw:Sat R (pts L (lrec .ready fn tmps (lpPs Tryz.f108) (lpAssign Tryz.f108) (lpBody Tryz.f108) D)::OutAt b4 pre::pts b5 (.cells [.int .i64 (scanLen pre:Nat)].toArray 3 (0,0))::Hs) W):
  YieldAt Fence.wide m Tryz.prog L #[.slice s.a s.len s.cap] W fun e W'=>e=.returned (.bool true)∧
   Sat R (pts L (lrec .ready fn tmps (lpPs Tryz.f108) (lpAssign Tryz.f108) (lpBody Tryz.f108) D)::OutAt b4 (pre++[x])::pts b5 (.cells [.int .i64 (scanLen (pre++[x]):Nat)].toArray 3 (0,0))::Hs) W':=by
 have hps:=ps108
 refine round_rule hw (by rw [hps];rfl) ?_
 have hY:∀ l args w Q,(fun (_:Nat) (_:List Value) (_:World) (_:Ending→World→Prop)=>False) l args w Q→YieldAt (wf (some L)) (m - 1) Tryz.prog l args.toArray w Q:=fun _ _ _ _ h=>h.elim
 have hoka:=oka108
 have hokb:=okb108
 simp only [Bool.and_eq_true] at hoka hokb
 have htm:((lpPs Tryz.f108).zip #[Value.slice s.a s.len s.cap]).foldl (fun t (p,v)=>t.setIfInBounds p v) tmps=tmps.setIfInBounds 9 (.slice s.a s.len s.cap):=by
  rw [hps];simp
 rw [htm]
 generalize hA:({ tmps:=tmps.setIfInBounds 9 (.slice s.a s.len s.cap),defers:=[] }:Act)=A
 have hAs:A.tmps.size=22:=by rw [←hA];simp [hsz]
 have hAd:A.defers=[]:=by rw [←hA]
 have hA9:A.env 9=.slice s.a s.len s.cap:=by rw [←hA,env_at];simp [hsz]
 have hA4:A.env 4=.pointer (some ⟨b4,0,none⟩):=by rw [←h4,←hA,env_at];simp
 have hA5:A.env 5=.pointer (some ⟨b5,0,none⟩):=by rw [←h5,←hA,env_at];simp
 have h1:deny Tryz.prog cl (fun (_:Nat) (_:List Value) (_:World) (_:Ending→World→Prop)=>False) (lpAssign Tryz.f108) .leaf A.env (noC fun ρ w=>ρ 4=.pointer (some ⟨b4,0,none⟩)∧ρ 5=.pointer (some ⟨b5,0,none⟩)∧ρ 6=.slice s.a s.len s.cap∧w=W) W:=by
  rw [←env_set_same hA9,eqa108 ]
  exact ⟨hA4,hA5,rfl,rfl⟩
 refine Code.wpIn_mono ?_ (deny_sound (r:=some L) (nn:=m) (n:=22) cl_ok hY mixed _ _ (fun i=>memB i [6]) A.env hoka.1.1 hoka.1.2 hoka.2 A _ W (Kept.refl hAs hAd) h1)
 intro e a1 w1 hq
 cases e with
 |exit i=>exact hq.2.elim
 |ret=>exact hq.2.elim
 |goto t=>exact hq.elim
 |panic c=>exact hq.elim
 |outgrown=>exact hq.elim
 |normal=>
 obtain ⟨hk,e4,e5,e6,rfl⟩:=hq
 refine ⟨hw,fun W2 hw2=>?_⟩
 have hw3:Sat R (OutAt b4 pre::pts b5 (.cells [.int .i64 (scanLen pre:Nat)].toArray 3 (0,0))::pts L (lrec .busy fn tmps (lpPs Tryz.f108) (lpAssign Tryz.f108) (lpBody Tryz.f108) D)::Hs) W2:=hw2.arr
 have h2:deny Tryz.prog cl (fun (_:Nat) (_:List Value) (_:World) (_:Ending→World→Prop)=>False) (lpBody Tryz.f108) .leaf a1.env (noC fun _ w=>Sat R (OutAt b4 (pre++[x])::pts b5 (.cells [.int .i64 (scanLen (pre++[x]):Nat)].toArray 3 (0,0))::pts L (lrec .busy fn tmps (lpPs Tryz.f108) (lpAssign Tryz.f108) (lpBody Tryz.f108) D)::Hs) w) W2:=by
  have:a1.env=((a1.env.set 4 (.pointer (some ⟨b4,0,none⟩))).set 5 (.pointer (some ⟨b5,0,none⟩))).set 6 (.slice s.a s.len s.cap):=by
   rw [env_set_same e4,env_set_same e5,env_set_same e6]
  rw [this,eqb108 ]
  exact body_spec hs hl hw3 fun w hw=>hw
 refine Code.wpIn_mono ?_ (deny_sound (r:=some L) (nn:=m) (n:=22) cl_ok hY mixed _ _ (fun _=>true) a1.env hokb.1.1 hokb.1.2 hokb.2 a1 _ W2 (Kept.refl hk.size hk.defers) h2)
 intro e a2 w2 hq
 cases e with
 |exit i=>exact hq.2.elim
 |ret=>exact hq.2.elim
 |goto t=>exact hq.elim
 |panic c=>exact hq.elim
 |outgrown=>exact hq.elim
 |normal=>
 refine ⟨rfl,OutAt b4 (pre++[x])::pts b5 (.cells [.int .i64 (scanLen (pre++[x]):Nat)].toArray 3 (0,0))::Hs,hq.2.arr,fun W4 hw4=>⟨rfl,hw4⟩⟩
theorem scan_spec {s:Sl} {bs:List Int} (hbs:∀ x∈bs,0≤x∧x<256) (hlen:bs.length≤1099511627776) (hs:SlR R.m s (b8 bs)) (hw:Sat R Hs w):
  Gets Tryz.prog 108 #[.slice s.a s.len s.cap] w fun v w'=>∃ l:Sl,v=.tuple #[.slice l.a l.len l.cap,.int .i64 (scanLen (scan bs):Nat)]∧Sat R (BytesL l (scan bs)::Hs) w':=by
 apply call108
 refine new_rule hw fun b4 w hw=>new_rule hw fun b5 w hw=>?_
 have hw:Sat R (pts b5 (.cells [.int .i64 0].toArray 3 (0,0))::pts b4 (.cells [.slice none 0 0].toArray 139 (0,0))::Hs) w:=hw
 refine store_rule hw (by kernel_rfl) rfl (by simp [Value.cells]) fun w hw=>?_
 have hw:Sat R (pts b4 (.cells [.slice none 0 0].toArray 139 (0,0))::pts b5 (.cells [.int .i64 (scanLen []:Nat)].toArray 3 (0,0))::Hs) w:=hw.swap
 have hw:Sat R (OutAt b4 []::pts b5 (.cells [.int .i64 (scanLen []:Nat)].toArray 3 (0,0))::Hs) w:=
  Sat.outAt.2 ⟨⟨none,0,0⟩,hw.cons fun R' h=>Sat.bytesL.2 ⟨[],rfl,Own.nil (Sat.star.2 h)⟩⟩
 refine (records_spec (s:=s) hw).use ?_
 rintro _ w ⟨c,rfl,hw⟩
 refine ⟨_,rfl,RngV.mk (by kernel_rfl) hw ?_⟩
 rintro nn tmps fn D L W1 hsz ⟨h4,h5,_⟩ hw1
 have hw2:Sat R (lp c s::(fun pre=>pts L (lrec .ready fn tmps (lpPs Tryz.f108) (lpAssign Tryz.f108) (lpBody Tryz.f108) D)::OutAt b4 pre::pts b5 (.cells [.int .i64 (scanLen pre:Nat)].toArray 3 (0,0))::pts D (.deferred (some []))::Hs) []) W1:=hw1.arr
 refine CallsIn.mono (iter_spec (nn:=nn) (L:=L) hbs hlen hs (fun pre=>pts L (lrec .ready fn tmps (lpPs Tryz.f108) (lpAssign Tryz.f108) (lpBody Tryz.f108) D)::OutAt b4 pre::pts b5 (.cells [.int .i64 (scanLen pre:Nat)].toArray 3 (0,0))::pts D (.deferred (some []))::Hs) ?_ hw2) ?_
 ·intro pre x W A t hpre ht hw
  have hsl:=scanLen_pre hpre
  have hxl:=scanLen_app pre [x]
  rw [scanLen_cons] at hxl
  have hw':Sat R (pts L (lrec .ready fn tmps (lpPs Tryz.f108) (lpAssign Tryz.f108) (lpBody Tryz.f108) D)::OutAt b4 pre::pts b5 (.cells [.int .i64 (scanLen pre:Nat)].toArray 3 (0,0))::A::pts D (.deferred (some []))::Hs) W:=hw.arr
  obtain ⟨f',t',a',b',hrun,hround⟩:=round_spec (m:=nn - 1) hsz h4 h5 (ht.ro (by simp;omega)) (by omega) hw'
  exact ⟨f',t',a',b',hrun,RoundIn.mono hround fun e W' ⟨he,hw⟩=>⟨he,hw.arr⟩⟩
 ·rintro e W2 ⟨hv,hw⟩
  refine ⟨hv,OutAt b4 (scan bs)::pts b5 (.cells [.int .i64 (scanLen (scan bs):Nat)].toArray 3 (0,0))::Hs,hw.arr,fun W3 hw3=>?_⟩
  have hw3:Sat R (OutAt b4 (scan bs)::pts D (.deferred (some []))::pts b5 (.cells [.int .i64 (scanLen (scan bs):Nat)].toArray 3 (0,0))::Hs) W3:=hw3.swap
  obtain ⟨l,hw4⟩:=Sat.outAt.1 hw3
  refine drw_rule hw4 fun w hw=>?_
  refine ⟨l,At.own selfS (by exact ⟨rfl,trivial⟩),?_⟩
  refine ⟨_,At.own selfS (by exact ⟨rfl,trivial⟩),?_⟩
  refine ⟨R,pts b4 (.cells [.slice l.a l.len l.cap].toArray 139 (0,0))::BytesL l (scan bs)::pts b5 (.cells [.int .i64 (scanLen (scan bs):Nat)].toArray 3 (0,0))::Hs,hw.arr,fun w' hw'=>⟨l,rfl,?_⟩⟩
  exact hw'.drop.cons fun R' h=>h.drop
end Go.Proofs.YtkfedbncmfnpnaaGreatDoor
/- Package field: Number; reading in general. Condition: none. -/
namespace Go.Proofs.YtkfedbncmfnpnaaGreatDoor
set_option linter.unusedVariables false
set_option linter.unusedSimpArgs false
open Go Go.VC
variable {R:Cx} {Hs Rest:List HP} {w:World}
theorem shr_nat (n k:Nat) (hk:k≤64):shrI .u64 (n:Int) (k:Int)=((n / 2 ^ k:Nat):Int):=by
 have e:min ((k:Int).toNat) IntKind.u64.bits=k:=by rw [Int.toNat_natCast];exact Nat.min_eq_left hk
 unfold shrI
 rw [e,Int.fdiv_eq_ediv_of_nonneg _ (by exact Int.le_of_lt (Int.pow_pos (by decide)))]
 rw [show ((2:Int) ^ k)=((2 ^ k:Nat):Int) from (Int.natCast_pow 2 k).symm]
 exact (Int.natCast_ediv n (2 ^ k)).symm
theorem shr32 (n:Nat):shrI .u64 (n:Int) 32=((n / 4294967296:Nat):Int):=shr_nat n 32 (by omega)
theorem shr16 (n:Nat):shrI .u64 (n:Int) 16=((n / 65536:Nat):Int):=shr_nat n 16 (by omega)
theorem shr8 (n:Nat):shrI .u64 (n:Int) 8=((n / 256:Nat):Int):=shr_nat n 8 (by omega)
theorem len64_spec {n:Nat} (hn:n<18446744073709551616) (hw:Sat R Hs w):
  Gets Tryz.prog 165 #[.int .u64 n] w fun v w'=>v=.int .i64 (Lib.bitLen n:Nat)∧Sat R Hs w':=by
 apply call165
 refine ⟨fun x j w=>∃ m i:Nat,x=m∧j=i∧m<4294967296∧i≤32∧Lib.bitLen n=i + Lib.bitLen m∧Sat R Hs w,?_,?_⟩
 ·refine Br.d (fun h=>?_) (fun h=>?_)
  ·rw [shr32]
   exact ⟨n / 4294967296,32,rfl,rfl,by omega,by omega,Lib.bitLen_shift32 n (by omega) hn,hw⟩
  ·exact ⟨n,0,rfl,rfl,by omega,by omega,by omega,hw⟩
 rintro _ _ _ w ⟨m,i,rfl,rfl,hm,hi,he,hw⟩
 refine ⟨fun x j w=>∃ m i:Nat,x=m∧j=i∧m<65536∧i≤48∧Lib.bitLen n=i + Lib.bitLen m∧Sat R Hs w,?_,?_⟩
 ·refine Br.d (fun h=>?_) (fun h=>?_)
  ·rw [shr16,wrap64 (by omega) (by omega)]
   exact ⟨m / 65536,i + 16,rfl,by omega,by omega,by omega,by have:=Lib.bitLen_shift16 m (by omega) (by omega);omega,hw⟩
  ·exact ⟨m,i,rfl,rfl,by omega,by omega,he,hw⟩
 clear hm hi he hw
 rintro _ _ _ w ⟨m,i,rfl,rfl,hm,hi,he,hw⟩
 refine Br.d (fun h=>?_) (fun h=>?_)
 ·rw [shr8,wrapU8 (by omega) (by omega)]
  have h8:Lib.bitLen (m / 256)≤8:=Lib.bitLen_le8 ⟨m / 256,by omega⟩
  refine ⟨UInt8.ofNat (Lib.bitLen (m / 256)),by omega,?_,?_,hw⟩
  ·rw [Int.toNat_natCast]
   obtain ⟨q,hq⟩:∃ q:Fin 256,q.1=m / 256:=⟨⟨m / 256,by omega⟩,rfl⟩
   rw [←hq]
   clear hq h8 hw he hi hm h
   revert q
   decide +kernel
  ·have:(UInt8.ofNat (Lib.bitLen (m / 256))).toNat=Lib.bitLen (m / 256):=by simp;omega
   have h2:=Lib.bitLen_shift8 m (by omega) (by omega)
   rw [this,wrap64 (x:=((Lib.bitLen (m / 256):Nat):Int)) (by omega) (by omega),wrap64 (x:=(i:Int) + 8) (by omega) (by omega),wrap64 (by omega) (by omega)]
   congr 1;omega
 ·rw [wrapU8 (by omega) (by omega)]
  have h8:Lib.bitLen m≤8:=Lib.bitLen_le8 ⟨m,by omega⟩
  refine ⟨UInt8.ofNat (Lib.bitLen m),by omega,?_,?_,hw⟩
  ·rw [Int.toNat_natCast]
   obtain ⟨q,hq⟩:∃ q:Fin 256,q.1=m:=⟨⟨m,by omega⟩,rfl⟩
   rw [←hq]
   clear hq h8 hw he hi hm h
   revert q
   decide +kernel
  ·have:(UInt8.ofNat (Lib.bitLen m)).toNat=Lib.bitLen m:=by simp;omega
   rw [this,wrap64 (x:=((Lib.bitLen m:Nat):Int)) (by omega) (by omega),wrap64 (by omega) (by omega)]
   congr 1;omega
theorem number_spec {n:Nat} (hn:n<18446744073709551616) (hw:Sat R Hs w):
  Gets Tryz.prog 113 #[.int .u64 n] w fun v w'=>∃ t:Sl,v=.slice t.a t.len t.cap∧Sat R (Own t 5 (b8 (numB n))::Hs) w':=by
 apply call113
 refine (len64_spec hn hw).use ?_
 rintro _ w ⟨rfl,hw⟩
 refine ⟨_,rfl,?_⟩
 have hwid:=dig_width n hn
 have h8:=dig_len8 hn
 generalize hL:(dig n).length=L at *
 have e:IntKind.i64.wrap ((IntKind.i64.wrap (((Lib.bitLen n:Nat):Int) + 7)).tdiv 8)=(L:Int):=by
  rw [wrap64 (x:=((Lib.bitLen n:Nat):Int) + 7) (by omega) (by omega),Int.tdiv_eq_ediv_of_nonneg (by omega),wrap64 (by omega) (by omega)]
  omega
 rw [e,wrapU8 (by omega) (by omega)]
 refine new_rule hw fun b w hw=>?_
 have h0:Sat R (Own ⟨some ⟨b,0,none⟩,1,1⟩ 5 (b8 [(L:Int)])::Hs) w:=Own.of_pts (xs:=b8 [(L:Int)]) (rest:=[]) hw
 refine ⟨fun wd out w=>∃ k:Nat,wd=k∧k≤L∧Sat R (Own out 5 (b8 ((L:Int)::(dig n).take (L - k)))::Hs) w,fun wd _ _=>wd.toNat,⟨L,rfl,Nat.le_refl _,by simpa using h0⟩,?_⟩
 clear hw h0
 rintro _ _ out w ⟨k,rfl,hk,hw⟩
 refine Br.d (fun h=>?_) (fun h=>?_)
 ·have e1:IntKind.i64.wrap ((k:Int) - 1)=((k - 1:Nat):Int):=by rw [wrap64 (by omega) (by omega)];omega
  have e2:IntKind.i64.wrap (8 * ((k - 1:Nat):Int))=((8 * (k - 1):Nat):Int):=by rw [wrap64 (by omega) (by omega)];omega
  rw [e1,e2,shr_nat n _ (by omega)]
  refine Ge0.mk (by omega) ?_
  have hd:=dig_get (n:=n) (k:=k - 1) (by omega)
  have hlen:((L:Int)::(dig n).take (L - k)).length≤9:=by simp;omega
  refine push_rule elB8 hw (one_b8 _) rfl (by rw [List.length_map];omega) (by rw [List.length_map];omega) fun t w hw=>⟨⟨k - 1,rfl,by omega,?_⟩,by show ((k - 1:Nat):Int).toNat<(k:Int).toNat;omega⟩
  have e3:((L:Int)::(dig n).take (L - (k - 1)))=((L:Int)::(dig n).take (L - k))++[IntKind.u8.wrap ((n / 2 ^ (8 * (k - 1)):Nat):Int)]:=by
   have e4:L - (k - 1)=(L - k) + 1:=by omega
   rw [e4,List.take_succ_eq_append_getElem (by omega),List.cons_append]
   congr 3
   rw [wrapU8m,show (2:Nat) ^ (8 * (k - 1))=256 ^ (k - 1) from by rw [Nat.pow_mul],show ((n / 256 ^ (k - 1):Nat):Int) % 256=((n / 256 ^ (k - 1) % 256:Nat):Int) from (Int.natCast_emod _ _).symm,←hd]
   congr 1;omega
  rw [e3]
  simpa [b8] using hw
 ·have hk0:k=0:=by omega
  subst hk0
  refine ⟨out,rfl,?_⟩
  have:(dig n).take (L - 0)=dig n:=List.take_of_length_le (by omega)
  rw [this] at hw
  unfold numB
  rw [hL];exact hw
abbrev rdCells (s:Sl) (bad:Bool):Obj:=.cells [.slice s.a s.len s.cap,.bool bad].toArray 180 (0,0)
def RdAt (r:Nat) (rd:Rd):HP:=exs fun s:Sl=>Star [pts r (rdCells s rd.bad),Reads s (b8 rd.bs)]
theorem Sat.rd {r:Nat} {rd:Rd}:Sat R (RdAt r rd::Hs) w↔∃ s:Sl,Sat R (pts r (rdCells s rd.bad)::Reads s (b8 rd.bs)::Hs) w:=by
 unfold RdAt
 rw [Sat.exs]
 exact ⟨fun ⟨s,h⟩=>⟨s,Sat.star.1 h⟩,fun ⟨s,h⟩=>⟨s,Sat.star.2 h⟩⟩
abbrev brCell (r:Nat):Obj:=.cells [.pointer (some ⟨r,0,none⟩)].toArray 144 (0,0)
theorem leaveP {br r:Nat} {s:Sl} {bad:Bool} {Kr:World→Prop} (hw:Sat R (pts br (brCell r)::pts r (rdCells s bad)::Hs) w) (k:∀ w,Sat R (pts br (brCell r)::pts r (rdCells s true)::Hs) w→Kr w):
  LeaveF Tryz.prog 221 [.pointer (some ⟨br,0,none⟩)] (.panicking amissP) Kr w:=by
 unfold LeaveF
 refine CallsD.mono (callP221 (some ⟨br,0,none⟩) (.iface 239 (.agg #[])) Kr w ?_) ?_
 ·refine ⟨true,fun w' _=>by kernel_rfl,Br.t rfl ?_⟩
  refine NilP.mk rfl ⟨some ⟨r,0,none⟩,At.own (eqS hw) (by exact ⟨rfl,trivial⟩),NilP.mk rfl ?_⟩
  have hw:=hw.swap
  refine store_rule hw (by kernel_rfl) rfl (by simp [Value.cells]) fun w hw=>?_
  exact k w hw.swap
 ·rintro e v w' ⟨hy,rfl,hk⟩
  exact ⟨hy,rfl,hk⟩
theorem leaveR {br:Nat} {Kr:World→Prop} (k:Kr w):LeaveF Tryz.prog 221 [.pointer (some ⟨br,0,none⟩)] .returning Kr w:=by
 unfold LeaveF
 refine CallsD.mono (callR221 (some ⟨br,0,none⟩) Kr w ?_) ?_
 ·exact ⟨false,fun w' _=>by kernel_rfl,Br.f rfl k⟩
 ·rintro e v w' ⟨hy,rfl,hk⟩
  exact ⟨hy,rfl,hk⟩
theorem reading_spec {r:Nat} {rd:Rd} {one:Value} {α:Type} {f:α→List Int} {Hs1:α→List HP} {Hs2:List HP} {G:α→Prop} {N:Prop} (hw:Sat R (RdAt r rd::Hs) w)
  (hone:rd.bad=false→∀ (x:Heap) (l:Nat) (s:Sl) (A B:HP) (w:World),(∀ b o,x b=some o→(R.add x).m b=some o)→SlR x s (b8 rd.bs)→Sat (R.add x) (lp l s::A::B::Hs) w→
   CalW Tryz.prog cl one [.pointer (some ⟨l,0,none⟩)] w fun e w'=>
    (e=.returned (.tuple #[])∧∃ y s',G y∧SlR x s' (b8 (f y))∧Sat (R.add x) (lp l s'::A::B::Hs1 y) w')∨
    (e=.panicked amissP∧N∧∃ s',Sat (R.add x) (lp l s'::A::B::Hs2) w')):
  Gets Tryz.prog 190 #[.pointer (some ⟨r,0,none⟩),one] w fun v w'=>v=.tuple #[]∧
   ((rd.bad=true∧Sat R (RdAt r rd::Hs) w')∨(rd.bad=false∧∃ y,G y∧Sat R (RdAt r ⟨f y,false⟩::Hs1 y) w')∨(rd.bad=false∧N∧Sat R (RdAt r ⟨rd.bs,true⟩::Hs2) w')):=by
 obtain ⟨s,hw⟩:=Sat.rd.1 hw
 apply call190
 refine new_rule hw fun br w hw=>?_
 refine ⟨_,At.own (eqS hw) (by exact ⟨rfl,trivial⟩),NilP.mk rfl ?_⟩
 refine ⟨_,At.own (eqS hw) (by exact ⟨rfl,trivial⟩),must_c (fun h=>.inl ⟨rfl,?_⟩) (fun h=>.inr ⟨_,rfl,?_⟩)⟩
 ·have hbad:rd.bad=false:=by simpa using h
  refine ⟨_,At.own (eqS hw) (by exact ⟨rfl,trivial⟩),NilP.mk rfl ?_⟩
  refine ⟨_,At.own (eqS hw) (by exact ⟨rfl,trivial⟩),?_⟩
  refine new_rule hw fun l w hw=>?_
  have hw:Sat R (pts l (.cells [.slice none 0 0].toArray 53 (0,0))::pts br (brCell r)::pts r (rdCells s rd.bad)::Reads s (b8 rd.bs)::Hs) w:=hw
  refine store_rule hw (by kernel_rfl) rfl (by simp [Value.cells]) fun w hw=>?_
  have hw:Sat R (lp l s::pts br (brCell r)::pts r (rdCells s rd.bad)::Reads s (b8 rd.bs)::Hs) w:=hw
  have hw:Sat R (Reads s (b8 rd.bs)::lp l s::pts br (brCell r)::pts r (rdCells s rd.bad)::Hs) w:=hw.arr
  obtain ⟨x,hd,_,hx,hs⟩:=Reads.lend hw
  have hsub:∀ b o,x b=some o→(R.add x).m b=some o:=fun b o hb=>by
   have:=hd b (by rw [hb];simp)
   simp only [Cx.add,Heap.add,this,hb]
  refine CalW.mono (hone hbad x l s _ _ w hsub hs hx) ?_
  rintro e w' (⟨rfl,bs',s',hg,hs',hw⟩|⟨rfl,hn,s',hw⟩)
  ·refine .inl ⟨rfl,?_⟩
   have hw:Sat (R.add x) (pts br (brCell r)::pts r (rdCells s rd.bad)::lp l s'::Hs1 bs') w':=hw.arr
   refine ⟨_,At.own (eqS hw) (by exact ⟨rfl,trivial⟩),?_⟩
   refine ⟨_,At.own (eqS hw) (by exact ⟨rfl,trivial⟩),NilP.mk rfl ?_⟩
   have hw:Sat (R.add x) (pts r (rdCells s rd.bad)::lp l s'::pts br (brCell r)::Hs1 bs') w':=hw.arr
   refine store_rule hw (by kernel_rfl) rfl (by simp [Value.cells]) fun w hw=>?_
   refine leaveR ⟨rfl,.inr (.inl ⟨hbad,bs',hg,?_⟩)⟩
   have hw:Sat (R.add x) (pts r (rdCells s' rd.bad)::lp l s'::pts br (brCell r)::Hs1 bs') w:=hw
   rw [hbad] at hw
   have hw:Sat (R.add x) (pts r (rdCells s' false)::Hs1 bs') w:=hw.cons fun _ h=>h.drop.drop
   refine Sat.rd.2 ⟨s',?_⟩
   exact (Reads.back hd hs' hw).swap
  ·refine .inr ⟨_,rfl,?_⟩
   have hw:Sat (R.add x) (pts br (brCell r)::pts r (rdCells s rd.bad)::lp l s'::Hs2) w':=hw.arr
   refine leaveP hw fun w hw=>⟨rfl,.inr (.inr ⟨hbad,hn,?_⟩)⟩
   have hw:Sat (R.add x) (pts r (rdCells s true)::Hs2) w:=hw.drop.cons fun _ h=>h.drop
   refine Sat.rd.2 ⟨s,?_⟩
   exact (Reads.back hd hs hw).swap
 ·have hbad:rd.bad=true:=by simpa using h
  have hw:Sat R (pts br (brCell r)::pts r (rdCells s rd.bad)::Reads s (b8 rd.bs)::Hs) w:=hw
  refine leaveP hw fun w hw=>⟨rfl,.inl ⟨hbad,?_⟩⟩
  rw [←hbad] at hw
  exact Sat.rd.2 ⟨s,hw.drop⟩
end Go.Proofs.YtkfedbncmfnpnaaGreatDoor
/- Package field: a reader's New, Number, Whole. Condition: bounds on lengths. -/
namespace Go.Proofs.YtkfedbncmfnpnaaGreatDoor
set_option linter.unusedVariables false
set_option linter.unusedSimpArgs false
open Go Go.VC
variable {R:Cx} {Hs Rest:List HP} {w:World}
theorem CalW.mk {g:FuncId} {captured:Array Value} {args:List Value} {Q:Ending→World→Prop} (hc:cl g=true) (h:Calls Tryz.prog g (args++captured.toList).toArray w Q):CalW Tryz.prog cl (.func (.func g) #[] captured) args w Q:=by
 unfold CalW
 simp only [hc]
 exact h
theorem fnew_spec {s:Sl} {bs:List Int} (hs:Ro R s (b8 bs)) (hl:bs.length≤1099511627776) (hw:Sat R Hs w):
  Gets Tryz.prog 111 #[.slice s.a s.len s.cap] w fun v w'=>∃ r,v=.pointer (some ⟨r,0,none⟩)∧Sat R (RdAt r ⟨bs,false⟩::Hs) w':=by
 apply call111
 refine (clone_spec hs hl hw).use ?_
 rintro _ w ⟨t,rfl,hw⟩
 refine ⟨t,rfl,?_⟩
 have hw:=Own.reads hw
 refine new_rule hw fun r w hw=>⟨r,rfl,Sat.rd.2 ⟨t,hw⟩⟩
theorem whole_spec {r:Nat} {rd:Rd} (hw:Sat R (RdAt r rd::Hs) w):
  Gets Tryz.prog 157 #[.pointer (some ⟨r,0,none⟩)] w fun v w'=>v=.bool (rdWhole rd)∧Sat R (RdAt r rd::Hs) w':=by
 obtain ⟨s,hw⟩:=Sat.rd.1 hw
 have hsl:s.len=rd.bs.length:=by
  obtain ⟨x,_,_,_,hx⟩:=Reads.lend hw.swap
  have:=hx.len;simpa using this
 apply call157
 refine NilP.mk rfl ⟨rd.bad,At.own (eqS hw) (by exact ⟨rfl,trivial⟩),Br.nb (fun h=>?_) (fun h=>?_)⟩
 ·refine NilP.mk rfl ?_
  refine ⟨s,At.own (eqS hw) (by exact ⟨rfl,trivial⟩),?_,Sat.rd.2 ⟨s,hw⟩⟩
  unfold rdWhole
  rw [h,hsl]
  congr 1
  simp only [Bool.not_false,Bool.true_and]
  cases rd.bs with
  |nil=>rfl
  |cons=>simp;omega
 ·refine ⟨?_,Sat.rd.2 ⟨s,hw⟩⟩
  unfold rdWhole
  rw [h];rfl
theorem num1_spec {h:Heap} {l bm bo:Nat} {s:Sl} {bs:List Int} {most:Int} (hb:∀ x∈bs,0≤x∧x<256) (hsub:∀ b o,h b=some o→R.m b=some o) (hr:SlR h s (b8 bs))
  (hw:Sat R (lp l s::pts bo (.cells [.int .u64 0].toArray 148 (0,0))::pts bm (.cells [.int .u64 most].toArray 148 (0,0))::Hs) w):
  GetsX Tryz.prog 191 #[.pointer (some ⟨l,0,none⟩),.pointer (some ⟨bm,0,none⟩),.pointer (some ⟨bo,0,none⟩)] w
   (fun ch w'=>ch=amissP∧(∀ n k,parse bs=some (n,false,k)→¬ n≤most)∧∃ s',Sat R (lp l s'::pts bo (.cells [.int .u64 0].toArray 148 (0,0))::pts bm (.cells [.int .u64 most].toArray 148 (0,0))::Hs) w')
   (fun v w'=>v=.tuple #[]∧∃ n k s',parse bs=some (n,false,k)∧n≤most∧SlR h s' (b8 (bs.drop k))∧
    Sat R (lp l s'::pts bo (.cells [.int .u64 n].toArray 148 (0,0))::pts bm (.cells [.int .u64 most].toArray 148 (0,0))::Hs) w'):=by
 apply call191
 refine (fsize_spec hb hsub hr hw).use ?_ ?_
 rotate_left
 ·rintro _ w ⟨hp,rfl,s',hw⟩
  refine .inr ⟨_,rfl,rfl,?_,s',hw⟩
  intro n k h;rw [hp] at h;cases h
 rintro _ w ⟨n,neg,k,s',hp,rfl,hs',hw⟩
 refine .inl ⟨n,neg,rfl,Br.nb (fun h=>?_) (fun h=>?_)⟩
 ·subst h
  have hw2:Sat R (pts bm (.cells [.int .u64 most].toArray 148 (0,0))::lp l s'::pts bo (.cells [.int .u64 0].toArray 148 (0,0))::Hs) w:=hw.arr
  refine NilP.mk rfl ?_
  refine ⟨most,At.own (eqS hw) (by exact ⟨rfl,trivial⟩),must_c (fun h=>.inl ⟨rfl,?_⟩) (fun h=>.inr ⟨_,rfl,rfl,?_,s',hw⟩)⟩
  ·have h:=of_decide_eq_true h
   have hw:Sat R (pts bo (.cells [.int .u64 0].toArray 148 (0,0))::lp l s'::pts bm (.cells [.int .u64 most].toArray 148 (0,0))::Hs) w:=hw.swap
   refine store_rule hw (by kernel_rfl) rfl (by simp [Value.cells]) fun w hw=>?_
   exact ⟨rfl,n,k,s',hp,h,hs',hw.swap⟩
  ·have h:=of_decide_eq_false h
   intro n' k' hp'
   rw [hp] at hp'
   simp only [Option.some.injEq,Prod.mk.injEq,true_and] at hp'
   rw [←hp'.1];exact h
 ·subst h
  refine must_c (fun h=>by cases h) (fun _=>.inr ⟨_,rfl,rfl,?_,s',hw⟩)
  intro n' k' hp'
  rw [hp] at hp'
  simp at hp'
theorem rnum_spec {r:Nat} {rd:Rd} {most:Int} (hb:∀ x∈rd.bs,0≤x∧x<256) (hw:Sat R (RdAt r rd::Hs) w):
  Gets Tryz.prog 155 #[.pointer (some ⟨r,0,none⟩),.int .u64 most] w fun v w'=>v=.int .u64 (rdNum most rd).1∧Sat R (RdAt r (rdNum most rd).2::Hs) w':=by
 apply call155
 refine new_rule hw fun bm w hw=>new_rule hw fun bo w hw=>?_
 have hw:Sat R (pts bo (.cells [.int .u64 0].toArray 148 (0,0))::pts bm (.cells [.int .u64 most].toArray 148 (0,0))::RdAt r rd::Hs) w:=hw
 refine store_rule hw (by kernel_rfl) rfl (by simp [Value.cells]) fun w hw=>?_
 have hw:=hw.re (pts bo (.cells [.int .u64 0].toArray 148 (0,0)))
 have hw:Sat R (RdAt r rd::pts bo (.cells [.int .u64 0].toArray 148 (0,0))::pts bm (.cells [.int .u64 most].toArray 148 (0,0))::Hs) w:=hw.arr
 refine (reading_spec (α:=Int × Nat) (f:=fun y=>rd.bs.drop y.2) (G:=fun y=>parse rd.bs=some (y.1,false,y.2)∧y.1≤most) (N:=∀ n k,parse rd.bs=some (n,false,k)→¬ n≤most)
  (Hs1:=fun y=>pts bo (.cells [.int .u64 y.1].toArray 148 (0,0))::pts bm (.cells [.int .u64 most].toArray 148 (0,0))::Hs)
  (Hs2:=pts bo (.cells [.int .u64 0].toArray 148 (0,0))::pts bm (.cells [.int .u64 most].toArray 148 (0,0))::Hs) hw ?_).use ?_
 ·intro _ x l s A B w hsub hs hw
  refine CalW.mk (by kernel_rfl) ?_
  have hw2:Sat (R.add x) (lp l s::pts bo (.cells [.int .u64 0].toArray 148 (0,0))::pts bm (.cells [.int .u64 most].toArray 148 (0,0))::A::B::Hs) w:=hw.arr
  refine (num1_spec (h:=x) hb hsub hs hw2).use ?_ ?_
  ·rintro _ w ⟨rfl,n,k,s',hp,hn,hs',hw⟩
   exact .inl ⟨rfl,(n,k),s',⟨hp,hn⟩,hs',hw.arr⟩
  ·rintro _ w ⟨rfl,hn,s',hw⟩
   exact .inr ⟨rfl,hn,s',hw.arr⟩
 ·rintro _ w ⟨rfl,h⟩
  refine ⟨rfl,?_⟩
  rcases h with ⟨hbad,hw⟩|⟨hbad,⟨n,k⟩,⟨hp,hn⟩,hw⟩|⟨hbad,hno,hw⟩
  ·have hw:Sat R (pts bo (.cells [.int .u64 0].toArray 148 (0,0))::RdAt r rd::pts bm (.cells [.int .u64 most].toArray 148 (0,0))::Hs) w:=hw.swap
   refine ⟨0,At.own (eqS hw) (by exact ⟨rfl,trivial⟩),?_⟩
   unfold rdNum
   rw [if_pos hbad]
   exact ⟨rfl,hw.drop.cons fun _ h=>h.drop⟩
  ·have hw:Sat R (pts bo (.cells [.int .u64 n].toArray 148 (0,0))::RdAt r ⟨rd.bs.drop k,false⟩::pts bm (.cells [.int .u64 most].toArray 148 (0,0))::Hs) w:=hw.swap
   refine ⟨n,At.own (eqS hw) (by exact ⟨rfl,trivial⟩),?_⟩
   unfold rdNum
   rw [if_neg (by rw [hbad];simp),hp]
   simp only
   rw [if_pos (by simpa using hn)]
   exact ⟨rfl,hw.drop.cons fun _ h=>h.drop⟩
  ·have hw:Sat R (pts bo (.cells [.int .u64 0].toArray 148 (0,0))::RdAt r ⟨rd.bs,true⟩::pts bm (.cells [.int .u64 most].toArray 148 (0,0))::Hs) w:=hw.swap
   refine ⟨0,At.own (eqS hw) (by exact ⟨rfl,trivial⟩),?_⟩
   have e:rdNum most rd=(0,⟨rd.bs,true⟩):=by
    unfold rdNum
    rw [if_neg (by rw [hbad];simp)]
    cases hp:parse rd.bs with
    |none=>rfl
    |some p=>
     obtain ⟨n,neg,k⟩:=p
     simp only
     rw [if_neg]
     rintro ⟨rfl,h⟩
     exact hno n k hp h
   rw [e]
   exact ⟨rfl,hw.drop.cons fun _ h=>h.drop⟩
theorem rdNum_bd {most:Int} {rd:Rd} (hb:∀ x∈rd.bs,0≤x∧x<256):∀ x∈(rdNum most rd).2.bs,0≤x∧x<256:=by
 unfold rdNum
 split
 ·exact hb
 ·split
  ·split
   ·exact fun x hx=>hb x (List.mem_of_mem_drop hx)
   ·exact hb
  ·exact hb
theorem rdNum_val {most:Int} {rd:Rd} (hb:∀ x∈rd.bs,0≤x∧x<256) (hm:0≤most):0≤(rdNum most rd).1∧(rdNum most rd).1≤most:=by
 unfold rdNum
 split
 ·exact ⟨Int.le_refl _,hm⟩
 ·split
  ·rename_i n neg k hp
   split
   ·rename_i h;exact ⟨(parse_bd hb hp).1,h.2⟩
   ·exact ⟨Int.le_refl _,hm⟩
  ·exact ⟨Int.le_refl _,hm⟩
end Go.Proofs.YtkfedbncmfnpnaaGreatDoor
/- Package field: bytes with their length; a reader's Text. Condition: bounds on lengths. -/
namespace Go.Proofs.YtkfedbncmfnpnaaGreatDoor
set_option linter.unusedVariables false
set_option linter.unusedSimpArgs false
open Go Go.VC
variable {R:Cx} {Hs Rest:List HP} {w:World}
theorem ftext_spec {s:Sl} {bs:List Int} (hs:Ro R s (b8 bs)) (hl:bs.length≤1099511627776) (hw:Sat R Hs w):
  Gets Tryz.prog 114 #[.slice s.a s.len s.cap] w fun v w'=>∃ t:Sl,v=.slice t.a t.len t.cap∧Sat R (Own t 5 (b8 (textB bs))::Hs) w':=by
 have hlen:s.len=bs.length:=by have:=hs.len;simpa using this
 apply call114
 unfold B114
 rw [wrapU64 (by omega) (by omega),hlen]
 refine (number_spec (by omega) hw).use ?_
 rintro _ w ⟨t,rfl,hw⟩
 refine ⟨t,rfl,?_⟩
 rw [←hlen]
 have hn:=numB_len (n:=bs.length) (by omega)
 have hsrc:Src Tryz.prog 1 53 (.slice s.a s.len s.cap) bs.length (b8 bs) w:=by
  have:=srcRo Tryz.underlying53 hw hs (one_b8 _)
  simpa using this
 refine append_rule elB8 (s:=t) hw hsrc (one_b8 _) (by rw [List.length_map];omega) (by rw [List.length_map];omega) fun s2 w hw=>?_
 exact ⟨s2,rfl,by simpa [b8,textB] using hw⟩
theorem text1_spec {h:Heap} {l bm bo:Nat} {s:Sl} {bs:List Int} {most:Int} (hm:most<9223372036854775808) (hl:bs.length≤1099511627776) (hb:∀ x∈bs,0≤x∧x<256) (hsub:∀ b o,h b=some o→R.m b=some o) (hr:SlR h s (b8 bs))
  (hw:Sat R (lp l s::lp bo ⟨none,0,0⟩::pts bm (.cells [.int .i64 most].toArray 3 (0,0))::Hs) w):
  GetsX Tryz.prog 223 #[.pointer (some ⟨l,0,none⟩),.pointer (some ⟨bm,0,none⟩),.pointer (some ⟨bo,0,none⟩)] w
   (fun ch w'=>ch=amissP∧(∀ n k,parse bs=some (n,false,k)→¬ (0≤most∧n≤most∧n≤(bs.length:Int) - k))∧∃ s',Sat R (lp l s'::lp bo ⟨none,0,0⟩::pts bm (.cells [.int .i64 most].toArray 3 (0,0))::Hs) w')
   (fun v w'=>v=.tuple #[]∧∃ n k s' t,parse bs=some (n,false,k)∧(0≤most∧n≤most∧n≤(bs.length:Int) - k)∧SlR h s' (b8 (bs.drop (k + n.toNat)))∧
    Sat R (lp l s'::lp bo t::Own t 5 (b8 ((bs.drop k).take n.toNat))::pts bm (.cells [.int .i64 most].toArray 3 (0,0))::Hs) w'):=by
 apply call223
 refine (fsize_spec hb hsub hr hw).use ?_ ?_
 rotate_left
 ·rintro _ w ⟨hp,rfl,s',hw⟩
  refine .inr ⟨_,rfl,rfl,?_,s',hw⟩
  intro n k h;rw [hp] at h;cases h
 rintro _ w ⟨n,neg,k,s',hp,rfl,hs',hw⟩
 obtain ⟨n0,n1,k0,k1,k2⟩:=parse_bd hb hp
 have no:(∀ n' k',parse bs=some (n',false,k')→¬ (0≤most∧n'≤most∧n'≤(bs.length:Int) - k'))→∀ {A:Prop} {e:Ending},(e=.panicked amissP)→(e=.returned (.tuple #[])∧A)∨∃ ch,e=.panicked ch∧ch=amissP∧(∀ n k,parse bs=some (n,false,k)→¬ (0≤most∧n≤most∧n≤(bs.length:Int) - k))∧∃ s',Sat R (lp l s'::lp bo ⟨none,0,0⟩::pts bm (.cells [.int .i64 most].toArray 3 (0,0))::Hs) w:=fun h A e he=>
  .inr ⟨_,he,rfl,h,s',hw⟩
 have same:∀ n' k',parse bs=some (n',false,k')→neg=false∧n'=n∧k'=k:=fun n' k' h=>by
  rw [hp] at h
  simp only [Option.some.injEq,Prod.mk.injEq] at h
  exact ⟨h.2.1,h.1.symm,h.2.2.symm⟩
 refine .inl ⟨n,neg,rfl,Br.nb (fun h=>?_) (fun h=>?_)⟩
 rotate_left
 ·refine must_c (fun h=>by cases h) (fun _=>no (fun n' k' h'=>?_) rfl)
  rw [(same n' k' h').1] at h;cases h
 subst h
 have hw2:Sat R (pts bm (.cells [.int .i64 most].toArray 3 (0,0))::lp l s'::lp bo ⟨none,0,0⟩::Hs) w:=hw.arr
 refine NilP.mk rfl ⟨most,At.own (eqS hw2) (by exact ⟨rfl,trivial⟩),Br.d (fun h1=>?_) (fun h1=>?_)⟩
 rotate_left
 ·refine must_c (fun h=>by cases h) (fun _=>no (fun n' k' h' h2=>by omega) rfl)
 refine NilP.mk rfl ⟨most,At.own (eqS hw2) (by exact ⟨rfl,trivial⟩),?_⟩
 rw [wrapU64 (by omega) (by omega)]
 refine Br.d (fun h2=>?_) (fun h2=>?_)
 rotate_left
 ·refine must_c (fun h=>by cases h) (fun _=>no (fun n' k' h' h3=>by have:=(same n' k' h').2.1;omega) rfl)
 have hsl:s'.len=bs.length - k:=by have:=hs'.len;simpa using this
 refine NilP.mk rfl ⟨s',At.own (eqS hw) (by exact ⟨rfl,trivial⟩),?_⟩
 rw [wrapU64 (by omega) (by omega),hsl]
 refine must_c (fun h3=>.inl ⟨rfl,?_⟩) (fun h3=>?_)
 rotate_left
 ·have h3:=of_decide_eq_false h3
  refine no (fun n' k' h' h4=>?_) rfl
  have:=same n' k' h'
  omega
 have h3:=of_decide_eq_true h3
 rw [wrap64 (by omega) (by omega)]
 obtain ⟨m,rfl⟩:=Int.eq_ofNat_of_zero_le n0
 have hm':SlR R.m s' (b8 (bs.drop k)):=hs'.mono hsub
 refine (take_spec (k:=m) hm' hw).use ?_ ?_
 rotate_left
 ·rintro _ w ⟨h4,_⟩
  simp at h4;omega
 rintro _ w ⟨_,rfl,hw⟩
 refine .inl ⟨⟨s'.a,m,s'.cap⟩,rfl,?_⟩
 have ht:SlR R.m ⟨s'.a,m,s'.cap⟩ (b8 ((bs.drop k).take m)):=by
  have:=hm'.take (k:=m) (by simp;omega)
  rwa [←List.map_take] at this
 refine (clone_spec (s:=⟨s'.a,m,s'.cap⟩) (ht.ro (by simp;omega)) (by simp;omega) hw).use ?_
 rintro _ w ⟨t,rfl,hw⟩
 refine .inl ⟨t,rfl,?_⟩
 have hw:Sat R (lp bo ⟨none,0,0⟩::Own t 5 (b8 ((bs.drop k).take m))::lp l (sdrop s' m)::pts bm (.cells [.int .i64 most].toArray 3 (0,0))::Hs) w:=hw.arr
 refine store_rule hw (by kernel_rfl) rfl (by simp [Value.cells]) fun w hw=>?_
 have hw:=hw.re (lp bo t)
 refine ⟨rfl,m,k,sdrop s' m,t,hp,⟨by omega,h2,by omega⟩,?_,?_⟩
 ·have:=hs'.drop (k:=m) (by simp;omega)
  rw [←List.map_drop,List.drop_drop] at this
  exact this
 ·rw [Int.toNat_natCast];exact hw.arr
theorem rtext_spec {r:Nat} {rd:Rd} {most:Int} (hm:most<9223372036854775808) (hl:rd.bs.length≤1099511627776) (hb:∀ x∈rd.bs,0≤x∧x<256) (hw:Sat R (RdAt r rd::Hs) w):
  Gets Tryz.prog 194 #[.pointer (some ⟨r,0,none⟩),.int .i64 most] w fun v w'=>∃ t:Sl,v=.slice t.a t.len t.cap∧Sat R (Own t 5 (b8 (rdText most rd).1)::RdAt r (rdText most rd).2::Hs) w':=by
 apply call194
 refine new_rule hw fun bm w hw=>new_rule hw fun bo w hw=>?_
 have hw:Sat R (RdAt r rd::lp bo ⟨none,0,0⟩::pts bm (.cells [.int .i64 most].toArray 3 (0,0))::Hs) w:=by
  have hw:Sat R (lp bo ⟨none,0,0⟩::pts bm (.cells [.int .i64 most].toArray 3 (0,0))::RdAt r rd::Hs) w:=hw
  exact hw.arr
 refine (reading_spec (α:=(Int × Nat) × Sl) (f:=fun y=>rd.bs.drop (y.1.2 + y.1.1.toNat)) (G:=fun y=>parse rd.bs=some (y.1.1,false,y.1.2)∧(0≤most∧y.1.1≤most∧y.1.1≤(rd.bs.length:Int) - y.1.2)) (N:=∀ n k,parse rd.bs=some (n,false,k)→¬ (0≤most∧n≤most∧n≤(rd.bs.length:Int) - k))
  (Hs1:=fun y=>lp bo y.2::Own y.2 5 (b8 ((rd.bs.drop y.1.2).take y.1.1.toNat))::pts bm (.cells [.int .i64 most].toArray 3 (0,0))::Hs)
  (Hs2:=lp bo ⟨none,0,0⟩::pts bm (.cells [.int .i64 most].toArray 3 (0,0))::Hs) hw ?_).use ?_
 ·intro _ x l s A B w hsub hs hw
  refine CalW.mk (by kernel_rfl) ?_
  have hw2:Sat (R.add x) (lp l s::lp bo ⟨none,0,0⟩::pts bm (.cells [.int .i64 most].toArray 3 (0,0))::A::B::Hs) w:=hw.arr
  refine (text1_spec (h:=x) hm hl hb hsub hs hw2).use ?_ ?_
  ·rintro _ w ⟨rfl,n,k,s',t,hp,hn,hs',hw⟩
   exact .inl ⟨rfl,((n,k),t),s',⟨hp,hn⟩,hs',hw.arr⟩
  ·rintro _ w ⟨rfl,hn,s',hw⟩
   exact .inr ⟨rfl,hn,s',hw.arr⟩
 ·rintro _ w ⟨rfl,h⟩
  refine ⟨rfl,?_⟩
  rcases h with ⟨hbad,hw⟩|⟨hbad,⟨⟨n,k⟩,t⟩,⟨hp,hn⟩,hw⟩|⟨hbad,hno,hw⟩
  ·have hw:Sat R (lp bo ⟨none,0,0⟩::RdAt r rd::pts bm (.cells [.int .i64 most].toArray 3 (0,0))::Hs) w:=hw.swap
   refine ⟨⟨none,0,0⟩,At.own (eqS hw) (by exact ⟨rfl,trivial⟩),?_⟩
   unfold rdText
   rw [if_pos hbad]
   exact ⟨_,rfl,Own.nil (hw.drop.cons fun _ h=>h.drop)⟩
  ·have hw:Sat R (lp bo t::Own t 5 (b8 ((rd.bs.drop k).take n.toNat))::RdAt r ⟨rd.bs.drop (k + n.toNat),false⟩::pts bm (.cells [.int .i64 most].toArray 3 (0,0))::Hs) w:=hw.arr
   refine ⟨t,At.own (eqS hw) (by exact ⟨rfl,trivial⟩),?_⟩
   unfold rdText
   rw [if_neg (by rw [hbad];simp),hp]
   simp only
   rw [if_pos ⟨trivial,hn⟩]
   exact ⟨_,rfl,hw.drop.cons fun _ h=>h.cons fun _ h=>h.drop⟩
  ·have hw:Sat R (lp bo ⟨none,0,0⟩::RdAt r ⟨rd.bs,true⟩::pts bm (.cells [.int .i64 most].toArray 3 (0,0))::Hs) w:=hw.swap
   refine ⟨⟨none,0,0⟩,At.own (eqS hw) (by exact ⟨rfl,trivial⟩),?_⟩
   have e:rdText most rd=([],⟨rd.bs,true⟩):=by
    unfold rdText
    rw [if_neg (by rw [hbad];simp)]
    cases hp:parse rd.bs with
    |none=>rfl
    |some p=>
     obtain ⟨n,neg,k⟩:=p
     simp only
     rw [if_neg]
     rintro ⟨rfl,h⟩
     exact hno n k hp h
   rw [e]
   exact ⟨_,rfl,Own.nil (hw.drop.cons fun _ h=>h.drop)⟩
theorem rdNum_len {most:Int} {rd:Rd}:(rdNum most rd).2.bs.length≤rd.bs.length:=by
 unfold rdNum
 split
 ·simp
 ·split
  ·split
   ·simp
   ·simp
  ·simp
end Go.Proofs.YtkfedbncmfnpnaaGreatDoor


/- Floats, plain, part 4: how any two stand to each other, by one integer each. No program. No condition. -/
namespace Go.VC
set_option linter.unusedVariables false
set_option linter.unusedSimpArgs false
open Ieee
def bigF:Int:=2 ^ 2200
def valD:Datum→Option Int
 | .nan ..=>none
 | .infinity s=>some (if s then -bigF else bigF)
 | .number s m i=>some (signed s m (i + 1074).toNat)
def kvF (x:Nat):Int:=match valD (double.read x) with|none=>-bigF - 1|some v=>v
end Go.VC
/- Who waits, plainly: their order, putting in, taking out, the first that fits. No condition. -/
namespace Go.VC
set_option linter.unusedVariables false
set_option linter.unusedSimpArgs false
structure Wt where
 id:Int
 cls:Int
 many:Int
 time:Int
 sc:Nat
deriving DecidableEq
def Wt.Ok (w:Wt):Prop:=(1≤w.id∧w.id≤28629151)∧(0≤w.cls∧w.cls≤7)∧(1≤w.many∧w.many≤600)∧(0≤w.time∧w.time≤1099511627776)
instance (w:Wt):Decidable w.Ok:=by unfold Wt.Ok;infer_instance
def Wt.ahead (a b:Wt):Bool:=if kvF a.sc=kvF b.sc then (if a.time=b.time then decide (a.id<b.id) else decide (a.time<b.time)) else decide (kvF b.sc<kvF a.sc)
theorem ahead_iff {a b:Wt}:a.ahead b=true↔kvF b.sc<kvF a.sc∨kvF a.sc=kvF b.sc∧(a.time<b.time∨a.time=b.time∧a.id<b.id):=by
 unfold Wt.ahead
 split
 ·split
  ·simp;omega
  ·simp;omega
 ·simp;omega
theorem ahead_trans {a b c:Wt} (h1:a.ahead b=true) (h2:b.ahead c=true):a.ahead c=true:=by
 rw [ahead_iff] at *;omega
theorem ahead_tot {a b:Wt} (h:a.id≠b.id) (h1:a.ahead b=false):b.ahead a=true:=by
 rw [ahead_iff]
 have:¬ a.ahead b=true:=by rw [h1];simp
 rw [ahead_iff] at this
 omega
def QSt (q:List Wt):Prop:=q.Pairwise fun a b=>a.ahead b=true
def QIds (q:List Wt):Prop:=q.Pairwise fun a b=>a.id≠b.id
structure QOk (q:List Wt):Prop where
 st:QSt q
 ids:QIds q
 ok:∀ w∈q,w.Ok
 fl:∀ w∈q,w.sc<18446744073709551616
 len:q.length≤200
theorem QOk.nil:QOk []:=⟨List.Pairwise.nil,List.Pairwise.nil,fun _ h=>(by cases h),fun _ h=>(by cases h),by simp⟩
def insQ (w:Wt) (q:List Wt):List Wt:=q.takeWhile (fun a=>a.ahead w)++w::q.dropWhile (fun a=>a.ahead w)
theorem insQ_cons (w a:Wt) (q:List Wt):insQ w (a::q)=if a.ahead w then a::insQ w q else w::a::q:=by
 unfold insQ
 rw [List.takeWhile_cons,List.dropWhile_cons]
 split<;>rfl
theorem insQ_mem {w x:Wt}:∀ {q:List Wt},x∈insQ w q↔x=w∨x∈q
 |[]=>by simp [insQ]
 |a::q=>by
  rw [insQ_cons]
  split
  ·rw [List.mem_cons,insQ_mem,List.mem_cons]
   constructor
   ·rintro (h|h|h)<;>simp [h]
   ·rintro (h|h|h)<;>simp [h]
  ·rw [List.mem_cons]
theorem insQ_len {w:Wt}:∀ {q:List Wt},(insQ w q).length=q.length + 1
 |[]=>rfl
 |a::q=>by
  rw [insQ_cons]
  split
  ·rw [List.length_cons,insQ_len,List.length_cons]
  ·rfl
theorem insQ_st {w:Wt}:∀ {q:List Wt},QSt q→(∀ x∈q,x.id≠w.id)→QSt (insQ w q)
 |[],_,_=>List.Pairwise.cons (fun _ h=>(by cases h)) List.Pairwise.nil
 |a::q,h,hid=>by
  have h1:=List.pairwise_cons.1 h
  rw [insQ_cons]
  split
  ·rename_i ha
   refine List.Pairwise.cons (fun x hx=>?_) (insQ_st h1.2 fun x hx=>hid x (by simp [hx]))
   rcases insQ_mem.1 hx with rfl|hx
   ·exact ha
   ·exact h1.1 x hx
  ·rename_i ha
   have hwa:w.ahead a=true:=ahead_tot (hid a (by simp)) (by simpa using ha)
   refine List.Pairwise.cons (fun x hx=>?_) h
   rcases List.mem_cons.1 hx with rfl|hx
   ·exact hwa
   ·exact ahead_trans hwa (h1.1 x hx)
theorem insQ_ids {w:Wt}:∀ {q:List Wt},QIds q→(∀ x∈q,x.id≠w.id)→QIds (insQ w q)
 |[],_,_=>List.Pairwise.cons (fun _ h=>(by cases h)) List.Pairwise.nil
 |a::q,h,hid=>by
  have h1:=List.pairwise_cons.1 h
  rw [insQ_cons]
  split
  ·refine List.Pairwise.cons (fun x hx=>?_) (insQ_ids h1.2 fun x hx=>hid x (by simp [hx]))
   rcases insQ_mem.1 hx with rfl|hx
   ·exact hid a (by simp)
   ·exact h1.1 x hx
  ·refine List.Pairwise.cons (fun x hx=>?_) h
   exact fun e=>hid x hx e.symm
def hasQ (id:Int) (q:List Wt):Bool:=q.any fun w=>decide (w.id=id)
def qadd (q:List Wt) (w:Wt):List Wt × Int:=
 if ¬ w.Ok then (q,1) else if hasQ w.id q then (q,7) else if 200≤q.length then (q,3) else (insQ w q,0)
def delQ (id:Int):List Wt→List Wt
 |[]=>[]
 |w::q=>if w.id=id then q else w::delQ id q
def qrem (q:List Wt) (id:Int):List Wt × Int:=if hasQ id q then (delQ id q,0) else (q,2)
theorem hasQ_no {id:Int} {q:List Wt}:hasQ id q=false↔∀ w∈q,w.id≠id:=by
 unfold hasQ
 simp
theorem delQ_sub {id:Int}:∀ {q:List Wt},(delQ id q).Sublist q
 |[]=>List.Sublist.refl _
 |w::q=>by
  show (if w.id=id then q else w::delQ id q).Sublist _
  split
  ·exact List.sublist_cons_self _ _
  ·exact delQ_sub.cons_cons _
theorem QOk.del {q:List Wt} (h:QOk q) (id:Int):QOk (delQ id q):=
 ⟨h.st.sublist delQ_sub,h.ids.sublist delQ_sub,fun w hw=>h.ok w (delQ_sub.subset hw),fun w hw=>h.fl w (delQ_sub.subset hw),Nat.le_trans delQ_sub.length_le h.len⟩
theorem QOk.rem {q:List Wt} (h:QOk q) (id:Int):QOk (qrem q id).1:=by
 unfold qrem
 split
 ·exact h.del id
 ·exact h
theorem QOk.ins {q:List Wt} (h:QOk q) {w:Wt} (hw:w.Ok) (hf:w.sc<18446744073709551616) (hn:hasQ w.id q=false) (hl:q.length<200):QOk (insQ w q):=by
 have hn':=hasQ_no.1 hn
 refine ⟨insQ_st h.st hn',insQ_ids h.ids hn',fun x hx=>?_,fun x hx=>?_,by rw [insQ_len];omega⟩
 ·rcases insQ_mem.1 hx with rfl|hx
  ·exact hw
  ·exact h.ok x hx
 ·rcases insQ_mem.1 hx with rfl|hx
  ·exact hf
  ·exact h.fl x hx
theorem QOk.add {q:List Wt} (h:QOk q) {w:Wt} (hf:w.sc<18446744073709551616):QOk (qadd q w).1:=by
 unfold qadd
 split
 ·exact h
 ·rename_i h1
  split
  ·exact h
  ·rename_i h2
   split
   ·exact h
   ·rename_i h3
    exact h.ins (by simpa using h1) hf (by simpa using h2) (by omega)
end Go.VC

/- Lists by keys. No condition. -/
namespace Go.VC
set_option linter.unusedVariables false
set_option linter.unusedSimpArgs false
section
variable {α:Type} {k:α→Int}
def KRise (k:α→Int) (l:List α):Prop:=l.Pairwise fun a b=>k a<k b
theorem KRise.ne {l:List α} (h:KRise k l):l.Pairwise fun a b=>k a≠k b:=h.imp fun hab e=>by omega
end
end Go.VC
/- Numbers and texts that were read: their bytes. No condition. -/
namespace Go.VC
set_option linter.unusedVariables false
set_option linter.unusedSimpArgs false
theorem dig_valI:∀ (k:Nat) (d:List Int),d.length=k→(∀ x∈d,0≤x∧x<256)→d.head?≠some 0→dig (valI 0 d).toNat=d
 |0,d,hl,_,_=>by
  rw [List.length_eq_zero_iff.1 hl]
  exact dig_zero
 |k + 1,d,hl,hb,hh=>by
  have hne:d≠[]:=by rintro rfl;simp at hl
  obtain ⟨d',b,rfl⟩:∃ d' b,d=d'++[b]:=⟨d.dropLast,d.getLast hne,(List.dropLast_concat_getLast hne).symm⟩
  have hb':∀ x∈d',0≤x∧x<256:=fun x hx=>hb x (by simp [hx])
  have hb0:=hb b (by simp)
  have hv:=valI_nn (acc:=0) (Int.le_refl _) hb'
  rw [valI_snoc]
  have hz:(valI 0 d' * 256 + b).toNat≠0:=by
   cases d' with
   |nil=>
    have:b≠0:=by simpa using hh
    rw [valI_nil];omega
   |cons x l=>
    have hx0:x≠0:=by simpa using hh
    have hxb:=hb' x (by simp)
    intro h0
    have hv0:valI 0 (x::l)=0:=by omega
    rw [valI_cons] at hv0
    have mono:∀ (l:List Int) (a:Int),0<a→(∀ y∈l,0≤y∧y<256)→0<valI a l:=by
     intro l
     induction l with
     |nil=>intro a ha _;exact ha
     |cons y l ih=>
      intro a ha hy
      rw [valI_cons]
      have:=hy y (by simp)
      exact ih _ (by omega) fun z hz=>hy z (by simp [hz])
    have:=mono l (0 * 256 + x) (by omega) fun y hy=>hb' y (by simp [hy])
    omega
  rw [dig_pos hz]
  have e1:(valI 0 d' * 256 + b).toNat / 256=(valI 0 d').toNat:=by omega
  have e2:(((valI 0 d' * 256 + b).toNat % 256:Nat):Int)=b:=by omega
  rw [e1,e2]
  simp at hl
  rw [dig_valI k d' hl hb' ?_]
  cases d' with
  |nil=>simp
  |cons x l=>simpa using hh
theorem parse_out {l:List Int} {n:Int} {k:Nat} (hb:∀ x∈l,0≤x∧x<256) (h:parse l=some (n,false,k)):l=numB n.toNat++l.drop k:=by
 unfold parse at h
 split at h
 ·cases h
 ·rename_i c rest
  simp only at h
  by_cases hc16:16≤c
  ·rw [if_pos hc16] at h
   generalize (c - 16).toNat=v at h
   split at h
   ·simp only [Option.some.injEq,Prod.mk.injEq] at h
    obtain ⟨_,hneg,_⟩:=h
    simp [hc16] at hneg
   ·cases h
  rw [if_neg hc16] at h
  generalize hw:c.toNat=w at h
  split at h
  ·rename_i hc
   simp only [Option.some.injEq,Prod.mk.injEq] at h
   obtain ⟨hn,_,hk⟩:=h
   obtain ⟨_,h8,hr,hz,hnz⟩:=hc
   have hc0:=hb c (by simp)
   subst hn
   subst hk
   have e:dig (valI 0 (rest.take w)).toNat=rest.take w:=by
    refine dig_valI _ _ rfl (fun x hx=>hb x (List.mem_cons_of_mem _ (List.mem_of_mem_take hx))) ?_
    cases rest with
    |nil=>simp
    |cons x r=>
     by_cases h0:w=0
     ·rw [h0];simp
     ·have:=hnz h0
      obtain ⟨v,rfl⟩:∃ v,w=v + 1:=⟨w - 1,by omega⟩
      rw [List.take_succ_cons]
      simpa using this
   unfold numB
   rw [e,List.length_take,Nat.min_eq_left hr]
   show c::rest=(((w:Nat):Int)::List.take w rest)++List.drop w rest
   rw [List.cons_append,List.take_append_drop,←hw,Int.toNat_of_nonneg hc0.1]
  ·cases h
theorem rdNum_out {most:Int} {r:Rd} (hb:∀ x∈r.bs,0≤x∧x<256) (h:(rdNum most r).2.bad=false):r.bad=false∧r.bs=numB (rdNum most r).1.toNat++(rdNum most r).2.bs:=by
 unfold rdNum at *
 split at h
 ·rename_i hr;rw [hr] at h;cases h
 ·rename_i hr
  refine ⟨by simpa using hr,?_⟩
  rw [if_neg hr]
  split at h
  ·rename_i n neg k hp
   split at h
   ·rename_i hc
    rw [if_pos hc]
    rw [hc.1] at hp
    exact parse_out hb hp
   ·cases h
  ·cases h
theorem rdNum_bad' {most:Int} {r:Rd} (h:r.bad=true):rdNum most r=(0,r):=by unfold rdNum;rw [if_pos h]
theorem rdText_bad' {most:Int} {r:Rd} (h:r.bad=true):rdText most r=([],r):=by unfold rdText;rw [if_pos h]
end Go.VC
/- A log on a disk: its records, plain. No program. No condition. -/
namespace Go.VC
set_option linter.unusedVariables false
set_option linter.unusedSimpArgs false
def recsB (l:List (List Int)):List Int:=(l.map recB).flatten
def BodyOk (b:List Int):Prop:=b.length≤65536∧∀ x∈b,0≤x∧x<256
theorem recsB_nil:recsB []=[]:=rfl
theorem recsB_cons (b:List Int) (l:List (List Int)):recsB (b::l)=recB b++recsB l:=rfl
theorem recsB_app (a b:List (List Int)):recsB (a++b)=recsB a++recsB b:=by unfold recsB;simp
theorem recsB_one (b:List Int):recsB [b]=recB b:=by simp [recsB]
theorem recsB_len:∀ l:List (List Int),(recsB l).length=scanLen l
 |[]=>rfl
 |b::l=>by rw [recsB_cons,List.length_append,recB_len,recsB_len l,scanLen_cons]
theorem scanLen_app2 (a b:List (List Int)):scanLen (a++b)=scanLen a + scanLen b:=by
 rw [←recsB_len,←recsB_len,←recsB_len,recsB_app,List.length_append]
theorem recsB_bd {l:List (List Int)} (h:∀ b∈l,BodyOk b):∀ x∈recsB l,0≤x∧x<256:=fun x hx=>by
 unfold recsB at hx
 rw [List.mem_flatten] at hx
 obtain ⟨r,hr,hx⟩:=hx
 obtain ⟨b,hb,rfl⟩:=List.mem_map.1 hr
 exact recB_bd (h b hb).2 x hx
theorem scan_app:∀ {l:List (List Int)} {t:List Int},(∀ b∈l,BodyOk b)→first t=none→scan (recsB l++t)=l
 |[],t,_,ht=>by rw [recsB_nil,List.nil_append,scan_none ht]
 |b::l,t,h,ht=>by
  have hb:=h b (List.mem_cons_self ..)
  have hf:=first_rec (rest:=recsB l++t) hb.1 hb.2
  rw [recsB_cons,List.append_assoc,scan_some hf]
  have:(recB b++(recsB l++t)).drop (8 + b.length)=recsB l++t:=by rw [←recB_len,List.drop_left]
  rw [this,scan_app (fun x hx=>h x (List.mem_cons_of_mem _ hx)) ht]
theorem first_nil:first []=none:=by unfold first;simp
theorem scan_recs {l:List (List Int)} (h:∀ b∈l,BodyOk b):scan (recsB l)=l:=by
 have:=scan_app h first_nil
 rwa [List.append_nil] at this
theorem first_cut {b:List Int} (hb:b.length≤65536) {m:Nat} (hm:m<(recB b).length):first ((recB b).take m)=none:=by
 have hl:=recB_len b
 unfold first
 split
 case isFalse=>rfl
 rename_i h8
 have hm8:8≤m:=by rw [List.length_take] at h8;omega
 have e4:((recB b).take m).take 4=word4 b.length:=by
  rw [List.take_take,show min 4 m=4 by omega]
  unfold recB
  rw [List.append_assoc]
  exact List.take_left' (word4_len _)
 have hv:(valI 0 (((recB b).take m).take 4)).toNat=b.length:=by rw [e4,word4_val (by omega)];omega
 simp only [hv]
 rw [if_neg]
 rw [List.length_take]
 omega
theorem take_recs:∀ (l:List (List Int)) (k:Nat),∃ (j:Nat) (t:List Int),j≤l.length∧(recsB l).take k=recsB (l.take j)++t∧(t=[]∨∃ b m,l[j]? =some b∧t=(recB b).take m∧m<(recB b).length)∧
  ∀ i,i≤l.length→scanLen (l.take i)≤k→i≤j
 |[],k=>⟨0,[],Nat.le_refl _,by simp [recsB],.inl rfl,fun i hi _=>hi⟩
 |b::l,k=>by
  by_cases hk:(recB b).length≤k
  ·obtain ⟨j,t,hj,ht,hc,hi⟩:=take_recs l (k - (recB b).length)
   refine ⟨j + 1,t,by simp;omega,?_,?_,fun i hi' hs=>?_⟩
   ·rw [recsB_cons,List.take_append,List.take_of_length_le hk,ht,List.take_succ_cons,recsB_cons,List.append_assoc]
   ·rcases hc with rfl|⟨c,m,h1,h2,h3⟩
    ·exact .inl rfl
    ·exact .inr ⟨c,m,by simpa using h1,h2,h3⟩
   ·cases i with
    |zero=>omega
    |succ i=>
     have:=hi i (by simp at hi';omega) (by rw [List.take_succ_cons,scanLen_cons] at hs;have:=recB_len b;omega)
     omega
  ·refine ⟨0,(recB b).take k,by simp,?_,.inr ⟨b,k,rfl,rfl,by omega⟩,fun i hi' hs=>?_⟩
   ·rw [recsB_cons,List.take_append,show k - (recB b).length=0 by omega];simp [recsB]
   ·cases i with
    |zero=>omega
    |succ i=>rw [List.take_succ_cons,scanLen_cons] at hs;have:=recB_len b;omega
structure Ey where
 ix:Int
 tm:Int
 kd:Int
 dt:List Int
structure Lg where
 base:Int
 l:List Ey
def Lg.last (g:Lg):Int:=g.base + g.l.length
def addR (g:Lg) (r:Rd):Option Lg:=
 let i:=rdNum 1099511627777 r
 let t:=rdNum 1099511627776 i.2
 let k:=rdNum 7 t.2
 let d:=rdText 4096 k.2
 if rdWhole d.2=true∧i.1≤1099511627776∧i.1=g.last + 1 then some ⟨g.base,g.l++[⟨i.1,t.1,k.1,d.1⟩]⟩ else none
def cutTo (g:Lg) (i:Int):Lg:=if i≤g.base then ⟨i - 1,[]⟩ else if i≤g.last then ⟨g.base,g.l.take (i - 1 - g.base).toNat⟩ else g
def cutR (g:Lg) (r:Rd):Option Lg:=
 let i:=rdNum 1099511627777 r
 if rdWhole i.2=true∧1≤i.1 then some (cutTo g i.1) else none
def resetR (_:Lg) (r:Rd):Option Lg:=
 let i:=rdNum 1099511627777 r
 if rdWhole i.2=true∧1≤i.1 then some ⟨i.1 - 1,[]⟩ else none
def changeR1 (g:Lg) (r:Rd):Option Lg:=
 let k:=rdNum 3 r
 if k.1=1 then addR g k.2 else if k.1=2 then cutR g k.2 else if k.1=3 then resetR g k.2 else none
def changeL (g:Lg) (b:List Int):Option Lg:=changeR1 g ⟨b,false⟩
def headL (b:List Int) (num:Int):Int:=
 let k:=rdNum 0 ⟨b,false⟩
 let n:=rdNum 99999999 k.2
 let x:=rdNum 1099511627777 n.2
 if rdWhole x.2=true∧n.1=num then x.1 else 0
structure Ey.Ok (x:Ey):Prop where
 i0:1≤x.ix
 i1:x.ix≤1099511627776
 t0:0≤x.tm
 t1:x.tm≤1099511627776
 k0:0≤x.kd
 k1:x.kd≤7
 d1:x.dt.length≤4096
def entB (x:Ey):List Int:=numB 1++(numB x.ix.toNat++(numB x.tm.toNat++(numB x.kd.toNat++textB x.dt)))
def cutB (i:Int):List Int:=numB 2++numB i.toNat
def hdB (n:Nat) (next:Int):List Int:=numB 0++(numB n++numB next.toNat)
theorem rdN {n:Nat} {most:Int} (h:n<18446744073709551616) (hm:(n:Int)≤most) (rest:List Int):rdNum most ⟨numB n++rest,false⟩=((n:Int),⟨rest,false⟩):=by
 unfold rdNum
 rw [if_neg (by simp)]
 dsimp only
 rw [parse_num h]
 dsimp only
 rw [if_pos ⟨rfl,hm⟩,List.drop_left]
theorem rdN' {n:Nat} {most:Int} (h:n<18446744073709551616) (hm:(n:Int)≤most):rdNum most ⟨numB n,false⟩=((n:Int),⟨[],false⟩):=by
 have:=rdN h hm []
 rwa [List.append_nil] at this
theorem rdT {d:List Int} {most:Int} (hl:d.length<1000000) (hm:(d.length:Int)≤most):rdText most ⟨textB d,false⟩=(d,⟨[],false⟩):=by
 unfold rdText textB
 rw [if_neg (by simp)]
 dsimp only
 rw [parse_num (by omega)]
 dsimp only
 have hn:=numB_len (n:=d.length) (by omega)
 rw [if_pos ⟨rfl,by omega,hm,by simp only [List.length_append];omega⟩,List.drop_left,Int.toNat_natCast,List.take_length,←List.drop_drop,List.drop_left,List.drop_length]
theorem change_ent {g:Lg} {x:Ey} (h:x.Ok):changeL g (entB x)=if x.ix=g.last + 1 then some ⟨g.base,g.l++[x]⟩ else none:=by
 obtain ⟨i0,i1,t0,t1,k0,k1,d1⟩:=h
 unfold changeL changeR1 entB
 simp only
 rw [rdN (n:=1) (by omega) (by omega)]
 dsimp only
 rw [if_pos (show ((1:Nat):Int)=1 from rfl)]
 unfold addR
 simp only
 rw [rdN (n:=x.ix.toNat) (by omega) (by omega)]
 simp only
 rw [rdN (n:=x.tm.toNat) (by omega) (by omega)]
 simp only
 rw [rdN (n:=x.kd.toNat) (by omega) (by omega)]
 simp only
 rw [rdT (by omega) (by omega)]
 simp only [Int.toNat_of_nonneg (show 0≤x.ix by omega),Int.toNat_of_nonneg t0,Int.toNat_of_nonneg k0]
 have hw:rdWhole ⟨[],false⟩=true:=rfl
 by_cases hx:x.ix=g.last + 1
 ·rw [if_pos ⟨hw,i1,hx⟩,if_pos hx]
 ·rw [if_neg (fun h=>hx h.2.2),if_neg hx]
theorem change_cut {g:Lg} {i:Int} (h0:1≤i) (h1:i≤1099511627777):changeL g (cutB i)=some (cutTo g i):=by
 unfold changeL changeR1 cutB
 simp only
 rw [rdN (n:=2) (by omega) (by omega)]
 simp only
 rw [if_neg (by decide),if_pos (by decide)]
 unfold cutR
 simp only
 rw [rdN' (n:=i.toNat) (by omega) (by omega)]
 simp only [Int.toNat_of_nonneg (show 0≤i by omega)]
 rw [if_pos ⟨rfl,h0⟩]
theorem head_hd {n:Nat} {next:Int} (hn:n≤99999999) (h0:0≤next) (h1:next≤1099511627777):headL (hdB n next) n=next:=by
 unfold headL hdB
 simp only
 rw [rdN (n:=0) (by omega) (by omega)]
 simp only
 rw [rdN (n:=n) (by omega) (by omega)]
 simp only
 rw [rdN' (n:=next.toNat) (by omega) (by omega)]
 simp only [Int.toNat_of_nonneg h0]
 rw [if_pos ⟨rfl,trivial⟩]
theorem numB_len_le {n k:Nat} (h:n<256 ^ k):(numB n).length≤k + 1:=by
 unfold numB
 have:=dig_len_le k n h
 simp;omega
theorem entB_len {x:Ey} (h:x.Ok):(entB x).length≤21 + x.dt.length:=by
 obtain ⟨i0,i1,t0,t1,k0,k1,d1⟩:=h
 have a:=numB_len_le (n:=1) (k:=1) (by decide)
 have b:=numB_len_le (n:=x.ix.toNat) (k:=6) (by omega)
 have c:=numB_len_le (n:=x.tm.toNat) (k:=6) (by omega)
 have d:=numB_len_le (n:=x.kd.toNat) (k:=1) (by omega)
 have e:=numB_len_le (n:=x.dt.length) (k:=2) (by omega)
 unfold entB textB
 simp only [List.length_append]
 omega
theorem cutB_len {i:Int} (h1:i≤1099511627777):(cutB i).length≤9:=by
 have a:=numB_len_le (n:=2) (k:=1) (by decide)
 have b:=numB_len_le (n:=i.toNat) (k:=6) (by omega)
 unfold cutB
 simp only [List.length_append]
 omega
theorem hdB_len {n:Nat} {next:Int} (hn:n≤99999999) (h1:next≤1099511627777):(hdB n next).length≤13:=by
 have a:=numB_len_le (n:=0) (k:=0) (by decide)
 have b:=numB_len_le (n:=n) (k:=4) (by omega)
 have c:=numB_len_le (n:=next.toNat) (k:=6) (by omega)
 unfold hdB
 simp only [List.length_append]
 omega
theorem mem_app4 {a b:List Int} (ha:∀ x∈a,0≤x∧x<256) (hb:∀ x∈b,0≤x∧x<256):∀ x∈a++b,0≤x∧x<256:=fun x hx=>(List.mem_append.1 hx).elim (ha x) (hb x)
theorem entB_ok {x:Ey} (h:x.Ok) (hd:∀ y∈x.dt,0≤y∧y<256):BodyOk (entB x):=by
 have hl:=entB_len h
 obtain ⟨i0,i1,t0,t1,k0,k1,d1⟩:=h
 refine ⟨by omega,?_⟩
 unfold entB textB
 exact mem_app4 (numB_bd (by omega)) (mem_app4 (numB_bd (by omega)) (mem_app4 (numB_bd (by omega)) (mem_app4 (numB_bd (by omega)) (mem_app4 (numB_bd (by omega)) hd))))
theorem cutB_ok {i:Int} (h1:i≤1099511627777):BodyOk (cutB i):=by
 have:=cutB_len h1
 refine ⟨by omega,?_⟩
 unfold cutB
 exact mem_app4 (numB_bd (by omega)) (numB_bd (by omega))
theorem hdB_ok {n:Nat} {next:Int} (hn:n≤99999999) (h1:next≤1099511627777):BodyOk (hdB n next):=by
 have:=hdB_len hn h1
 refine ⟨by omega,?_⟩
 unfold hdB
 exact mem_app4 (numB_bd (by omega)) (mem_app4 (numB_bd (by omega)) (numB_bd (by omega)))
theorem Lg.base_le (g:Lg):g.base≤g.last:=by unfold Lg.last;omega
theorem cutTo_last (g:Lg) (i:Int):(cutTo g i).last=if i≤g.last then i - 1 else g.last:=by
 have hb:=g.base_le
 unfold cutTo
 by_cases h1:i≤g.base
 ·rw [if_pos h1,if_pos (by omega)];simp [Lg.last]
 ·rw [if_neg h1]
  by_cases h2:i≤g.last
  ·rw [if_pos h2,if_pos h2]
   unfold Lg.last at h2 ⊢
   simp only [List.length_take]
   omega
  ·rw [if_neg h2,if_neg h2]
theorem change_last {g g' g2:Lg} {b:List Int} (h:changeL g b=some g') (hl:g2.last=g.last):∃ g2',changeL g2 b=some g2'∧g2'.last=g'.last:=by
 unfold changeL changeR1 at h ⊢
 simp only at h ⊢
 split at h
 ·rename_i hk
  rw [if_pos hk]
  unfold addR at h ⊢
  simp only at h ⊢
  split at h
  ·rename_i hc
   rw [if_pos (by rw [hl];exact hc)]
   cases h
   refine ⟨_,rfl,?_⟩
   unfold Lg.last at hl ⊢
   simp only [List.length_append,List.length_cons,List.length_nil]
   omega
  ·cases h
 ·rename_i hk
  rw [if_neg hk]
  split at h
  ·rename_i hk
   rw [if_pos hk]
   unfold cutR at h ⊢
   simp only at h ⊢
   split at h
   ·rename_i hc
    rw [if_pos hc]
    cases h
    exact ⟨_,rfl,by rw [cutTo_last,cutTo_last,hl]⟩
   ·cases h
  ·rename_i hk
   rw [if_neg hk]
   split at h
   ·rename_i hk
    rw [if_pos hk]
    unfold resetR at h ⊢
    simp only at h ⊢
    split at h
    ·rename_i hc
     rw [if_pos hc]
     cases h
     exact ⟨_,rfl,rfl⟩
    ·cases h
   ·cases h
def runs:Lg→List (List Int)→Option Lg
 |g,[]=>some g
 |g,x::xs=>match changeL g x with
  |none=>none
  |some g'=>runs g' xs
theorem runs_app {g:Lg}:∀ {a b:List (List Int)},runs g (a++b)=(runs g a).bind fun g'=>runs g' b:=fun {a}=>by
 induction a generalizing g with
 |nil=>intro b;rfl
 |cons x a ih=>
  intro b
  simp only [List.cons_append,runs]
  cases changeL g x with
  |none=>rfl
  |some g'=>exact ih
theorem runs_last {b:List (List Int)}:∀ {g g' g2:Lg},runs g b=some g'→g2.last=g.last→∃ g2',runs g2 b=some g2'∧g2'.last=g'.last:=by
 induction b with
 |nil=>intro g g' g2 h hl;cases h;exact ⟨g2,rfl,hl⟩
 |cons x b ih=>
  intro g g' g2 h hl
  unfold runs at h ⊢
  split at h
  ·cases h
  ·rename_i g1 h1
   obtain ⟨g3,h3,hl3⟩:=change_last h1 hl
   rw [h3]
   exact ih h hl3
end Go.VC
/- A log on a disk: its segments, how they are loaded; plain. No program. No condition. -/
namespace Go.VC
set_option linter.unusedVariables false
set_option linter.unusedSimpArgs false
structure Sg where
  num:Nat
  next:Int
  size:Int
structure Ld where
  g:Lg
  segs:List Sg
  amiss:Option Sg
  behind:List Nat
def runL:Lg→Int→List (List Int)→Lg × Option Int
  |g,_,[]=>(g,none)
  |g,d,x::xs=>match changeL g x with
    |none=>(g,some d)
    |some g'=>runL g' (d + (8 + x.length)) xs
def nextOfSeg (prev:Option Nat) (n:Nat) (l:List (List Int)):Int:=
  match l with
  |[]=>0
  |h::_=>if prev=none∨prev.map (· + 1)=some n then headL h n else 0
def headB (n:Nat) (next:Int):List Int:=recB (hdB n next)
def loadL (rd:Nat→List Int):Option Nat→Lg→List Sg→List Nat→Ld
  |_,g,segs,[]=>⟨g,segs,none,[]⟩
  |prev,g,segs,n::rest=>
    let l:=scan (rd n)
    let next:=nextOfSeg prev n l
    if next=0∨(prev≠none∧next≠g.last + 1) then ⟨g,segs,some ⟨n,next,0⟩,rest⟩
    else
      let g1:Lg:=if prev=none then ⟨next - 1,g.l⟩ else g
      let segs1:=segs++[⟨n,next,(rd n).length⟩]
      match runL g1 (headB n next).length l.tail with
      |(g2,some d)=>⟨g2,segs1,some ⟨n,next,d⟩,rest⟩
      |(g2,none)=>if scanLen l=(rd n).length then loadL rd (some n) g2 segs1 rest else ⟨g2,segs1,some ⟨n,next,scanLen l⟩,rest⟩
theorem runL_all {b:List (List Int)}:∀ {g g':Lg} {d:Int},runs g b=some g'→runL g d b=(g',none):=by
  induction b with
  |nil=>intro g g' d h;cases h;rfl
  |cons x b ih=>
    intro g g' d h
    unfold runs at h
    unfold runL
    split at h
    · cases h
    · rename_i g1 h1
      first
        |(rw [h1];exact ih h)
        |exact ih h
theorem runL_cut {b:List (List Int)}:∀ {g g':Lg} {d e:Int},runL g d b=(g',some e)→∃ a x c,b=a++x::c∧runs g a=some g'∧e=d + scanLen a:=by
  induction b with
  |nil=>intro g g' d e h;cases h
  |cons x b ih=>
    intro g g' d e h
    unfold runL at h
    split at h
    · rename_i h1
      cases h
      exact ⟨[],x,b,rfl,rfl,by simp [scanLen]⟩
    · rename_i g1 h1
      obtain ⟨a,y,c,rfl,hr,rfl⟩:=ih h
      refine ⟨x::a,y,c,rfl,?_,?_⟩
      · unfold runs;rw [h1];exact hr
      · rw [scanLen_cons];omega
structure Sc where
  num:Nat
  next:Int
  bs:List (List Int)
def Sc.recs (c:Sc):List (List Int):=hdB c.num c.next::c.bs
def Sc.bytes (c:Sc):List Int:=recsB c.recs
def Sc.sg (c:Sc):Sg:=⟨c.num,c.next,c.bytes.length⟩
structure Sc.Ok (c:Sc):Prop where
  n0:1≤c.num
  n1:c.num≤99999999
  x0:1≤c.next
  x1:c.next≤1099511627777
  bs:∀ b∈c.bs,BodyOk b
theorem Sc.Ok.recs {c:Sc} (h:c.Ok):∀ b∈c.recs,BodyOk b:=fun b hb=>by
  rcases List.mem_cons.1 hb with rfl|hb
  · exact hdB_ok h.n1 h.x1
  · exact h.bs b hb
theorem Sc.Ok.scan {c:Sc} (h:c.Ok):scan c.bytes=c.recs:=scan_recs h.recs
inductive Chain:Option Nat→Lg→List Sc→Lg→Prop
  |nil {p:Option Nat} {g:Lg}:Chain p g [] g
  |first {g0 g1 g2:Lg} {c:Sc} {cs:List Sc}:c.Ok→g0.l=[]→runs ⟨c.next - 1,[]⟩ c.bs=some g1→Chain (some c.num) g1 cs g2→Chain none g0 (c::cs) g2
  |more {p:Nat} {g g1 g2:Lg} {c:Sc} {cs:List Sc}:c.Ok→c.num=p + 1→c.next=g.last + 1→runs g c.bs=some g1→Chain (some c.num) g1 cs g2→Chain (some p) g (c::cs) g2
def lastNum:Option Nat→List Sc→Option Nat
  |p,[]=>p
  |_,c::cs=>lastNum (some c.num) cs
theorem Chain.app {a b:List Sc}:∀ {p:Option Nat} {g g1 g2:Lg},Chain p g a g1→Chain (lastNum p a) g1 b g2→Chain p g (a++b) g2:=by
  induction a with
  |nil=>intro p g g1 g2 h h2;cases h;exact h2
  |cons c a ih=>
    intro p g g1 g2 h h2
    cases h with
    |first ho hl hr hc=>exact .first ho hl hr (ih hc h2)
    |more ho hn hx hr hc=>exact .more ho hn hx hr (ih hc h2)
theorem Chain.split {a b:List Sc}:∀ {p:Option Nat} {g g2:Lg},Chain p g (a++b) g2→∃ g1,Chain p g a g1∧Chain (lastNum p a) g1 b g2:=by
  induction a with
  |nil=>intro p g g2 h;exact ⟨g,.nil,h⟩
  |cons c a ih=>
    intro p g g2 h
    cases h with
    |first ho hl hr hc=>obtain ⟨g1,h1,h2⟩:=ih hc;exact ⟨g1,.first ho hl hr h1,h2⟩
    |more ho hn hx hr hc=>obtain ⟨g1,h1,h2⟩:=ih hc;exact ⟨g1,.more ho hn hx hr h1,h2⟩
theorem Chain.ok {cs:List Sc}:∀ {p:Option Nat} {g g2:Lg},Chain p g cs g2→∀ c∈cs,c.Ok:=by
  induction cs with
  |nil=>intro p g g2 _ c hc;cases hc
  |cons c cs ih=>
    intro p g g2 h x hx
    cases h with
    |first ho _ _ hc=>rcases List.mem_cons.1 hx with rfl|hx;exact ho;exact ih hc x hx
    |more ho _ _ _ hc=>rcases List.mem_cons.1 hx with rfl|hx;exact ho;exact ih hc x hx
theorem Chain.again {cs:List Sc}:∀ {p:Option Nat} {g g2 h:Lg},Chain p g cs g2→p≠none→h.last=g.last→∃ h2,Chain p h cs h2∧h2.last=g2.last:=by
  induction cs with
  |nil=>intro p g g2 h hc _ hl;cases hc;exact ⟨h,.nil,hl⟩
  |cons c cs ih=>
    intro p g g2 h hc hp hl
    cases hc with
    |first=>exact absurd rfl hp
    |more ho hn hx hr hc=>
      obtain ⟨h1,hr1,hl1⟩:=runs_last hr hl
      obtain ⟨h2,hc2,hl2⟩:=ih hc (by simp) hl1
      exact ⟨h2,.more ho hn (by rw [hl];exact hx) hr1 hc2,hl2⟩
theorem Chain.tail {c d:Sc} {cs:List Sc} {g g2:Lg} (h:Chain none g (c::d::cs) g2):∃ h2,Chain none ⟨0,[]⟩ (d::cs) h2∧h2.last=g2.last:=by
  cases h with
  |first ho hl hr hc=>
    cases hc with
    |more ho2 hn hx hr2 hc2=>
      obtain ⟨h1,hr1,hl1⟩:=runs_last (g2:=⟨d.next - 1,[]⟩) hr2 (by simp [Lg.last] at hx ⊢;omega)
      obtain ⟨h2,hc3,hl2⟩:=hc2.again (by simp) hl1
      exact ⟨h2,.first ho2 rfl hr1 hc3,hl2⟩
theorem Chain.start {cs:List Sc} {g h g2:Lg} (hc:Chain none g cs g2) (hcs:cs≠[]) (hl:h.l=[]):Chain none h cs g2:=by
  cases hc with
  |nil=>exact absurd rfl hcs
  |first ho _ hr hc=>exact .first ho hl hr hc
theorem load_chain {rd:Nat→List Int} {cs:List Sc}:∀ {p:Option Nat} {g g2:Lg} {segs:List Sg} {rest:List Nat},Chain p g cs g2→(∀ c∈cs,rd c.num=c.bytes)→
    loadL rd p g segs (cs.map (·.num)++rest)=loadL rd (lastNum p cs) g2 (segs++cs.map Sc.sg) rest:=by
  induction cs with
  |nil=>intro p g g2 segs rest h _;cases h;simp [lastNum]
  |cons c cs ih=>
    intro p g g2 segs rest h hrd
    have hc:=hrd c (List.mem_cons_self ..)
    have hcs:∀ x∈cs,rd x.num=x.bytes:=fun x hx=>hrd x (List.mem_cons_of_mem _ hx)
    have step:∀ {g1 g3:Lg},c.Ok→(p=none∨p.map (· + 1)=some c.num)→(p≠none→c.next=g.last + 1)→(if p=none then (⟨c.next - 1,g.l⟩:Lg) else g)=g1→runs g1 c.bs=some g3→Chain (some c.num) g3 cs g2→
        loadL rd p g segs ((c::cs).map (·.num)++rest)=loadL rd (lastNum p (c::cs)) g2 (segs++(c::cs).map Sc.sg) rest:=fun {g1 g3} ho hp hx hg hr hch=>by
      rw [List.map_cons,List.cons_append]
      conv=>lhs;unfold loadL
      simp only [hc,ho.scan]
      have hn:nextOfSeg p c.num c.recs=c.next:=by
        unfold nextOfSeg Sc.recs
        simp only
        rw [if_pos hp,head_hd ho.n1 (by have:=ho.x0;omega) ho.x1]
      simp only [hn]
      rw [if_neg (fun h=>h.elim (fun h=>by have:=ho.x0;omega) (fun h=>h.2 (hx h.1)))]
      rw [hg]
      have ht:c.recs.tail=c.bs:=rfl
      rw [ht,runL_all hr]
      simp only
      have hl:scanLen c.recs=c.bytes.length:=(recsB_len _).symm
      rw [if_pos hl,ih hch hcs]
      simp [lastNum,Sc.sg,List.append_assoc]
    cases h with
    |first ho hl hr hch=>exact step ho (.inl rfl) (fun h=>absurd rfl h) (by rw [if_pos rfl,hl]) hr hch
    |more ho hn hx hr hch=>exact step ho (.inr (by simp [hn])) (fun _=>hx) (if_neg (by simp)) hr hch
theorem Chain.nums {cs:List Sc}:∀ {p:Option Nat} {g g2:Lg},Chain p g cs g2→(∀ q,p=some q→∀ c∈cs,q<c.num)∧cs.Pairwise fun a b=>a.num<b.num:=by
  induction cs with
  |nil=>intro p g g2 _;exact ⟨fun _ _ _ hc=>(by cases hc),.nil⟩
  |cons c cs ih=>
    intro p g g2 h
    cases h with
    |first ho hl hr hc=>
      obtain ⟨h1,h2⟩:=ih hc
      exact ⟨fun _ hq=>(by cases hq),List.pairwise_cons.2 ⟨h1 _ rfl,h2⟩⟩
    |more ho hn hx hr hc=>
      obtain ⟨h1,h2⟩:=ih hc
      refine ⟨fun q hq x hx=>?_,List.pairwise_cons.2 ⟨h1 _ rfl,h2⟩⟩
      cases hq
      rcases List.mem_cons.1 hx with rfl|hx
      · omega
      · have:=h1 _ rfl x hx;omega
theorem load_cut {rd:Nat→List Int} {p:Option Nat} {g g1 g2:Lg} {segs:List Sg} {c:Sc} {k:Nat} (ho:c.Ok) (hp:p=none∨p.map (· + 1)=some c.num) (hx:p≠none→c.next=g.last + 1) (hg:(if p=none then (⟨c.next - 1,g.l⟩:Lg) else g)=g1)
    (hr:runs g1 c.bs=some g2) (hrd:rd c.num=c.bytes.take k):
    (loadL rd p g segs [c.num]=⟨g,segs,some ⟨c.num,0,0⟩,[]⟩∧k<(headB c.num c.next).length)∨
    ∃ j g3,j≤c.bs.length∧runs g1 (c.bs.take j)=some g3∧(∀ i,i≤c.bs.length→scanLen (hdB c.num c.next::c.bs.take i)≤k→i≤j)∧scanLen (hdB c.num c.next::c.bs.take j)≤(rd c.num).length∧
      ((scanLen (hdB c.num c.next::c.bs.take j)=(rd c.num).length∧rd c.num=recsB (hdB c.num c.next::c.bs.take j)∧loadL rd p g segs [c.num]=⟨g3,segs++[⟨c.num,c.next,(rd c.num).length⟩],none,[]⟩)∨
       loadL rd p g segs [c.num]=⟨g3,segs++[⟨c.num,c.next,(rd c.num).length⟩],some ⟨c.num,c.next,scanLen (hdB c.num c.next::c.bs.take j)⟩,[]⟩):=by
  obtain ⟨j,t,hj,ht,hcut,hi⟩:=take_recs c.recs k
  have hscan:scan (c.bytes.take k)=c.recs.take j:=by
    unfold Sc.bytes
    rw [ht]
    refine scan_app (fun b hb=>ho.recs b (List.mem_of_mem_take hb)) ?_
    rcases hcut with rfl|⟨d,m,h1,rfl,h3⟩
    · exact first_nil
    · obtain ⟨hlt,rfl⟩:=List.getElem?_eq_some_iff.1 h1
      exact first_cut (ho.recs _ (List.getElem_mem _)).1 h3
  cases j with
  |zero=>
    refine .inl ⟨?_,?_⟩
    · unfold loadL
      simp only [hrd,hscan,List.take_zero,nextOfSeg]
      rw [if_pos (.inl trivial)]
    · rcases Nat.lt_or_ge k (headB c.num c.next).length with h|h
      · exact h
      · have:=hi 1 (by simp [Sc.recs]) (by
          have:c.recs.take 1=[hdB c.num c.next]:=by simp [Sc.recs]
          rw [this,scanLen_cons]
          unfold headB at h
          rw [recB_len] at h
          simp [scanLen];omega)
        omega
  |succ j=>
    have hj':j≤c.bs.length:=by simpa [Sc.recs] using hj
    have er:c.recs.take (j + 1)=hdB c.num c.next::c.bs.take j:=by simp [Sc.recs]
    have hsplit:c.bs=c.bs.take j++c.bs.drop j:=(List.take_append_drop ..).symm
    obtain ⟨g3,h3⟩:∃ g3,runs g1 (c.bs.take j)=some g3:=by
      rw [hsplit,runs_app] at hr
      cases h:runs g1 (c.bs.take j) with
      |none=>rw [h] at hr;cases hr
      |some g3=>exact ⟨g3,rfl⟩
    have hlen:scanLen (hdB c.num c.next::c.bs.take j)≤(rd c.num).length:=by
      rw [hrd,←er,←recsB_len]
      unfold Sc.bytes
      rw [ht]
      simp
    refine .inr ⟨j,g3,hj',h3,fun i hi' hs=>?_,hlen,?_⟩
    · have:=hi (i + 1) (by simp [Sc.recs];omega) (by simpa [Sc.recs] using hs)
      omega
    · unfold loadL
      simp only [hrd,hscan,er]
      have hn:nextOfSeg p c.num (hdB c.num c.next::c.bs.take j)=c.next:=by
        unfold nextOfSeg
        simp only
        rw [if_pos hp,head_hd ho.n1 (by have:=ho.x0;omega) ho.x1]
      simp only [hn]
      rw [if_neg (fun h=>h.elim (fun h=>by have:=ho.x0;omega) (fun h=>h.2 (hx h.1))),hg,List.tail_cons,runL_all h3]
      simp only
      by_cases he:scanLen (hdB c.num c.next::c.bs.take j)=(c.bytes.take k).length
      · refine .inl ⟨he,?_,?_⟩
        · have h1:c.bytes.take k=recsB (hdB c.num c.next::c.bs.take j)++t:=by rw [←er];exact ht
          have h2:=congrArg List.length h1
          rw [List.length_append,recsB_len,←he] at h2
          have:t=[]:=List.length_eq_zero_iff.1 (by omega)
          rw [h1,this,List.append_nil]
        · rw [if_pos he]
          rfl
      · right
        rw [if_neg he]
end Go.VC
/- SL, part 13: appends of integers; new arrays as slices of one's own. Condition: bounds on lengths. -/
namespace Go.VC
set_option linter.unusedVariables false
set_option linter.unusedSimpArgs false
variable {P:Program} {R:Cx} {Hs Rest:List HP} {w:World} {s t:Sl} {T T2:TypeId}
theorem oneAll_k (k:IntKind) (xs:List Int):oneAll (xs.map (Value.int k))=true:=by
 induction xs with
 |nil=>rfl
 |cons x xs ih=>simp only [List.map_cons,oneAll,List.all_cons,Bool.and_eq_true];exact ⟨rfl,ih⟩
theorem own_lit {b n:Nat} {l:List Value} {fr:Nat × Nat} (hw:Sat R (pts b (.cells l.toArray T fr)::Hs) w) (hn:n=l.length:=by rfl) (hf:okFr l.length fr:=by first|assumption|exact Or.inl rfl):Sat R (Own ⟨some ⟨b,0,none⟩,n,n⟩ T l::Hs) w:=by
 subst hn
 have:=Own.of_pts (xs:=l) (rest:=[]) (by simpa using hw) (by simpa using hf)
 simpa using this
theorem appendRI {t1 t2 ty e':TypeId} {bytes n:Nat} {k:IntKind} (E:El P t1 t2 T bytes) {xs ys:List Int} {K:Sl→World→Prop} (h2:P.underlying t2=some (.slice e'))
  (hw:Sat R (Own s T (xs.map (Value.int k))::Hs) w) (hy:Ro R t (ys.map (Value.int k))) (hn:xs.length + ys.length≤n) (hb:2 * n * bytes≤281474976710656) (hb':n≤9223372036854775807)
  (kk:∀ s' w',Sat R (Own s' T ((xs++ys).map (Value.int k))::Hs) w'→K s' w'):
  ∃ w',∃ t':Sl,(Builtin.append_ #[t1,t2] ty #[.slice s.a s.len s.cap,.slice t.a t.len t.cap]).run P w=.ok (.slice t'.a t'.len t'.cap) w'∧K t' w':=by
 have hsrc:Src P 1 t2 (.slice t.a t.len t.cap) ys.length (ys.map (Value.int k)) w:=by
  have:=srcRo h2 hw hy (oneAll_k _ _)
  simpa using this
 refine append_rule E (s:=s) hw hsrc (oneAll_k _ _) ?_ (by rw [List.length_map];omega) fun s2 w hw=>kk s2 w (by simpa using hw)
 rw [List.length_map]
 have:2 * (xs.length + ys.length) * bytes≤2 * n * bytes:=Nat.mul_le_mul_right _ (by omega)
 omega
theorem appendOO {t1 t2 ty e':TypeId} {bytes n:Nat} {k:IntKind} (E:El P t1 t2 T bytes) {xs ys:List Int} {K:Sl→World→Prop} (h2:P.underlying t2=some (.slice e'))
  (hw:Sat R (Own s T (xs.map (Value.int k))::Own t T2 (ys.map (Value.int k))::Hs) w) (hn:xs.length + ys.length≤n) (hb:2 * n * bytes≤281474976710656) (hb':n≤9223372036854775807)
  (kk:∀ s' w',Sat R (Own s' T ((xs++ys).map (Value.int k))::Own t T2 (ys.map (Value.int k))::Hs) w'→K s' w'):
  ∃ w',∃ t':Sl,(Builtin.append_ #[t1,t2] ty #[.slice s.a s.len s.cap,.slice t.a t.len t.cap]).run P w=.ok (.slice t'.a t'.len t'.cap) w'∧K t' w':=by
 obtain ⟨R',hr,_,hw,back⟩:=Own.lend hw.swap (by rw [List.length_map];omega)
 exact appendRI E h2 hw hr hn hb hb' fun s' w' hw=>kk s' w' (back hw).swap
theorem Ro.ix {k:IntKind} {xs:List Int} {S:World→Prop} {i:Int} (hr:Ro R s (xs.map (Value.int k))) (hS:∀ w,S w→Sat R Hs w) (j:Nat) (hi:i=j) (hj:j<xs.length) {F:Int→Prop} (h:F xs[j]):
  Rng i s.len (NilP s.a fun a=>∃ t:Int,(At S (a.add i.toNat) [.int k t])∧F t):=by
 subst hi
 exact hr.idxK hS hj h
theorem SlR.ix {k:IntKind} {xs:List Int} {S:World→Prop} {i:Int} (hr:SlR R.m s (xs.map (Value.int k))) (hS:∀ w,S w→Sat R Hs w) (j:Nat) (hi:i=j) (hj:j<xs.length) {F:Int→Prop} (h:F xs[j]):
  Rng i s.len (NilP s.a fun a=>∃ t:Int,(At S (a.add i.toNat) [.int k t])∧F t):=by
 subst hi
 exact hr.idxK hS hj h
end Go.VC
/- SL, part 14: memory of one's own, made into memory that is only read, for good. No condition. -/
namespace Go.VC
set_option linter.unusedVariables false
set_option linter.unusedSimpArgs false
variable {P:Program} {R R' R'':Cx} {Hs Rest:List HP} {w:World} {s:Sl} {T:TypeId}
structure Cx.Ext (R R':Cx):Prop where
 m:∀ b o,R.m b=some o→R'.m b=some o
 like:R'.like R
theorem Cx.Ext.refl:R.Ext R:=⟨fun _ _ h=>h,rfl,rfl,rfl⟩
theorem Cx.Ext.trans (h:R.Ext R') (h':R'.Ext R''):R.Ext R'':=
 ⟨fun b o hb=>h'.m b o (h.m b o hb),h.like.1.trans h'.like.1,h.like.2.1.trans h'.like.2.1,h.like.2.2.trans h'.like.2.2⟩
theorem Cx.Ext.add {h:Heap}:R.Ext (R.add h):=⟨fun b o hb=>by simp only [Cx.add,Heap.add,hb],rfl,rfl,rfl⟩
theorem Cx.Ext.back (h:R.Ext R') (hw:Sat R' Hs w):Sat R Hs w:=Sat.ro_of h.m h.like hw
theorem Cx.Ext.ro {xs:List Value} (h:R.Ext R') (a:Ro R s xs):Ro R' s xs:=
 ⟨a.len,a.bound,fun hx=>let ⟨b,off,l,T,fr,h1,h2,h3⟩:=a.mem hx;⟨b,off,l,T,fr,h1,h.m _ _ h2,h3⟩⟩
theorem Cx.Ext.roN {n:Nat} {xs:List (List Value)} (h:R.Ext R') (a:RoN n R s xs):RoN n R' s xs:=
 ⟨a.wid,a.len,fun hx=>let ⟨b,off,l,T,fr,h1,h2,h3⟩:=a.mem hx;⟨b,off,l,T,fr,h1,h.m _ _ h2,h3⟩⟩
theorem Cx.Ext.slR {xs:List Value} (h:R.Ext R') (a:SlR R.m s xs):SlR R'.m s xs:=
 ⟨a.len,a.cap,fun hx=>let ⟨b,off,l,T,fr,h1,h2,h3⟩:=a.mem hx;⟨b,off,l,T,fr,h1,h.m _ _ h2,h3⟩⟩
theorem Reads.leak {xs:List Value} (h:Sat R (Reads s xs::Hs) w):∃ R':Cx,R.Ext R'∧SlR R'.m s xs∧Sat R' Hs w:=by
 obtain ⟨x,_,h1,h2,_⟩:=Reads.lend h
 exact ⟨_,.add,h1,h2⟩
theorem Own.leak {xs:List Value} (h:Sat R (Own s T xs::Hs) w):∃ R':Cx,R.Ext R'∧SlR R'.m s xs∧Sat R' Hs w:=Reads.leak (Own.reads h)
theorem OwnN.leak {n:Nat} {rows:List (List Value)} (h:Sat R (OwnN n s T rows::Hs) w):∃ R':Cx,R.Ext R'∧RoN n R' s rows∧Sat R' Hs w:=by
 obtain ⟨R',h1,⟨x,rfl⟩,h2,_⟩:=OwnN.lend h
 exact ⟨_,.add,h1,h2⟩
theorem pts.leak {b:Nat} {o:Obj} (h:Sat R (pts b o::Hs) w):∃ R':Cx,R.Ext R'∧R'.m b=some o∧Sat R' Hs w:=by
 obtain ⟨h1,h2⟩:=Sat.lend.1 h
 exact ⟨_,.add,Cx.lent h1,h2⟩
end Go.VC
/- SL, part 15: new rows of so many zeros; elements of any one cell. Condition: bounds on lengths. -/
namespace Go.VC
set_option linter.unusedVariables false
set_option linter.unusedSimpArgs false
variable {P:Program} {R:Cx} {Hs Rest:List HP} {w:World} {s:Sl} {T:TypeId}
theorem Own.ix {kd:IntKind} {xs:List Int} {S:World→Prop} {Hs':List HP} {i:Int} (hw:Sat R (Own s T (xs.map (Value.int kd))::Hs) w) (hS:∀ w,S w→Sat R (Own s T (xs.map (Value.int kd))::Hs') w) (k:Nat) (hi:i=k) (hk:k<xs.length) {F:Int→Prop} (h:F xs[k]):
  Rng i s.len (NilP s.a fun a=>∃ t:Int,(At S (a.add i.toNat) [.int kd t])∧F t):=by
 subst hi;exact Own.idx hw hS hk h
end Go.VC

/- SL, part 17: maps whose keys are ints; memory that is only read, several pieces of it lent at once. No condition. -/
namespace Go.VC
set_option linter.unusedVariables false
set_option linter.unusedSimpArgs false
variable {P:Program} {R R' R'':Cx} {Hs Rest:List HP} {w:World} {s:Sl} {T:TypeId}
instance:KeyK Int where
 enc:=Value.int .i64
 desc:=.int .i64
 same a b:=by
  show (if IntKind.i64=IntKind.i64 then some (a==b) else none)=some (a==b)
  rw [if_pos rfl]
 bits a:=by
  have:∀ n,Instr.sameBits n (.int .i64 a) (.int .i64 a)=(IntKind.i64==IntKind.i64 && a==a):=fun n=>by cases n<;>rfl
  rw [this];simp
 eq a b h:=beq_iff_eq.1 h
 check P em K a w h:=by
  show (Instr.checkKey em (9999 + 1) K (.int .i64 a)).run P w=_
  unfold Instr.checkKey
  simp [run_underlying h]
theorem Reads.out {xs:List Value} (h:Sat R (Reads s xs::Hs) w):∃ R',R.Ext R'∧SlR R'.m s xs∧Sat R' Hs w∧∀ Hs' w',Sat R' Hs' w'→Sat R (Reads s xs::Hs') w':=by
 obtain ⟨x,hd,hs,hw,hx⟩:=Reads.lend h
 exact ⟨R.add x,Cx.Ext.add,hs,hw,fun Hs' w' h=>Reads.back hd hx h⟩
end Go.VC
/- SL, part 18: a range over a map of one's own, in whatever order. No condition. -/
namespace Go.VC
set_option linter.unusedVariables false
set_option linter.unusedSimpArgs false
section
variable {α:Type} [BEq α] [KeyK α] {P:Program} {R:Cx} {Hs:List HP} {w:World}
def ItAt (r m:Nat) (es left:List (α × Value)):HP:=exs fun l:List (En α)=>exs fun c:Nat=>exs fun seen:Array Nat=>
 Star [pur (strip l=es∧StampsOk l c∧strip (l.filter fun e=>!seen.contains e.2.2)=left),pts r (.mapIter (some m) c seen c),pts m (.map (l.map mkE).toArray c)]
theorem ItAt.iff {r m:Nat} {es left:List (α × Value)}:Sat R (ItAt r m es left::Hs) w↔∃ (l:List (En α)) (c:Nat) (seen:Array Nat),(strip l=es∧StampsOk l c∧strip (l.filter fun e=>!seen.contains e.2.2)=left)∧
  Sat R (pts r (.mapIter (some m) c seen c)::pts m (.map (l.map (mkE (α:=α))).toArray c)::Hs) w:=by
 unfold ItAt
 simp only [Sat.exs]
 constructor
 ·rintro ⟨l,c,seen,h⟩
  obtain ⟨h1,h2⟩:=Sat.pur.1 (Sat.star.1 h)
  exact ⟨l,c,seen,h1,h2⟩
 ·rintro ⟨l,c,seen,h1,h2⟩
  exact ⟨l,c,seen,Sat.star.2 (Sat.pur.2 ⟨h1,h2⟩)⟩
theorem ItAt.map {r m:Nat} {es left:List (α × Value)} (hw:Sat R (ItAt r m es left::Hs) w):Sat R (MapAt m es::Hs) w:=by
 obtain ⟨l,c,seen,⟨h1,h2,_⟩,hw⟩:=ItAt.iff.1 hw
 exact MapAt.iff.2 ⟨l,c,h1,h2,hw.drop⟩
end
end Go.VC

/- SL, part 20: the next step over a string. No condition. -/
namespace Go.VC
set_option linter.unusedVariables false
set_option linter.unusedSimpArgs false
variable {R:Cx} {Hs:List HP} {w:World}
theorem dec_lo {s:ByteArray} {i:Nat} (h:(s.get! i).toNat<128):Utf8.decode s i=((s.get! i).toNat,1):=by
 unfold Utf8.decode
 simp only [Nat.add_zero]
 rw [if_pos h]
theorem dec_hi {s:ByteArray} {i:Nat} (h:¬ (s.get! i).toNat<128):128≤(Utf8.decode s i).1:=by
 unfold Utf8.decode
 simp only [Nat.add_zero]
 rw [if_neg h]
 have hr:128≤Utf8.runeError:=by decide
 repeat' split
 all_goals first|exact hr|(rename_i h1;simp only [Bool.and_eq_true,decide_eq_true_eq] at h1;dsimp only;omega)|(rename_i h1;dsimp only;omega)
theorem bytes_get {s:ByteArray} {i:Nat} (h:i<s.size):((s.get! i).toNat:Int)=(bytesL s)[i]'(by rw [bytesL_len];exact h):=by
 have h2:i<s.data.toList.length:=by simpa using h
 have e:s.get! i=s.data.toList[i]:=by
  show s.data[i]! =_
  rw [getElem!_pos s.data i (by simpa using h2)]
  simp
 rw [e]
 simp [bytesL]
theorem nextS_rule {b:Nat} {s:ByteArray} {pos:Nat} {A:Int→Int→World→Prop} {B:World→Prop} (hw:Sat R (pts b (.stringIter s pos)::Hs) w)
  (h1:pos<s.size→∀ w',Sat R (pts b (.stringIter s (pos + (Utf8.decode s pos).2))::Hs) w'→A (pos:Int) ((Utf8.decode s pos).1:Int) w') (h2:¬ pos<s.size→B w):NextS (some ⟨b,0,none⟩) A B w:=
 ⟨b,s,pos,rfl,hw.at,fun h=>h1 h _ (hw.setPts (.stringIter s (pos + (Utf8.decode s pos).2))),h2⟩
def strLeft (b:Nat) (w:World):Nat:=match w.heap[b]? with
 |some (.stringIter s pos)=>s.size - pos
 |_=>0
theorem strLeft_eq {b:Nat} {s:ByteArray} {pos:Nat} (hw:Sat R (pts b (.stringIter s pos)::Hs) w):strLeft b w=s.size - pos:=by
 unfold strLeft
 rw [hw.at]
end Go.VC
/- Names of segments: eight digits. No program. No condition. -/
namespace Go.VC
set_option linter.unusedVariables false
set_option linter.unusedSimpArgs false
def dig8 (n:Nat):List Nat:=[n / 10000000 % 10,n / 1000000 % 10,n / 100000 % 10,n / 10000 % 10,n / 1000 % 10,n / 100 % 10,n / 10 % 10,n % 10]
def digU (d:Nat):UInt8:=UInt8.ofNat (48 + d)
def nameU (n:Nat):List UInt8:=[119,97,108,45]++(dig8 n).map digU
def segName (n:Nat):ByteArray:=⟨(nameU n).toArray⟩
def scratchN:ByteArray:=ByteArray.mk #[119,97,108,46,110,101,119]
def val10 (l:List Int):Int:=l.foldl (fun n c=>n * 10 + (c - 48)) 0
def numL (l:List Int):Nat:=
 if l.take 4=[119,97,108,45]∧l.length=12∧(l.drop 4).all (fun c=>decide (48≤c) && decide (c≤57))=true then (val10 (l.drop 4)).toNat else 0
def numsOf (names:List ByteArray):List Nat:=(names.map fun k=>numL (bytesL k)).filter fun n=>decide (0<n)
theorem dig8_lt (n:Nat):∀ d∈dig8 n,d<10:=fun d hd=>by
 simp only [dig8,List.mem_cons,List.not_mem_nil,or_false] at hd
 omega
theorem digU_val {d:Nat} (h:d<10):((digU d).toNat:Int)=48 + d:=by
 unfold digU
 have:(UInt8.ofNat (48 + d)).toNat=48 + d:=by
  rw [UInt8.toNat_ofNat'];omega
 rw [this];omega
theorem nameU_bytes (n:Nat):bytesL (segName n)=[119,97,108,45]++(dig8 n).map fun d:Nat=>48 + (d:Int):=by
 unfold bytesL segName nameU
 simp only [List.map_append,List.map_map]
 congr 1
 refine List.map_congr_left fun d hd=>?_
 exact digU_val (dig8_lt n d hd)
theorem segName_size (n:Nat):(segName n).size=12:=rfl
theorem dig8_val {n:Nat} (h:n<100000000):val10 ((dig8 n).map fun d:Nat=>48 + (d:Int))=n:=by
 unfold val10 dig8
 simp only [List.map_cons,List.map_nil,List.foldl_cons,List.foldl_nil]
 omega
theorem num_name {n:Nat} (h:n<100000000):numL (bytesL (segName n))=n:=by
 rw [nameU_bytes]
 unfold numL
 have hd:([119,97,108,45]++(dig8 n).map fun d:Nat=>48 + (d:Int)).drop 4=(dig8 n).map fun d:Nat=>48 + (d:Int):=rfl
 rw [if_pos]
 ·rw [hd,dig8_val h];omega
 ·refine ⟨rfl,rfl,?_⟩
  rw [hd,List.all_eq_true]
  intro x hx
  obtain ⟨d,hm,rfl⟩:=List.mem_map.1 hx
  have:=dig8_lt n d hm
  simp;omega
theorem num_scratch:numL (bytesL scratchN)=0:=by decide +kernel
theorem seg_ne_scratch (n:Nat):segName n≠scratchN:=fun h=>by
 have:=congrArg ByteArray.size h
 rw [segName_size] at this
 revert this;decide
theorem seg_inj {n m:Nat} (hn:n<100000000) (hm:m<100000000) (h:segName n=segName m):n=m:=by
 rw [←num_name hn,←num_name hm,h]
theorem lex_dig:∀ {a b:List Nat},a.length=b.length→(∀ d∈a,d<10)→(∀ d∈b,d<10)→a.foldl (fun n d=>n * 10 + d) 0<b.foldl (fun n d=>n * 10 + d) 0→a.map digU<b.map digU:=by
 have key:∀ (l:List Nat) (n:Nat),(∀ d∈l,d<10)→l.foldl (fun n d=>n * 10 + d) n=n * 10 ^ l.length + l.foldl (fun n d=>n * 10 + d) 0∧l.foldl (fun n d=>n * 10 + d) 0<10 ^ l.length:=fun l=>by
  induction l with
  |nil=>intro n _;simp
  |cons x l ih=>
   intro n h
   have hl:=fun d hd=>h d (List.mem_cons_of_mem _ hd)
   have hx:=h x (List.mem_cons_self ..)
   simp only [List.foldl_cons,Nat.zero_mul,Nat.zero_add,List.length_cons]
   obtain ⟨h1,h2⟩:=ih (n * 10 + x) hl
   obtain ⟨h3,_⟩:=ih x hl
   rw [h1,h3,Nat.pow_succ]
   have hm:x * 10 ^ l.length≤9 * 10 ^ l.length:=Nat.mul_le_mul_right _ (by omega)
   constructor
   ·rw [Nat.add_mul,Nat.mul_assoc,Nat.mul_comm 10 (10 ^ l.length)];omega
   ·omega
 intro a
 induction a with
 |nil=>intro b hl _ _ h;cases b with
  |nil=>simp at h
  |cons=>simp at hl
 |cons x a ih=>
  intro b hl ha hb h
  cases b with
  |nil=>simp at hl
  |cons y b=>
   have hla:=fun d hd=>ha d (List.mem_cons_of_mem _ hd)
   have hlb:=fun d hd=>hb d (List.mem_cons_of_mem _ hd)
   have hx:=ha x (List.mem_cons_self ..)
   have hy:=hb y (List.mem_cons_self ..)
   simp only [List.length_cons,Nat.add_right_cancel_iff] at hl
   simp only [List.foldl_cons,Nat.zero_mul,Nat.zero_add] at h
   obtain ⟨h1,h2⟩:=key a x hla
   obtain ⟨h3,h4⟩:=key b y hlb
   rw [h1,h3,hl] at h
   rw [hl] at h2
   have hU:∀ d,d<10→(digU d).toNat=48 + d:=fun d hd=>by have:=digU_val hd;omega
   rcases Nat.lt_trichotomy x y with hxy|rfl|hxy
   ·refine List.cons_lt_cons_iff.2 (.inl ?_)
    rw [UInt8.lt_iff_toNat_lt,hU x hx,hU y hy];omega
   ·exact List.cons_lt_cons_iff.2 (.inr ⟨rfl,ih hl hla hlb (by omega)⟩)
   ·exfalso
    have:(y + 1) * 10 ^ b.length≤x * 10 ^ b.length:=Nat.mul_le_mul_right _ hxy
    rw [Nat.add_mul,Nat.one_mul] at this
    omega
theorem dig8_num {n:Nat} (h:n<100000000):(dig8 n).foldl (fun n d=>n * 10 + d) 0=n:=by
 unfold dig8
 simp only [List.foldl_cons,List.foldl_nil]
 omega
theorem seg_lt {n m:Nat} (hm:m<100000000) (h:n<m):(segName n).data.toList<(segName m).data.toList:=by
 show nameU n<nameU m
 have:=lex_dig (a:=dig8 n) (b:=dig8 m) rfl (dig8_lt n) (dig8_lt m) (by rw [dig8_num (by omega),dig8_num hm];exact h)
 unfold nameU
 simp only [List.cons_append,List.nil_append]
 exact List.cons_lt_cons_iff.2 (.inr ⟨rfl,List.cons_lt_cons_iff.2 (.inr ⟨rfl,List.cons_lt_cons_iff.2 (.inr ⟨rfl,List.cons_lt_cons_iff.2 (.inr ⟨rfl,this⟩)⟩)⟩)⟩)
theorem nums_seg {l:List Nat} (h:∀ n∈l,1≤n∧n<100000000):numsOf (l.map segName)=l:=by
 unfold numsOf
 rw [List.map_map]
 have e:l.map ((fun k=>numL (bytesL k)) ∘ segName)=l:=by
  conv=>rhs;rw [←List.map_id l]
  exact List.map_congr_left fun n hn=>num_name (h n hn).2
 rw [e]
 exact List.filter_eq_self.2 fun n hn=>by have:=h n hn;simp;omega
end Go.VC
/- Disks: names, bytes, what changes leave, crashes. No program but for two of slices' functions. Condition: bounds on lengths. -/
namespace Go.Proofs.YtkfedbncmfnpnaaGreatDoor
set_option linter.unusedVariables false
set_option linter.unusedSimpArgs false
open Go Go.VC
variable {R:Cx} {Hs Rest:List HP} {w:World}
instance memDec (k:ByteArray) (l:List ByteArray):Decidable (k∈l):=@List.instDecidableMemOfLawfulBEq ByteArray instBEqOfDecidableEq inferInstance k l
theorem index_spec {s:Sl} {l:List ByteArray} {k:ByteArray} (hs:Ro R s (l.map Value.string)) (hw:Sat R Hs w):
  Gets Tryz.prog 124 #[.slice s.a s.len s.cap,.string k] w fun v w'=>(∃ n:Int,v=.int .i64 n∧(k∈l↔0≤n))∧Sat R Hs w':=by
 have hlen:s.len=l.length:=by have:=hs.len;simpa using this
 have hbd:l.length≤9223372036854775807:=by have:=hs.bound;simpa using this
 apply call124
 refine ⟨fun t w=>∃ j:Nat,t=j∧j≤l.length∧k ∉ l.take j∧Sat R Hs w,fun t _=>l.length - t.toNat,⟨0,rfl,by omega,by simp,hw⟩,?_⟩
 rintro _ _ w ⟨j,rfl,hj,hno,hw⟩
 refine Br.d (fun h=>?_) (fun h=>?_)
 ·have hjl:j<l.length:=by omega
  have:=Ro.idxStr (S:=fun w'=>w'=w) hs (eqS hw) (k:=j) hjl (F:=fun t=>t=l[j]) rfl
  obtain ⟨h0,h1,this⟩:=this.out
  obtain ⟨a,ha,t,hat,rfl⟩:=this.out
  refine Rng.mk h0 h1 (NilP.mk ha ⟨_,hat,?_⟩)
  rw [str_eql]
  refine Br.d (fun h=>?_) (fun h=>?_)
  ·exact ⟨⟨j,rfl,⟨fun _=>by omega,fun _=>by rw [h];exact List.getElem_mem _⟩⟩,hw⟩
  ·rw [wrap64 (by omega) (by omega)]
   refine ⟨⟨j + 1,by omega,by omega,?_,hw⟩,by dsimp only;omega⟩
   rw [List.take_succ_eq_append_getElem hjl,List.mem_append]
   rintro (h2|h2)
   ·exact hno h2
   ·simp at h2;exact h h2
 ·have:j=l.length:=by omega
  subst this
  rw [List.take_length] at hno
  exact ⟨⟨-1,rfl,⟨fun h=>absurd h hno,fun h=>by omega⟩⟩,hw⟩
theorem contains_spec {s:Sl} {l:List ByteArray} {k:ByteArray} (hs:Ro R s (l.map Value.string)) (hw:Sat R Hs w):
  Gets Tryz.prog 85 #[.slice s.a s.len s.cap,.string k] w fun v w'=>v=.bool (decide (k∈l))∧Sat R Hs w':=by
 apply call85
 refine (index_spec hs hw).use ?_
 rintro _ w ⟨⟨n,rfl,hn⟩,hw⟩
 refine ⟨n,rfl,?_,hw⟩
 congr 1
 rw [decide_eq_decide]
 exact hn.symm
def Byt (l:List Int):Prop:=∀ x∈l,0≤x∧x<256
def ByOk (fs:Fs):Prop:=∀ e∈fs,Byt e.2.b
theorem Byt.app {a b:List Int} (ha:Byt a) (hb:Byt b):Byt (a++b):=fun x hx=>(List.mem_append.1 hx).elim (ha x) (hb x)
theorem updM_mem {k:ByteArray} {g:Fl→Fl}:∀ {l:Fs} {e},e∈updM k g l→∃ e0∈l,e=e0∨e=(e0.1,g e0.2)
 |[],_,h=>by cases h
 |a::l,e,h=>by
  unfold updM at h
  split at h
  ·rcases List.mem_cons.1 h with rfl|h
   ·exact ⟨a,List.mem_cons_self ..,.inr rfl⟩
   ·exact ⟨e,List.mem_cons_of_mem _ h,.inl rfl⟩
  ·rcases List.mem_cons.1 h with rfl|h
   ·exact ⟨_,List.mem_cons_self ..,.inl rfl⟩
   ·obtain ⟨e0,h0,h1⟩:=updM_mem h
    exact ⟨e0,List.mem_cons_of_mem _ h0,h1⟩
theorem by_upd {k:ByteArray} {g:Fl→Fl} {fs:Fs} (h:ByOk fs) (hg:∀ f,Byt f.b→Byt (g f).b):ByOk (updM k g fs):=fun e he=>by
 obtain ⟨e0,h0,rfl|rfl⟩:=updM_mem he
 ·exact h _ h0
 ·exact hg _ (h _ h0)
theorem by_ensure {fs:Fs} (h:ByOk fs) (k:ByteArray):ByOk (ensure k fs):=by
 unfold ensure
 split
 ·exact h
 ·intro e he
  rcases List.mem_append.1 he with he|he
  ·exact h e he
  ·simp at he;subst he;exact fun _ h=>by cases h
theorem by_append {st:DS} (h:ByOk st.fs) (k:ByteArray) {xs:List Int} (hx:Byt xs):ByOk (appendD st k xs).1.fs:=by
 have hc:=(chg_fs st (nameOk k)).1
 unfold appendD doing
 split
 ·show ByOk (appendG (chg st (nameOk k)).1 k xs).1.fs
  unfold appendG
  split
  ·rw [hc];exact h
  ·simp only [putB]
   rw [hc]
   exact by_upd (by_ensure h k) fun f hf=>hf.app hx
 ·rw [hc];exact h
theorem by_sync {st:DS} (h:ByOk st.fs) (k:ByteArray):ByOk (syncD st k).1.fs:=by
 have hc:=(chg_fs st (nameOk k)).1
 unfold syncD doing
 split
 ·unfold syncG
  split
  ·simp only;rw [hc];exact by_upd h fun f hf=>hf
  ·rw [hc];exact h
 ·rw [hc];exact h
theorem by_del {fs:Fs} (h:ByOk fs) (k:ByteArray):ByOk (delM k fs):=fun e he=>h e ((delM_sub k fs).subset he)
theorem by_unlink {st:DS} (h:ByOk st.fs) (k:ByteArray):ByOk (unlinkD st k).1.fs:=by
 have hc:=(chg_fs st (nameOk k)).1
 unfold unlinkD doing
 split
 ·unfold unlinkG
  split
  ·simp only;rw [hc];exact by_del h k
  ·rw [hc];exact h
 ·rw [hc];exact h
theorem getM_mem {β:Type} {k:ByteArray}:∀ {l:List (ByteArray × β)} {v:β},getM k l=some v→∃ k',(k',v)∈l:=fun {l v} h=>by
 obtain ⟨a,b,rfl,_⟩:=getM_split h
 exact ⟨k,by simp⟩
theorem by_read {st:DS} (h:ByOk st.fs) (k:ByteArray):Byt (readD st k).1:=by
 unfold readD
 split
 ·exact fun _ h=>by cases h
 ·split
  ·exact fun _ h=>by cases h
  ·split
   ·exact fun _ h=>by cases h
   ·rename_i f hf
    obtain ⟨k',hm⟩:=getM_mem hf
    exact h _ hm
theorem scan_mem:∀ (n:Nat) (bs:List Int),bs.length≤n→∀ x∈scan bs,x.length≤65536∧∀ y∈x,y∈bs:=fun n=>by
 induction n with
 |zero=>
  intro bs h x hx
  cases hf:first bs with
  |none=>rw [scan_none hf] at hx;cases hx
  |some b=>have:=(first_len hf).1;omega
 |succ n ih=>
  intro bs h x hx
  cases hf:first bs with
  |none=>rw [scan_none hf] at hx;cases hx
  |some b=>
   obtain ⟨h1,h2,h3,_⟩:=first_len hf
   rw [scan_some hf] at hx
   rcases List.mem_cons.1 hx with rfl|hx
   ·exact ⟨h2,fun y hy=>by rw [h3] at hy;exact List.mem_of_mem_drop (List.mem_of_mem_take hy)⟩
   ·obtain ⟨h4,h5⟩:=ih _ (by simp;omega) x hx
    exact ⟨h4,fun y hy=>List.mem_of_mem_drop (h5 y hy)⟩
theorem chg_calm {st:DS} (ha:st.arm=-1) (hf:st.fail=-1) (ho:st.off=false):chg st true=(st,0):=by
 obtain ⟨room,fs,fail,arm,off⟩:=st
 simp only at ha hf ho
 subst ha hf ho
 simp [chg,metN]
theorem updM_len {β:Type} (k:ByteArray) (g:β→β) (l:List (ByteArray × β)):(updM k g l).length=l.length:=by
 have:=congrArg List.length (updM_keys k g l);simpa using this
theorem delM_len {β:Type} (k:ByteArray) (l:List (ByteArray × β)):(delM k l).length≤l.length:=(delM_sub k l).length_le
theorem doing_len {st:DS} {ok:Bool} {g:DS→DS × Int} {m:Nat} (h:∀ st,(g st).1.fs.length≤st.fs.length + m):(doing st ok g).1.fs.length≤st.fs.length + m:=by
 unfold doing
 have:=(chg_fs st ok).1
 split
 ·have h2:=h (chg st ok).1;rw [this] at h2;exact h2
 ·rw [this];omega
theorem append_len (st:DS) (k:ByteArray) (xs:List Int):(appendD st k xs).1.fs.length≤st.fs.length + 1:=by
 refine doing_len fun st=>?_
 unfold appendG;split
 ·simp
 ·simp only [putB,updM_len]
  unfold ensure;split<;>simp
theorem sync_len (st:DS) (k:ByteArray):(syncD st k).1.fs.length≤st.fs.length:=by
 refine doing_len (m:=0) fun st=>?_
 unfold syncG;split
 ·simp only [updM_len];simp
 ·simp
theorem unlink_len (st:DS) (k:ByteArray):(unlinkD st k).1.fs.length≤st.fs.length:=by
 refine doing_len (m:=0) fun st=>?_
 unfold unlinkG;split
 ·exact delM_len _ _
 ·simp
theorem rename_len (st:DS) (k kt:ByteArray):(renameD st k kt).1.fs.length≤st.fs.length + 1:=by
 refine doing_len fun st=>?_
 unfold renameG;split
 ·split
  ·simp
  ·have h1:=delM_len k (delM kt st.fs);have h2:=delM_len kt st.fs
   simp only [List.length_append,List.length_cons,List.length_nil];omega
 ·simp
theorem getM_upd_ne {β:Type} {k k2:ByteArray} {g:β→β} (hne:k2≠k):∀ {l:List (ByteArray × β)},getM k2 (updM k g l)=getM k2 l
 |[]=>rfl
 |e::l=>by
  simp only [updM]
  by_cases h:k=e.1
  ·rw [if_pos (by rw [←h];exact ba_rfl k)]
   simp only [getM]
   rw [if_neg (by rw [←h,ba_ne hne];simp),if_neg (by rw [←h,ba_ne hne];simp)]
  ·rw [if_neg (by rw [ba_ne h];simp)]
   simp only [getM]
   rw [getM_upd_ne hne]
theorem getM_app_left {β:Type} {k:ByteArray} {v:β}:∀ {a b:List (ByteArray × β)},getM k a=some v→getM k (a++b)=some v
 |[],_,h=>by cases h
 |e::a,b,h=>by
  simp only [getM] at h
  rw [List.cons_append]
  simp only [getM]
  split at h
  ·rename_i hk;rw [if_pos hk];exact h
  ·rename_i hk;rw [if_neg hk];exact getM_app_left h
theorem getM_app_none {β:Type} {k:ByteArray}:∀ {a b:List (ByteArray × β)},getM k a=none→getM k (a++b)=getM k b
 |[],_,_=>rfl
 |e::a,b,h=>by
  simp only [getM] at h
  split at h
  ·cases h
  ·rename_i hk
   rw [List.cons_append]
   simp only [getM]
   rw [if_neg hk]
   exact getM_app_none h
theorem getM_one_ne {β:Type} {k k2:ByteArray} {v:β} (hne:k2≠k):getM k2 [(k,v)]=none:=by
 simp only [getM];rw [if_neg (by rw [ba_ne hne];simp)]
theorem getM_one {β:Type} {k:ByteArray} {v:β}:getM k [(k,v)]=some v:=by
 simp only [getM];rw [if_pos (ba_rfl k)]
theorem getM_snoc_ne {β:Type} {k k2:ByteArray} {v:β} {l:List (ByteArray × β)} (hne:k2≠k):getM k2 (l++[(k,v)])=getM k2 l:=by
 cases h:getM k2 l with
 |none=>rw [getM_app_none h,getM_one_ne hne]
 |some x=>exact getM_app_left h
theorem getM_ensure_ne {k k2:ByteArray} {fs:Fs} (hne:k2≠k):getM k2 (ensure k fs)=getM k2 fs:=by
 unfold ensure
 split
 ·rfl
 ·exact getM_snoc_ne hne
theorem notin_names {k:ByteArray} {fs:Fs}:k ∉ namesOf fs↔getM k fs=none:=by
 rw [mem_names]
 exact ⟨getM_of_notin,notin_of_getM⟩
theorem doing_get {st:DS} {ok:Bool} {g:DS→DS × Int} {k:ByteArray} (h:∀ st,getM k (g st).1.fs=getM k st.fs):getM k (doing st ok g).1.fs=getM k st.fs:=by
 unfold doing
 split
 ·rw [h,(chg_fs st ok).1]
 ·rw [(chg_fs st ok).1]
theorem append_get {st:DS} {k k2:ByteArray} {xs:List Int} (hne:k2≠k):getM k2 (appendD st k xs).1.fs=getM k2 st.fs:=by
 refine doing_get fun st=>?_
 unfold appendG
 split
 ·rfl
 ·show getM k2 (putB k xs st.fs)=_
  unfold putB
  rw [getM_upd_ne hne,getM_ensure_ne hne]
theorem sync_get {st:DS} {k k2:ByteArray} (hne:k2≠k):getM k2 (syncD st k).1.fs=getM k2 st.fs:=by
 refine doing_get fun st=>?_
 unfold syncG
 split
 ·exact getM_upd_ne hne
 ·rfl
theorem unlink_get {st:DS} {k k2:ByteArray} (hne:k2≠k):getM k2 (unlinkD st k).1.fs=getM k2 st.fs:=by
 refine doing_get fun st=>?_
 unfold unlinkG
 split
 ·exact getM_del_ne hne
 ·rfl
theorem doing_ok {st:DS} {ok:Bool} {g:DS→DS × Int} (h:(doing st ok g).2=0):(chg st ok).2=0∧doing st ok g=g (chg st ok).1:=by
 unfold doing at h ⊢
 split
 ·rename_i h1;exact ⟨h1,rfl⟩
 ·rename_i h1;rw [if_neg h1] at h;exact absurd h h1
theorem doing_err {st:DS} {ok:Bool} {g:DS→DS × Int} (hg:∀ st,(g st).2≠0→(g st).1.fs=st.fs) (h:(doing st ok g).2≠0):(doing st ok g).1.fs=st.fs:=by
 unfold doing at h ⊢
 split
 ·rename_i h1;rw [if_pos h1] at h;rw [hg _ h,(chg_fs st ok).1]
 ·exact (chg_fs st ok).1
theorem append_err {st:DS} {k:ByteArray} {xs:List Int} (h:(appendD st k xs).2≠0):(appendD st k xs).1.fs=st.fs:=by
 refine doing_err (fun st h=>?_) h
 unfold appendG at h ⊢
 split
 ·rfl
 ·rename_i h1;rw [if_neg h1] at h;exact absurd rfl h
theorem sync_err {st:DS} {k:ByteArray} (h:(syncD st k).2≠0):(syncD st k).1.fs=st.fs:=by
 refine doing_err (fun st h=>?_) h
 unfold syncG at h ⊢
 split
 ·rename_i h1;rw [if_pos h1] at h;exact absurd rfl h
 ·rfl
theorem append_new {st:DS} {k:ByteArray} {xs:List Int} (hk:getM k st.fs=none) (h:(appendD st k xs).2=0):getM k (appendD st k xs).1.fs=some ⟨xs,0⟩:=by
 obtain ⟨_,e⟩:=doing_ok h
 have e:appendD st k xs=appendG (chg st (nameOk k)).1 k xs:=e
 rw [e] at h ⊢
 have hf:=(chg_fs st (nameOk k)).1
 generalize (chg st (nameOk k)).1=st' at *
 unfold appendG at h ⊢
 split
 ·rename_i h1;rw [if_pos h1] at h;cases h
 ·show getM k (putB k xs st'.fs)=_
  have he:getM k (ensure k st'.fs)=some ⟨[],0⟩:=by
   unfold ensure
   rw [hf,hk]
   rw [if_neg (by simp)]
   rw [getM_app_none hk,getM_one]
  unfold putB
  rw [getM_upd he];rfl
theorem sync_done {st:DS} {k:ByteArray} {f:Fl} (hk:getM k st.fs=some f) (h:(syncD st k).2=0):getM k (syncD st k).1.fs=some ⟨f.b,f.b.length⟩:=by
 obtain ⟨_,e⟩:=doing_ok h
 have e:syncD st k=syncG k (chg st (nameOk k)).1:=e
 rw [e]
 have hf:=(chg_fs st (nameOk k)).1
 generalize (chg st (nameOk k)).1=st' at *
 unfold syncG
 rw [hf,hk,if_pos (show (some f).isSome=true from rfl)]
 exact getM_upd hk
theorem unlink_done {st:DS} (u:Uni st.fs) {k:ByteArray} (h:(unlinkD st k).2=0):getM k (unlinkD st k).1.fs=none:=by
 obtain ⟨_,e⟩:=doing_ok h
 have e:unlinkD st k=unlinkG k (chg st (nameOk k)).1:=e
 rw [e] at h ⊢
 have hf:=(chg_fs st (nameOk k)).1
 generalize (chg st (nameOk k)).1=st' at *
 unfold unlinkG at h ⊢
 split
 ·show getM k (delM k st'.fs)=none
  rw [hf]
  exact getM_del_self k u
 ·rename_i h1;rw [if_neg h1] at h;cases h
structure Calm (st:DS):Prop where
 arm:st.arm=-1
 fail:st.fail=-1
 off:st.off=false
theorem doing_calm {st:DS} (c:Calm st) {g:DS→DS × Int}:doing st true g=g st:=by
 unfold doing
 rw [chg_calm c.arm c.fail c.off];rfl
theorem append_calm {st:DS} (c:Calm st) {k:ByteArray} {xs:List Int} (hk:nameOk k=true) (hr:total st.fs + xs.length≤st.room):(appendD st k xs).2=0∧Calm (appendD st k xs).1∧total (appendD st k xs).1.fs=total st.fs + xs.length∧(appendD st k xs).1.room=st.room:=by
 unfold appendD
 rw [hk,doing_calm c]
 unfold appendG
 rw [if_neg (by omega)]
 exact ⟨rfl,⟨c.arm,c.fail,c.off⟩,putB_total k xs st.fs,rfl⟩
theorem sync_calm {st:DS} (c:Calm st) {k:ByteArray} {f:Fl} (hk:nameOk k=true) (hf:getM k st.fs=some f):(syncD st k).2=0∧Calm (syncD st k).1∧total (syncD st k).1.fs=total st.fs∧(syncD st k).1.room=st.room:=by
 unfold syncD
 rw [hk,doing_calm c]
 unfold syncG
 rw [hf,if_pos (show (some f).isSome=true from rfl)]
 exact ⟨rfl,⟨c.arm,c.fail,c.off⟩,updM_total (g:=fun f:Fl=>{ f with sure:=f.b.length }) (fun _=>rfl) _,rfl⟩
theorem rename_calm {st:DS} (c:Calm st) (u:Uni st.fs) {k kt:ByteArray} {f:Fl} (hne:k≠kt) (hk:nameOk k=true) (ht:nameOk kt=true) (hf:getM k st.fs=some f):(renameD st k kt).2=0∧Calm (renameD st k kt).1∧total (renameD st k kt).1.fs≤total st.fs∧(renameD st k kt).1.room=st.room:=by
 unfold renameD
 rw [hk,ht,show (true && true)=true from rfl,doing_calm c]
 unfold renameG
 rw [hf]
 simp only
 rw [if_neg hne]
 refine ⟨rfl,⟨c.arm,c.fail,c.off⟩,?_,rfl⟩
 show total (delM k (delM kt st.fs)++[(kt,f)])≤total st.fs
 rw [total_app,total_cons,total_nil]
 have h1:=total_get (k:=k) (f:=f) (fs:=delM kt st.fs) (by rw [getM_del_ne hne];exact hf)
 have h2:=delM_total kt st.fs
 simp only
 omega
theorem cutF_whole (kp:Option Int) (b:List Int):cutF kp ⟨b,b.length⟩=⟨b,b.length⟩:=by
 have:stay kp ⟨b,b.length⟩=0:=by
  unfold stay
  split
  ·rfl
  ·simp only;omega
 unfold cutF
 rw [this]
 simp
theorem crashL_get {k:ByteArray} {b:List Int}:∀ (ks:List ByteArray) (keep:List Int) {fs:Fs},getM k fs=some ⟨b,b.length⟩→getM k (crashL ks keep fs)=some ⟨b,b.length⟩
 |[],_,_,h=>h
 |x::ks,keep,fs,h=>by
  rw [crashL]
  refine crashL_get ks keep.tail ?_
  by_cases hx:k=x
  ·subst hx
   rw [getM_upd h,cutF_whole]
  ·rw [getM_upd_ne hx,h]
theorem crash_calm (st:DS) (keep:List Int):Calm (crashD st keep):=⟨rfl,rfl,rfl⟩
theorem read_get {st:DS} {k:ByteArray} {f:Fl} (ho:st.off=false) (hk:nameOk k=true) (h:getM k st.fs=some f):readD st k=(f.b,0):=by
 unfold readD
 rw [ho,hk,h];rfl
end Go.Proofs.YtkfedbncmfnpnaaGreatDoor
/- A log on a disk, plain: what the program's functions reckon. No program. Condition: none. -/
namespace Go.Proofs.YtkfedbncmfnpnaaGreatDoor
set_option linter.unusedVariables false
set_option linter.unusedSimpArgs false
open Go Go.VC
def loadD (st:DS):Ld:=loadL (fun n=>(readD st (segName n)).1) none ⟨0,[]⟩ [] (numsOf (namesOf st.fs))
structure Wl where
 g:Lg
 segs:List Sg
def thenD (x:DS × Int) (f:DS→DS × Int):DS × Int:=if x.2=0 then f x.1 else x
def makeD (st:DS) (n:Nat) (next:Int):DS × Int:=thenD (appendD st (segName n) (headB n next)) fun st=>syncD st (segName n)
def inSegs (segs:List Sg) (n:Nat):Bool:=segs.any fun s=>decide (s.num=n)
def mendD (st:DS) (segs:List Sg) (s:Sg):DS × Int:=
 if s.next=0∨inSegs segs s.num=false then unlinkD st (segName s.num)
 else if (readD st (segName s.num)).2≠0 then (st,(readD st (segName s.num)).2)
 else thenD (thenD (appendD st scratchN ((readD st (segName s.num)).1.take s.size.toNat)) fun st=>syncD st scratchN) fun st=>renameD st scratchN (segName s.num)
def setSize (segs:List Sg) (z:Int):List Sg:=match segs[segs.length - 1]? with|some s=>segs.set (segs.length - 1) ⟨s.num,s.next,z⟩|none=>segs
def mendSegs (segs:List Sg) (s:Sg):List Sg:=if s.next=0∨inSegs segs s.num=false then segs else setSize segs s.size
def unlinksD:DS→List Nat→DS × Int
 |st,[]=>(st,0)
 |st,n::ns=>thenD (unlinkD st (segName n)) fun st=>unlinksD st ns
def recoverD (st:DS):DS × Int:=
 let ld:=loadD st
 thenD (thenD (thenD (if scratchN∈namesOf st.fs then unlinkD st scratchN else (st,0)) fun st=>match ld.amiss with|some s=>mendD st ld.segs s|none=>(st,0))
  fun st=>unlinksD st ld.behind) fun st=>if ld.segs=[] then makeD st 1 1 else (st,0)
def openedW (st:DS):Wl:=
 let ld:=loadD st
 ⟨ld.g,if ld.segs=[] then [⟨1,1,(headB 1 1).length⟩] else match ld.amiss with
  |some s=>mendSegs ld.segs s
  |none=>ld.segs⟩
def openErr (st:DS) (limit:Int):Int:=if limit<32∨limit>65536 then 1 else if st.off then 5 else (recoverD st).2
def openD (st:DS) (limit:Int):DS:=if limit<32∨limit>65536 then st else if st.off then st else (recoverD st).1
end Go.Proofs.YtkfedbncmfnpnaaGreatDoor
/- Segments on a disk: how they are found; plain. No program. Condition: none. -/
namespace Go.Proofs.YtkfedbncmfnpnaaGreatDoor
set_option linter.unusedVariables false
set_option linter.unusedSimpArgs false
open Go Go.VC
theorem seg_nameOk (n:Nat):nameOk (segName n)=true:=by
 unfold nameOk
 rw [nameU_bytes,segName_size]
 simp only [List.all_append,Bool.and_eq_true,decide_eq_true_eq,List.all_eq_true]
 refine ⟨by decide,by decide,fun x hx=>?_⟩
 obtain ⟨d,hd,rfl⟩:=List.mem_map.1 hx
 have:=dig8_lt n d hd
 unfold okCh
 simp;omega
theorem scratch_nameOk:nameOk scratchN=true:=by decide +kernel
theorem getM_of_mem {β:Type} {k:ByteArray} {v:β}:∀ {l:List (ByteArray × β)},(l.map (·.1)).Nodup→(k,v)∈l→getM k l=some v
 |[],_,h=>by cases h
 |e::l,u,h=>by
  unfold getM
  rw [List.map_cons,List.nodup_cons] at u
  rcases List.mem_cons.1 h with rfl|h
  ·rw [if_pos (ba_rfl _)]
  ·rw [if_neg,getM_of_mem u.2 h]
   intro he
   have hk:k=e.1:=(MapKept.bytes_beq _ _).1 he
   exact u.1 (hk ▸ List.mem_map_of_mem (f:=(·.1)) h)
abbrev segFs (f:Sc→Fl) (cs:List Sc):Fs:=cs.map fun c=>(segName c.num,f c)
theorem segFs_srt {f:Sc→Fl} {cs:List Sc} (h:cs.Pairwise fun a b=>a.num<b.num) (hb:∀ c∈cs,c.num<100000000):Srt (segFs f cs):=by
 unfold Srt segFs
 rw [List.pairwise_map]
 exact h.imp_of_mem fun ha hb' hab=>seg_lt (hb _ hb') hab
theorem segFs_uni {f:Sc→Fl} {cs:List Sc} (h:cs.Pairwise fun a b=>a.num<b.num) (hb:∀ c∈cs,c.num<100000000):Uni (segFs f cs):=by
 unfold Uni segFs
 rw [List.map_map]
 unfold List.Nodup
 rw [List.pairwise_map]
 exact h.imp_of_mem fun ha hb' hab he=>by have:=seg_inj (hb _ ha) (hb _ hb') he;omega
theorem seg_names {st:DS} {f:Sc→Fl} {cs:List Sc} (hp:st.fs.Perm (segFs f cs)) (h:cs.Pairwise fun a b=>a.num<b.num) (hb:∀ c∈cs,c.num<100000000):namesOf st.fs=(cs.map (·.num)).map segName:=by
 rw [names_srt hp (segFs_srt h hb)]
 simp
theorem seg_nums {st:DS} {f:Sc→Fl} {cs:List Sc} (hp:st.fs.Perm (segFs f cs)) (h:cs.Pairwise fun a b=>a.num<b.num) (hb:∀ c∈cs,1≤c.num∧c.num<100000000):numsOf (namesOf st.fs)=cs.map (·.num):=by
 rw [seg_names hp h fun c hc=>(hb c hc).2]
 refine nums_seg fun n hn=>?_
 obtain ⟨c,hc,rfl⟩:=List.mem_map.1 hn
 exact hb c hc
theorem seg_noscratch {st:DS} {f:Sc→Fl} {cs:List Sc} (hp:st.fs.Perm (segFs f cs)) (h:cs.Pairwise fun a b=>a.num<b.num) (hb:∀ c∈cs,c.num<100000000):scratchN ∉ namesOf st.fs:=by
 rw [seg_names hp h hb]
 intro hm
 obtain ⟨n,_,hn⟩:=List.mem_map.1 hm
 exact seg_ne_scratch n hn
theorem seg_get {st:DS} {f:Sc→Fl} {cs:List Sc} (hp:st.fs.Perm (segFs f cs)) (h:cs.Pairwise fun a b=>a.num<b.num) (hb:∀ c∈cs,c.num<100000000) {c:Sc} (hc:c∈cs):getM (segName c.num) st.fs=some (f c):=by
 have u:=segFs_uni (f:=f) h hb
 rw [getM_perm hp (uni_perm hp.symm u)]
 exact getM_of_mem u (List.mem_map_of_mem (f:=fun c=>(segName c.num,f c)) hc)
theorem seg_read {st:DS} {f:Sc→Fl} {cs:List Sc} (hoff:st.off=false) (hp:st.fs.Perm (segFs f cs)) (h:cs.Pairwise fun a b=>a.num<b.num) (hb:∀ c∈cs,c.num<100000000) {c:Sc} (hc:c∈cs):readD st (segName c.num)=((f c).b,0):=
 read_get hoff (seg_nameOk _) (seg_get hp h hb hc)
theorem chain_bd {cs:List Sc} {p:Option Nat} {g g2:Lg} (hc:Chain p g cs g2):∀ c∈cs,1≤c.num∧c.num<100000000:=fun c h=>by
 have:=hc.ok c h
 exact ⟨this.n0,by have:=this.n1;omega⟩
theorem loadD_full {st:DS} {f:Sc→Fl} {cs:List Sc} {g:Lg} (hoff:st.off=false) (hp:st.fs.Perm (segFs f cs)) (hf:∀ c∈cs,(f c).b=c.bytes) (hc:Chain none ⟨0,[]⟩ cs g):loadD st=⟨g,cs.map Sc.sg,none,[]⟩:=by
 have hpw:=hc.nums.2
 have hb:=chain_bd hc
 unfold loadD
 rw [seg_nums hp hpw hb]
 have:=load_chain (rd:=fun n=>(readD st (segName n)).1) (segs:=[]) (rest:=[]) hc fun c h=>by
  rw [seg_read hoff hp hpw (fun c h=>(hb c h).2) h]
  exact hf c h
 rw [List.append_nil] at this
 rw [this]
 unfold loadL
 simp
end Go.Proofs.YtkfedbncmfnpnaaGreatDoor
/-
  DERIVED: THE SHELF's CONTRACTS AT THIS DUMP, IN PLAIN WORDS (tools/lay-plain.mjs out of 'TryzShelf.lean', which tools/lay-shelf.mjs wrote): THE SAME DECLARATIONS UNDER THE SAME NAMES: 'import', 'namespace', 'open', 'def', 'theorem' AND NOTHING ELSE: no command of the shelf's: FOR A HAND-IN. Each laying: the table of numbers ('.._ren') and one theorem, a field a fact of the dump's own or the kernel's comparison; each contract: ONE APPLICATION.
-/
namespace Go.Proofs
set_option linter.unusedVariables false
set_option linter.unusedSimpArgs false
open Go.Shelf
def Tryz.lays103_ren:Go.Shelf.Ren:=⟨fun|103=>150|210=>184|206=>181|n=>n,fun|9=>9|4=>4|24=>170|3=>3|n=>n,fun|n=>n⟩
theorem Tryz.lays103:Go.Proofs.Lays.n103 Tryz.prog Tryz.lays103_ren:={
  mixed:=by kernel_rfl
  f103:=Tryz.func150.trans (congrArg some (by kernel_rfl))
  f206:=Tryz.func181.trans (congrArg some (by kernel_rfl))
  f210:=Tryz.func184.trans (congrArg some (by kernel_rfl))
  t3:=Tryz.underlying3
  a3:=Tryz.isAgg3
  z3:=Tryz.sizeOf3
  v3:=Tryz.zeroValue3
  t4:=Tryz.underlying4
  a4:=Tryz.isAgg4
  z4:=Tryz.sizeOf4
  v4:=Tryz.zeroValue4
  t9:=Tryz.underlying9
  a9:=Tryz.isAgg9
  z9:=Tryz.sizeOf9
  v9:=Tryz.zeroValue9
  t24:=Tryz.underlying170
  a24:=Tryz.isAgg170
  z24:=Tryz.sizeOf170
  v24:=Tryz.zeroValue170 }
open Go.RowKit in
theorem Tryz.strings_CutPrefix (s p:ByteArray) (w:World):
    Calls Tryz.prog 150 #[.string s,.string p] w fun e w'=>e=.returned (.tuple #[.string ⟨(Lib.trimPrefix s.data.toList p.data.toList).toArray⟩,.bool (Lib.hasPrefix s.data.toList p.data.toList)])∧w'=w:=Any.strings_CutPrefix Tryz.lays103 s p w
def Tryz.lays172_ren:Go.Shelf.Ren:=⟨fun|172=>153|244=>186|245=>187|247=>216|279=>217|280=>218|281=>219|282=>220|287=>238|316=>239|171=>105|205=>240|321=>244|322=>245|243=>143|246=>178|283=>209|284=>210|285=>211|286=>212|129=>165|317=>234|318=>235|319=>236|320=>237|337=>242|338=>243|n=>n,fun|9=>9|3=>3|75=>167|76=>168|4=>4|5=>5|167=>231|37=>53|0=>0|85=>232|2=>2|168=>234|53=>148|175=>253|46=>159|210=>257|127=>201|145=>267|143=>265|21=>21|171=>224|173=>226|212=>250|51=>182|20=>20|213=>251|232=>268|233=>269|80=>98|n=>n,fun|15=>2|16=>3|17=>0|18=>4|19=>5|n=>n⟩
theorem Tryz.lays172:Go.Proofs.Lays.n172 Tryz.prog Tryz.lays172_ren:={
  mixed:=by kernel_rfl
  f129:=Tryz.func165.trans (congrArg some (by kernel_rfl))
  f171:=Tryz.func105.trans (congrArg some (by kernel_rfl))
  f172:=Tryz.func153.trans (congrArg some (by kernel_rfl))
  f205:=Tryz.func240.trans (congrArg some (by kernel_rfl))
  f243:=Tryz.func143.trans (congrArg some (by kernel_rfl))
  f244:=Tryz.func186.trans (congrArg some (by kernel_rfl))
  f245:=Tryz.func187.trans (congrArg some (by kernel_rfl))
  f246:=Tryz.func178.trans (congrArg some (by kernel_rfl))
  f247:=Tryz.func216.trans (congrArg some (by kernel_rfl))
  f279:=Tryz.func217.trans (congrArg some (by kernel_rfl))
  f280:=Tryz.func218.trans (congrArg some (by kernel_rfl))
  f281:=Tryz.func219.trans (congrArg some (by kernel_rfl))
  f282:=Tryz.func220.trans (congrArg some (by kernel_rfl))
  f283:=Tryz.func209.trans (congrArg some (by kernel_rfl))
  f284:=Tryz.func210.trans (congrArg some (by kernel_rfl))
  f285:=Tryz.func211.trans (congrArg some (by kernel_rfl))
  f286:=Tryz.func212.trans (congrArg some (by kernel_rfl))
  f287:=Tryz.func238.trans (congrArg some (by kernel_rfl))
  f316:=Tryz.func239.trans (congrArg some (by kernel_rfl))
  f317:=Tryz.func234.trans (congrArg some (by kernel_rfl))
  f318:=Tryz.func235.trans (congrArg some (by kernel_rfl))
  f319:=Tryz.func236.trans (congrArg some (by kernel_rfl))
  f320:=Tryz.func237.trans (congrArg some (by kernel_rfl))
  f321:=Tryz.func244.trans (congrArg some (by kernel_rfl))
  f322:=Tryz.func245.trans (congrArg some (by kernel_rfl))
  f337:=Tryz.func242.trans (congrArg some (by kernel_rfl))
  f338:=Tryz.func243.trans (congrArg some (by kernel_rfl))
  t0:=Tryz.underlying0
  a0:=Tryz.isAgg0
  z0:=Tryz.sizeOf0
  v0:=Tryz.zeroValue0
  t2:=Tryz.underlying2
  a2:=Tryz.isAgg2
  z2:=Tryz.sizeOf2
  v2:=Tryz.zeroValue2
  t3:=Tryz.underlying3
  a3:=Tryz.isAgg3
  z3:=Tryz.sizeOf3
  v3:=Tryz.zeroValue3
  t4:=Tryz.underlying4
  a4:=Tryz.isAgg4
  z4:=Tryz.sizeOf4
  v4:=Tryz.zeroValue4
  t5:=Tryz.underlying5
  a5:=Tryz.isAgg5
  z5:=Tryz.sizeOf5
  v5:=Tryz.zeroValue5
  t9:=Tryz.underlying9
  a9:=Tryz.isAgg9
  z9:=Tryz.sizeOf9
  v9:=Tryz.zeroValue9
  t20:=Tryz.underlying20
  a20:=Tryz.isAgg20
  z20:=Tryz.sizeOf20
  v20:=Tryz.zeroValue20
  t21:=Tryz.underlying21
  a21:=Tryz.isAgg21
  z21:=Tryz.sizeOf21
  v21:=Tryz.zeroValue21
  t37:=Tryz.underlying53
  a37:=Tryz.isAgg53
  z37:=Tryz.sizeOf53
  v37:=Tryz.zeroValue53
  t46:=Tryz.underlying159
  a46:=Tryz.isAgg159
  z46:=Tryz.sizeOf159
  v46:=Tryz.zeroValue159
  t51:=Tryz.underlying182
  a51:=Tryz.isAgg182
  z51:=Tryz.sizeOf182
  v51:=Tryz.zeroValue182
  t53:=Tryz.underlying148
  a53:=Tryz.isAgg148
  z53:=Tryz.sizeOf148
  v53:=Tryz.zeroValue148
  t75:=Tryz.underlying167
  a75:=Tryz.isAgg167
  z75:=Tryz.sizeOf167
  v75:=Tryz.zeroValue167
  t76:=Tryz.underlying168
  a76:=Tryz.isAgg168
  z76:=Tryz.sizeOf168
  v76:=Tryz.zeroValue168
  t85:=Tryz.underlying232
  a85:=Tryz.isAgg232
  z85:=Tryz.sizeOf232
  v85:=Tryz.zeroValue232
  t127:=Tryz.underlying201
  a127:=Tryz.isAgg201
  z127:=Tryz.sizeOf201
  v127:=Tryz.zeroValue201
  t143:=Tryz.underlying265
  a143:=Tryz.isAgg265
  z143:=Tryz.sizeOf265
  v143:=Tryz.zeroValue265
  t145:=Tryz.underlying267
  a145:=Tryz.isAgg267
  z145:=Tryz.sizeOf267
  v145:=Tryz.zeroValue267
  t167:=Tryz.underlying231
  a167:=Tryz.isAgg231
  z167:=Tryz.sizeOf231
  v167:=Tryz.zeroValue231
  t168:=Tryz.underlying234
  a168:=Tryz.isAgg234
  z168:=Tryz.sizeOf234
  v168:=Tryz.zeroValue234
  t171:=Tryz.underlying224
  a171:=Tryz.isAgg224
  z171:=Tryz.sizeOf224
  v171:=Tryz.zeroValue224
  t173:=Tryz.underlying226
  a173:=Tryz.isAgg226
  z173:=Tryz.sizeOf226
  v173:=Tryz.zeroValue226
  t175:=Tryz.underlying253
  a175:=Tryz.isAgg253
  z175:=Tryz.sizeOf253
  v175:=Tryz.zeroValue253
  t210:=Tryz.underlying257
  a210:=Tryz.isAgg257
  z210:=Tryz.sizeOf257
  v210:=Tryz.zeroValue257
  t212:=Tryz.underlying250
  a212:=Tryz.isAgg250
  z212:=Tryz.sizeOf250
  v212:=Tryz.zeroValue250
  t213:=Tryz.underlying251
  a213:=Tryz.isAgg251
  z213:=Tryz.sizeOf251
  t232:=Tryz.underlying268
  a232:=Tryz.isAgg268
  z232:=Tryz.sizeOf268
  v232:=Tryz.zeroValue268
  t233:=Tryz.underlying269
  a233:=Tryz.isAgg269
  z233:=Tryz.sizeOf269
  v233:=Tryz.zeroValue269
  g15:=by kernel_rfl
  g16:=by kernel_rfl
  g17:=by kernel_rfl
  g18:=by kernel_rfl
  g19:=by kernel_rfl }
open Go.RowKit in
theorem Tryz.strconv_Atoi (s:ByteArray) (n:Int) (hl:s.size≤18) (h:Lib.atoi s.data.toList=some n) (w:World):
    Calls Tryz.prog 153 #[.string s] w fun e w'=>e=.returned (.tuple #[.int .i64 n,.nilIface])∧∃ t,w'=Lib.bytesWorld w 5 t:=Any.strconv_Atoi Tryz.lays172 s n hl h w
def Tryz.laysM171_ren:Go.Shelf.Ren:=⟨fun|171=>105|243=>143|246=>178|283=>209|284=>210|285=>211|286=>212|129=>165|317=>234|318=>235|319=>236|320=>237|337=>242|338=>243|n=>n,fun|3=>3|9=>9|2=>2|4=>4|171=>224|0=>0|53=>148|37=>53|5=>5|173=>226|212=>250|51=>182|20=>20|213=>251|46=>159|232=>268|233=>269|n=>n,fun|17=>0|18=>4|19=>5|n=>n⟩
theorem Tryz.laysM171:Go.Proofs.LaysM.n171 Tryz.prog Tryz.laysM171_ren:={
  mixed:=by kernel_rfl
  f129:=Tryz.func165.trans (congrArg some (by kernel_rfl))
  f171:=Tryz.func105.trans (congrArg some (by kernel_rfl))
  f243:=Tryz.func143.trans (congrArg some (by kernel_rfl))
  f246:=Tryz.func178.trans (congrArg some (by kernel_rfl))
  f283:=Tryz.func209.trans (congrArg some (by kernel_rfl))
  f284:=Tryz.func210.trans (congrArg some (by kernel_rfl))
  f285:=Tryz.func211.trans (congrArg some (by kernel_rfl))
  f286:=Tryz.func212.trans (congrArg some (by kernel_rfl))
  f317:=Tryz.func234.trans (congrArg some (by kernel_rfl))
  f318:=Tryz.func235.trans (congrArg some (by kernel_rfl))
  f319:=Tryz.func236.trans (congrArg some (by kernel_rfl))
  f320:=Tryz.func237.trans (congrArg some (by kernel_rfl))
  f337:=Tryz.func242.trans (congrArg some (by kernel_rfl))
  f338:=Tryz.func243.trans (congrArg some (by kernel_rfl))
  t0:=Tryz.underlying0
  a0:=Tryz.isAgg0
  z0:=Tryz.sizeOf0
  v0:=Tryz.zeroValue0
  t2:=Tryz.underlying2
  a2:=Tryz.isAgg2
  z2:=Tryz.sizeOf2
  v2:=Tryz.zeroValue2
  t3:=Tryz.underlying3
  a3:=Tryz.isAgg3
  z3:=Tryz.sizeOf3
  v3:=Tryz.zeroValue3
  t4:=Tryz.underlying4
  a4:=Tryz.isAgg4
  z4:=Tryz.sizeOf4
  v4:=Tryz.zeroValue4
  t5:=Tryz.underlying5
  a5:=Tryz.isAgg5
  z5:=Tryz.sizeOf5
  v5:=Tryz.zeroValue5
  t9:=Tryz.underlying9
  a9:=Tryz.isAgg9
  z9:=Tryz.sizeOf9
  v9:=Tryz.zeroValue9
  t20:=Tryz.underlying20
  a20:=Tryz.isAgg20
  z20:=Tryz.sizeOf20
  v20:=Tryz.zeroValue20
  t37:=Tryz.underlying53
  a37:=Tryz.isAgg53
  z37:=Tryz.sizeOf53
  v37:=Tryz.zeroValue53
  t46:=Tryz.underlying159
  a46:=Tryz.isAgg159
  z46:=Tryz.sizeOf159
  v46:=Tryz.zeroValue159
  t51:=Tryz.underlying182
  a51:=Tryz.isAgg182
  z51:=Tryz.sizeOf182
  v51:=Tryz.zeroValue182
  t53:=Tryz.underlying148
  a53:=Tryz.isAgg148
  z53:=Tryz.sizeOf148
  v53:=Tryz.zeroValue148
  t171:=Tryz.underlying224
  a171:=Tryz.isAgg224
  z171:=Tryz.sizeOf224
  v171:=Tryz.zeroValue224
  t173:=Tryz.underlying226
  a173:=Tryz.isAgg226
  z173:=Tryz.sizeOf226
  v173:=Tryz.zeroValue226
  t212:=Tryz.underlying250
  a212:=Tryz.isAgg250
  z212:=Tryz.sizeOf250
  v212:=Tryz.zeroValue250
  t213:=Tryz.underlying251
  a213:=Tryz.isAgg251
  z213:=Tryz.sizeOf251
  t232:=Tryz.underlying268
  a232:=Tryz.isAgg268
  z232:=Tryz.sizeOf268
  v232:=Tryz.zeroValue268
  t233:=Tryz.underlying269
  a233:=Tryz.isAgg269
  z233:=Tryz.sizeOf269
  v233:=Tryz.zeroValue269
  g17:=by kernel_rfl
  g18:=by kernel_rfl
  g19:=by kernel_rfl
  i0:=by kernel_rfl
  i2:=by kernel_rfl
  i3:=by kernel_rfl
  i4:=by kernel_rfl
  i5:=by kernel_rfl
  i9:=by kernel_rfl
  i20:=by kernel_rfl
  i37:=by kernel_rfl
  i46:=by kernel_rfl
  i51:=by kernel_rfl
  i53:=by kernel_rfl
  i171:=by kernel_rfl
  i173:=by kernel_rfl
  i212:=by kernel_rfl
  i232:=by kernel_rfl
  i233:=by kernel_rfl
  m17:=by kernel_rfl
  m18:=by kernel_rfl
  m19:=by kernel_rfl }
open Go.RowKit Go.Sort Go.Lib in
theorem Tryz.strconv_Itoa (n : Int) (h0 : -9223372036854775808 ≤ n) (h1 : n ≤ 9223372036854775807) (w : World) (htab : Lib.TabIs Tryz.prog w "internal/strconv.uint64pow10" .u64 Lib.pow10Tab) :
    Calls Tryz.prog 105 #[.int .i64 n] w fun e w'=>e=.returned (.string ⟨(Lib.itoa n).toArray⟩)∧∃ k os,w'=grow (w.drewN k) os:=Any.strconv_Itoa Tryz.laysM171 n h0 h1 w htab
def Tryz.lays105_ren:Go.Shelf.Ren:=⟨fun|105=>106|212=>144|99=>145|165=>146|166=>147|170=>148|169=>149|263=>179|264=>180|206=>181|240=>182|241=>183|276=>213|277=>214|n=>n,fun|9=>9|3=>3|4=>4|20=>20|0=>0|46=>159|109=>160|5=>5|72=>165|76=>168|51=>182|146=>197|53=>148|148=>199|70=>163|37=>53|75=>167|127=>201|164=>228|80=>98|n=>n,fun|n=>n⟩
theorem Tryz.lays105:Go.Proofs.Lays.n105 Tryz.prog Tryz.lays105_ren:={
  mixed:=by kernel_rfl
  f99:=Tryz.func145.trans (congrArg some (by kernel_rfl))
  f105:=Tryz.func106.trans (congrArg some (by kernel_rfl))
  f165:=Tryz.func146.trans (congrArg some (by kernel_rfl))
  f166:=Tryz.func147.trans (congrArg some (by kernel_rfl))
  f169:=Tryz.func149.trans (congrArg some (by kernel_rfl))
  f170:=Tryz.func148.trans (congrArg some (by kernel_rfl))
  f206:=Tryz.func181.trans (congrArg some (by kernel_rfl))
  f212:=Tryz.func144.trans (congrArg some (by kernel_rfl))
  f240:=Tryz.func182.trans (congrArg some (by kernel_rfl))
  f241:=Tryz.func183.trans (congrArg some (by kernel_rfl))
  f263:=Tryz.func179.trans (congrArg some (by kernel_rfl))
  f264:=Tryz.func180.trans (congrArg some (by kernel_rfl))
  f276:=Tryz.func213.trans (congrArg some (by kernel_rfl))
  f277:=Tryz.func214.trans (congrArg some (by kernel_rfl))
  t0:=Tryz.underlying0
  a0:=Tryz.isAgg0
  z0:=Tryz.sizeOf0
  v0:=Tryz.zeroValue0
  t3:=Tryz.underlying3
  a3:=Tryz.isAgg3
  z3:=Tryz.sizeOf3
  v3:=Tryz.zeroValue3
  t4:=Tryz.underlying4
  a4:=Tryz.isAgg4
  z4:=Tryz.sizeOf4
  v4:=Tryz.zeroValue4
  t5:=Tryz.underlying5
  a5:=Tryz.isAgg5
  z5:=Tryz.sizeOf5
  v5:=Tryz.zeroValue5
  t9:=Tryz.underlying9
  a9:=Tryz.isAgg9
  z9:=Tryz.sizeOf9
  v9:=Tryz.zeroValue9
  t20:=Tryz.underlying20
  a20:=Tryz.isAgg20
  z20:=Tryz.sizeOf20
  v20:=Tryz.zeroValue20
  t37:=Tryz.underlying53
  a37:=Tryz.isAgg53
  z37:=Tryz.sizeOf53
  v37:=Tryz.zeroValue53
  t46:=Tryz.underlying159
  a46:=Tryz.isAgg159
  z46:=Tryz.sizeOf159
  v46:=Tryz.zeroValue159
  t51:=Tryz.underlying182
  a51:=Tryz.isAgg182
  z51:=Tryz.sizeOf182
  v51:=Tryz.zeroValue182
  t53:=Tryz.underlying148
  a53:=Tryz.isAgg148
  z53:=Tryz.sizeOf148
  v53:=Tryz.zeroValue148
  t70:=Tryz.underlying163
  a70:=Tryz.isAgg163
  z70:=Tryz.sizeOf163
  v70:=Tryz.zeroValue163
  t72:=Tryz.underlying165
  a72:=Tryz.isAgg165
  z72:=Tryz.sizeOf165
  v72:=Tryz.zeroValue165
  t75:=Tryz.underlying167
  a75:=Tryz.isAgg167
  z75:=Tryz.sizeOf167
  v75:=Tryz.zeroValue167
  t76:=Tryz.underlying168
  a76:=Tryz.isAgg168
  z76:=Tryz.sizeOf168
  v76:=Tryz.zeroValue168
  t109:=Tryz.underlying160
  a109:=Tryz.isAgg160
  z109:=Tryz.sizeOf160
  v109:=Tryz.zeroValue160
  t127:=Tryz.underlying201
  a127:=Tryz.isAgg201
  z127:=Tryz.sizeOf201
  v127:=Tryz.zeroValue201
  t146:=Tryz.underlying197
  a146:=Tryz.isAgg197
  z146:=Tryz.sizeOf197
  v146:=Tryz.zeroValue197
  t148:=Tryz.underlying199
  a148:=Tryz.isAgg199
  z148:=Tryz.sizeOf199
  v148:=Tryz.zeroValue199
  t164:=Tryz.underlying228
  a164:=Tryz.isAgg228
  z164:=Tryz.sizeOf228
  v164:=Tryz.zeroValue228 }
theorem Tryz.Builder_Extra_105:Builder.Extra Tryz.prog Tryz.lays105_ren:={
  sizeBuilder:=by kernel_rfl
  liesBuilder:=by kernel_rfl
  t5:=Tryz.underlying5
  a5:=Tryz.isAgg5
  z5:=Tryz.sizeOf5
  v5:=Tryz.zeroValue5
  infoByte:=by kernel_rfl
  cellsByte:=by kernel_rfl
  sizeByte:=by kernel_rfl
  neB5:=by decide }
open Go.RowKit Go.Lib in
theorem Tryz.strings_Repeat (s:ByteArray) (c:Nat) (w:World) (hc:c≤9223372036854775807) (hlen:s.size * c≤140737488355328):
    Calls Tryz.prog 106 #[.string s,.int .i64 c] w fun e w'=>e=.returned (.string ⟨(Lib.repeatL s.data.toList c).toArray⟩)∧Below w.heap.size w w':=Any.strings_Repeat Tryz.lays105 Tryz.Builder_Extra_105 s c w hc hlen
end Go.Proofs
/- Names of segments: as the program writes and reads them. No program. No condition. -/
namespace Go.VC
set_option linter.unusedVariables false
set_option linter.unusedSimpArgs false
open Go
def padD:Nat→Nat→List UInt8
 |0,_=>[]
 |k + 1,n=>padD k (n / 10)++[digU (n % 10)]
theorem padD_zero:∀ k,padD k 0=Lib.repeatL [48] k
 |0=>rfl
 |k + 1=>by
  unfold padD
  rw [Nat.zero_div,padD_zero k]
  have:Lib.repeatL [48] (k + 1)=Lib.repeatL [48] k++Lib.repeatL [48] 1:=Lib.repeatL_add _ _ _
  rw [this]
  rfl
theorem pad_dec:∀ (k n:Nat),1≤k→n<10 ^ k→Lib.repeatL [48] (k - (Lib.decDigits n).length)++Lib.decDigits n=padD k n
 |0,_,h,_=>by omega
 |k + 1,n,_,h=>by
  rw [Lib.decDigits]
  split
  ·rename_i h10
   have e:k + 1 - [UInt8.ofNat (48 + n)].length=k:=rfl
   rw [e]
   unfold padD
   rw [show n / 10=0 by omega,padD_zero,show n % 10=n by omega]
   rfl
  ·rename_i h10
   have hk:1≤k:=by
    rcases Nat.eq_zero_or_pos k with rfl|hk
    ·simp at h;omega
    ·exact hk
   have:=pad_dec k (n / 10) hk (by rw [Nat.pow_succ] at h;omega)
   unfold padD
   rw [←this]
   simp only [List.length_append,List.length_cons,List.length_nil,Nat.zero_add,Nat.add_sub_add_right,List.append_assoc]
   rfl
theorem pad8 (n:Nat):padD 8 n=(dig8 n).map digU:=by
 simp only [padD,dig8,List.map_cons,List.map_nil,List.nil_append,List.cons_append,Nat.div_div_eq_div_mul]
theorem dec_len:∀ (k n:Nat),1≤k→n<10 ^ k→(Lib.decDigits n).length≤k
 |0,_,h,_=>by omega
 |k + 1,n,_,h=>by
  rw [Lib.decDigits]
  split
  ·simp
  ·rename_i h10
   have hk:1≤k:=by
    rcases Nat.eq_zero_or_pos k with rfl|hk
    ·simp at h;omega
    ·exact hk
   have:=dec_len k (n / 10) hk (by rw [Nat.pow_succ] at h;omega)
   simp;omega
theorem seg_parts {n:Nat} (h:n<100000000):ByteArray.mk #[119,97,108,45]++⟨(Lib.repeatL (ByteArray.mk #[48]).data.toList (8 - (Lib.decDigits n).length)).toArray⟩++⟨(Lib.decDigits n).toArray⟩=segName n:=by
 have hp:=pad_dec 8 n (by omega) (by simpa using h)
 rw [pad8] at hp
 unfold segName nameU
 rw [←hp]
 apply ByteArray.ext
 simp only [ByteArray.data_append]
 apply Array.ext'
 simp
end Go.VC
/- Names of segments: what the program's functions give. Condition: numbers of at most eight digits; the library's table of powers is laid. -/
namespace Go.Proofs.YtkfedbncmfnpnaaGreatDoor
set_option linter.unusedVariables false
set_option linter.unusedSimpArgs false
open Go Go.VC
variable {R R':Cx} {Hs Rest:List HP} {w:World}
def PowR (R : Cx) : Prop := ∀ (Hs : List HP) (w : World), Sat R Hs w → Lib.TabIs Tryz.prog w "internal/strconv.uint64pow10" .u64 Lib.pow10Tab
theorem PowR.ext (h:PowR R) (e:R.Ext R'):PowR R':=fun Hs w hw=>h Hs w (e.back hw)
theorem itoa_spec {n:Nat} (hp:PowR R) (hn:n<100000000) (hw:Sat R Hs w):Gets Tryz.prog 105 #[.int .i64 n] w fun v w'=>v=.string ⟨(Lib.decDigits n).toArray⟩∧Sat R Hs w':=by
 refine (Tryz.strconv_Itoa n (by omega) (by omega) w (hp Hs w hw)).mono ?_
 rintro e w' ⟨rfl,k,os,rfl⟩
 refine ⟨_,rfl,?_,?_⟩
 ·unfold Lib.itoa
  rw [if_neg (by omega),Int.toNat_natCast]
 ·have h1:Sat R Hs (w.drewN k):=hw.keeps ⟨rfl,rfl,rfl,fun _ _=>rfl⟩
  have:=Sat.grows os.toList h1
  simpa using this
theorem repeat_spec {c:Nat} (hc:c≤8) (hw:Sat R Hs w):Gets Tryz.prog 106 #[.string (ByteArray.mk #[48]),.int .i64 c] w fun v w'=>v=.string ⟨(Lib.repeatL (ByteArray.mk #[48]).data.toList c).toArray⟩∧Sat R Hs w':=by
 refine (Tryz.strings_Repeat (ByteArray.mk #[48]) c w (by omega) (by show 1 * c≤_;omega)).mono ?_
 rintro e w' ⟨rfl,hb⟩
 exact ⟨_,rfl,rfl,hw.keeps (Keeps.of_below hb)⟩
theorem name_spec {n:Nat} {x z:Int} (hp:PowR R) (hn:n<100000000) (hw:Sat R Hs w):Gets Tryz.prog 57 #[.agg #[.int .i64 n,.int .i64 x,.int .i64 z]] w fun v w'=>v=.string (segName n)∧Sat R Hs w':=by
 apply call57
 refine new_rule hw fun b w hw=>?_
 refine ⟨_,At.own (eqS hw) (by exact ⟨rfl,trivial⟩),?_⟩
 refine (itoa_spec hp hn hw).use ?_
 rintro _ w ⟨rfl,hw⟩
 have hl:=dec_len 8 n (by omega) (by simpa using hn)
 have hs:(ByteArray.mk (Lib.decDigits n).toArray).size=(Lib.decDigits n).length:=by simp [ByteArray.size]
 refine ⟨_,rfl,?_⟩
 have e8:IntKind.i64.wrap (8 - ((ByteArray.mk (Lib.decDigits n).toArray).size:Int))=((8 - (Lib.decDigits n).length:Nat):Int):=by rw [hs,wrap64 (by omega) (by omega)];omega
 rw [e8]
 refine (repeat_spec (by omega) hw).use ?_
 rintro _ w ⟨rfl,hw⟩
 have hs2:(ByteArray.mk (Lib.repeatL (ByteArray.mk #[48]).data.toList (8 - (Lib.decDigits n).length)).toArray).size=8 - (Lib.decDigits n).length:=by simp [ByteArray.size,Lib.repeatL_length]
 have e4:(ByteArray.mk #[119,97,108,45]).size=4:=rfl
 refine ⟨_,rfl,?_,?_,?_⟩
 ·rw [hs2,e4];omega
 ·rw [ByteArray.size_append,hs,hs2,e4];omega
 ·rw [seg_parts hn]
  exact ⟨rfl,hw.drop⟩
end Go.Proofs.YtkfedbncmfnpnaaGreatDoor
/- A log on a disk: records as bytes; what a record does to the log in memory. Condition: bounds on lengths. -/
namespace Go.Proofs.YtkfedbncmfnpnaaGreatDoor
set_option linter.unusedVariables false
set_option linter.unusedSimpArgs false
open Go Go.VC
variable {R R':Cx} {Hs Rest:List HP} {w:World}
def nums8 (l:List Int):List Int:=(l.map fun x=>numB x.toNat).flatten
theorem nums8_take {l:List Int} {k:Nat} (hk:k<l.length):nums8 (l.take (k + 1))=nums8 (l.take k)++numB l[k].toNat:=by
 unfold nums8
 rw [List.take_add_one,List.getElem?_eq_getElem hk,List.map_append,List.flatten_append]
 simp
theorem nums8_len:∀ {l:List Int},(∀ x∈l,0≤x∧x<9223372036854775808)→(nums8 l).length≤9 * l.length
 |[],_=>by simp [nums8]
 |x::l,h=>by
  have h1:=h x (List.mem_cons_self ..)
  have:=numB_len (n:=x.toNat) (by omega)
  have h2:=nums8_len fun y hy=>h y (List.mem_cons_of_mem _ hy)
  unfold nums8 at h2 ⊢
  simp only [List.map_cons,List.flatten_cons,List.length_append,List.length_cons]
  omega
theorem nums8_bd {l:List Int} (h:∀ x∈l,0≤x∧x<9223372036854775808):∀ x∈nums8 l,0≤x∧x<256:=fun x hx=>by
 unfold nums8 at hx
 rw [List.mem_flatten] at hx
 obtain ⟨r,hr,hx⟩:=hx
 obtain ⟨y,hy,rfl⟩:=List.mem_map.1 hr
 have:=h y hy
 exact numB_bd (by omega) x hx
theorem textB_bd {d:List Int} (hl:d.length≤4096) (h:∀ x∈d,0≤x∧x<256):∀ x∈textB d,0≤x∧x<256:=mem_app4 (numB_bd (by omega)) h
theorem textB_len {d:List Int} (hl:d.length≤4096):(textB d).length≤9 + d.length:=by
 have:=numB_len (n:=d.length) (by omega)
 unfold textB
 simp only [List.length_append]
 omega
theorem ro_new {b n:Nat} {xs:List Value} {T:TypeId} (hl:xs.length≤9223372036854775807) (hn:n=xs.length) (hc:R.m b=.none):Ro (R.add (Heap.one b (.cells xs.toArray T (0,0)))) ⟨some ⟨b,0,none⟩,n,n⟩ xs:=by
 subst hn
 exact ⟨rfl,hl,fun _=>⟨b,0,_,T,(0,0),rfl,Cx.lent hc,fun i v h=>by simpa using h⟩⟩
def encB (xs:List Int) (t:Option (List Int)):List Int:=recB (nums8 xs++match t with|some d=>textB d|none=>[])
theorem encoded_spec {sd sl:Sl} {xs:List Int} {t:Option (List Int)} (hx:∀ x∈xs,0≤x∧x<9223372036854775808) (hxl:xs.length≤10) (hd:∀ d,t=some d→Ro R sd (b8 d)∧d.length≤4096∧∀ x∈d,0≤x∧x<256) (hl:Ro R sl (xs.map (Value.int .i64))) (hw:Sat R Hs w):
  Gets Tryz.prog 64 #[.slice sd.a sd.len sd.cap,.bool t.isSome,.slice sl.a sl.len sl.cap] w fun v w'=>∃ s:Sl,v=.slice s.a s.len s.cap∧Sat R (Own s 5 (b8 (encB xs t))::Hs) w':=by
 have hsl:sl.len=xs.length:=by have:=hl.len;simpa using this
 apply call64
 refine ⟨fun b i w=>∃ k:Nat,i=k∧k≤xs.length∧Sat R (Own b 5 (b8 (nums8 (xs.take k)))::Hs) w,fun _ i _=>xs.length - i.toNat,⟨0,rfl,by omega,Own.nil hw⟩,?_⟩
 clear hw
 rintro _ b _ w ⟨k,rfl,hk,hw⟩
 refine Br.d (fun h=>?_) (fun h=>?_)
 ·have hk':k<xs.length:=by omega
  refine hl.ix (eqS hw) k rfl hk' ?_
  have hxk:=hx xs[k] (List.getElem_mem _)
  rw [wrapU64 hxk.1 (by omega),show xs[k]=((xs[k].toNat:Nat):Int) by omega]
  refine (number_spec (by omega) hw).use ?_
  rintro _ w ⟨s,rfl,hw⟩
  refine ⟨s,rfl,?_⟩
  have hn:=numB_len (n:=xs[k].toNat) (by omega)
  have hn2:=nums8_len (l:=xs.take k) fun y hy=>hx y (List.mem_of_mem_take hy)
  have hn3:(xs.take k).length=k:=by simp;omega
  refine appendOO elB8 (s:=b) (t:=s) (n:=200) Tryz.underlying53 hw.swap (by omega) (by omega) (by omega) fun s2 w hw=>?_
  rw [←nums8_take hk'] at hw
  exact ⟨⟨k + 1,by rw [wrap64 (by omega) (by omega)];omega,by omega,hw.swap.drop⟩,by dsimp only;rw [wrap64 (by omega) (by omega)];omega⟩
 ·have:k=xs.length:=by omega
  subst this
  rw [List.take_length] at hw
  have hn2:=nums8_len hx
  have hnb:=nums8_bd hx
  cases t with
  |none=>
   refine Br.f rfl ?_
   have hlen:=Own.len hw
   obtain ⟨R1,hr1,_,hw,back⟩:=Own.lend hw (by rw [List.length_map];omega)
   refine (rput_spec hnb hr1 hw).use ?_
   rintro _ w (⟨h,_⟩|⟨_,t,rfl,hw⟩)
   ·omega
   refine ⟨t,0,rfl,t,rfl,?_⟩
   unfold encB
   rw [List.append_nil]
   exact (back hw).drop
  |some d=>
   obtain ⟨hd1,hd2,hd3⟩:=hd d rfl
   refine Br.t rfl ?_
   refine (ftext_spec hd1 (by omega) hw).use ?_
   rintro _ w ⟨s,rfl,hw⟩
   have hn4:=textB_len hd2
   refine ⟨s,rfl,?_⟩
   refine appendOO elB8 (s:=b) (t:=s) (n:=5000) Tryz.underlying53 hw.swap (by omega) (by omega) (by omega) fun s2 w hw=>?_
   have hw:=hw.swap.drop
   have hbb:∀ x∈nums8 xs++textB d,0≤x∧x<256:=mem_app4 hnb (textB_bd hd2 hd3)
   obtain ⟨R1,hr1,_,hw,back⟩:=Own.lend hw (by rw [List.length_map,List.length_append];omega)
   refine (rput_spec hbb hr1 hw).use ?_
   rintro _ w (⟨h,_⟩|⟨_,t,rfl,hw⟩)
   ·rw [List.length_append] at h;omega
   exact ⟨t,0,rfl,t,rfl,(back hw).drop⟩
theorem encB_hd (n:Nat) (x:Int):encB [0,n,x] none=headB n x:=by
 unfold encB headB hdB nums8
 simp
end Go.Proofs.YtkfedbncmfnpnaaGreatDoor
/- The formulas of functions of this seat's translation, printed by a program of mine off the translation; each is proved equal to 'fnF' of the function's body, so it is enough for the call. No condition. -/
namespace Go.Proofs.YtkfedbncmfnpnaaGreatDoor
open Go Go.VC
set_option linter.unusedVariables false
set_option maxRecDepth 10000
def B22 (f:Option Addr) (K:Value→World→Prop) (w:World):Prop:=
 NilP f fun b=>
 ∃ e:Bool,(At (fun a=>a=w) ⟨b.block,b.off + 5,none⟩ [.bool e])∧
 Br e
 (K (.int .i64 0) w)
 (NilP f fun c=>
 ∃ d:Int,(At (fun a=>a=w) ⟨c.block,c.off + 2,none⟩ [.int .i64 d])∧
 K (.int .i64 (IntKind.i64.wrap (d + 1))) w)
theorem call22 (a:Option Addr) (K:Value→World→Prop) (w:World) (h:B22 a K w):Gets Tryz.prog 22 #[.pointer a] w K:=cq (sk:=.leaf) Tryz.func22 (by kernel_rfl) (by kernel_rfl) (by kernel_rfl) h
def B24 (e:Option Addr) (K:Value→World→Prop) (w:World):Prop:=
 NilP e fun a=>
 ∃ d:Bool,(At (fun g=>g=w) ⟨a.block,a.off + 5,none⟩ [.bool d])∧
 Br d
 (K (.int .i64 0) w)
 (NilP e fun b=>
 Calls Tryz.prog 52 #[.pointer ((some ⟨b.block,b.off + 2,none⟩))] w fun f i=>
 ∃ c:Int,(f=.returned (.int .i64 c))∧
 K (.int .i64 c) i)
theorem call24 (a:Option Addr) (K:Value→World→Prop) (w:World) (h:B24 a K w):Gets Tryz.prog 24 #[.pointer a] w K:=cq (sk:=.leaf) Tryz.func24 (by kernel_rfl) (by kernel_rfl) (by kernel_rfl) h
def B59 (x:Int) (y:Int) (z:Int) (k:Sl) (K:Value→World→Prop) (w:World):Prop:=
 New (.cells #[.int .i64 x,.int .i64 y,.int .i64 z,.slice k.a k.len k.cap] 55 (0,0)) (fun g u=>
 New (.cells #[.int .i64 0,.int .i64 0,.int .i64 0,.slice none 0 0] 55 (0,0)) (fun l s=>
 ∃ b:Sl,(At (fun f=>f=s) ⟨g,0 + 3,none⟩ [.slice b.a b.len b.cap])∧
 Calls Tryz.prog 98 #[.slice b.a b.len b.cap] s fun t v=>
 ∃ c:Sl,(t=.returned (.slice c.a c.len c.cap))∧
 ∃ i:World,((Instr.storeAt 53 (.pointer ((some ⟨g,0 + 3,none⟩))) (.slice c.a c.len c.cap)).run Tryz.prog v=.ok () i)∧
 ∃ m:Int,∃ n:Int,∃ o:Int,∃ d:Sl,(At (fun f=>f=i) ⟨g,0,none⟩ [.int .i64 m,.int .i64 n,.int .i64 o,.slice d.a d.len d.cap])∧
 ∃ j:World,((Instr.storeAt 55 (.pointer ((some ⟨l,0,none⟩))) (.agg #[.int .i64 m,.int .i64 n,.int .i64 o,.slice d.a d.len d.cap])).run Tryz.prog i=.ok () j)∧
 ∃ p:Int,∃ q:Int,∃ r:Int,∃ e:Sl,(At (fun f=>f=j) ⟨l,0,none⟩ [.int .i64 p,.int .i64 q,.int .i64 r,.slice e.a e.len e.cap])∧
 K (.agg #[.int .i64 p,.int .i64 q,.int .i64 r,.slice e.a e.len e.cap]) j) u) w
theorem call59 (c:Int) (d:Int) (e:Int) (b:Sl) (K:Value→World→Prop) (w:World) (h:B59 c d e b K w):Gets Tryz.prog 59 #[.agg #[.int .i64 c,.int .i64 d,.int .i64 e,.slice b.a b.len b.cap]] w K:=cq (sk:=.leaf) Tryz.func59 (by kernel_rfl) (by kernel_rfl) (by kernel_rfl) h
def B21 (n:Option Addr) (c:Int) (e:Int) (K:Value→World→Prop) (w:World):Prop:=
 ∃ (t:World→Prop),(NilP n fun v=>
 ∃ D:Bool,(At (fun i=>i=w) ⟨v.block,v.off + 5,none⟩ [.bool D])∧
 Br D
 (K (.slice none 0 0) w)
 (NilP n fun x=>
 ∃ E:Int,(At (fun i=>i=w) ⟨x.block,x.off + 2,none⟩ [.int .i64 E])∧
 Br (decide (c≤E))
 (K (.slice none 0 0) w)
 (NilP n fun y=>
 Calls Tryz.prog 52 #[.pointer ((some ⟨y.block,y.off + 2,none⟩))] w fun Y q=>
 ∃ F:Int,(Y=.returned (.int .i64 F))∧
 Br (decide (c>F))
 (K (.slice none 0 0) q)
 (Br (decide (e<1))
 (K (.slice none 0 0) q)
 (t  q)))))∧
 ∀ (ae:Env)  (T:World),t  T→
 Drw T fun u aa=>
 NilP n fun z=>
 ∃ b:Sl,(At u ⟨z.block,z.off + 2 + 1,none⟩ [.slice b.a b.len b.cap])∧
 NilP n fun A=>
 ∃ d:Int,(At u ⟨A.block,A.off + 2,none⟩ [.int .i64 d])∧
 ((0:Int)≤IntKind.i64.wrap (IntKind.i64.wrap (c - 1) - d))∧
 ((IntKind.i64.wrap (IntKind.i64.wrap (c - 1) - d):Int)≤(↑b.len:Int))∧
 ((0:Int)≤if (↑(b.len - (IntKind.i64.wrap (IntKind.i64.wrap (c - 1) - d)).toNat):Int)<e then (↑(b.len - (IntKind.i64.wrap (IntKind.i64.wrap (c - 1) - d)).toNat):Int) else e)∧
 ((if (↑(b.len - (IntKind.i64.wrap (IntKind.i64.wrap (c - 1) - d)).toNat):Int)<e then (↑(b.len - (IntKind.i64.wrap (IntKind.i64.wrap (c - 1) - d)).toNat):Int) else e:Int)≤(↑(b.cap - (IntKind.i64.wrap (IntKind.i64.wrap (c - 1) - d)).toNat):Int))∧
 ∃ (p:Sl→Int→World→Prop) (U:Sl→Int→World→Nat),(p ⟨none,0,0⟩ 0 aa)∧∀ (af:Env) (f:Sl) (g:Int) (o:World),p f g o→
 Br (decide (g<(↑(if (↑(b.len - (IntKind.i64.wrap (IntKind.i64.wrap (c - 1) - d)).toNat):Int)<e then (↑(b.len - (IntKind.i64.wrap (IntKind.i64.wrap (c - 1) - d)).toNat):Int) else e).toNat:Int)))
 (Rng g ((if (↑(b.len - (IntKind.i64.wrap (IntKind.i64.wrap (c - 1) - d)).toNat):Int)<e then (↑(b.len - (IntKind.i64.wrap (IntKind.i64.wrap (c - 1) - d)).toNat):Int) else e).toNat) (NilP (cutA b.a (IntKind.i64.wrap (IntKind.i64.wrap (c - 1) - d)).toNat b.cap 4) fun V=>
 ∃ G:Int,∃ H:Int,∃ I:Int,∃ j:Sl,(At (fun i=>i=o) (Addr.add V (mulS g.toNat 4)) [.int .i64 G,.int .i64 H,.int .i64 I,.slice j.a j.len j.cap])∧
 New (.cells #[.int .i64 0,.int .i64 0,.int .i64 0,.slice none 0 0] 55 (0,0)) (fun C ab=>
 ∃ r:World,((Instr.storeAt 55 (.pointer ((some ⟨C,0,none⟩))) (.agg #[.int .i64 G,.int .i64 H,.int .i64 I,.slice j.a j.len j.cap])).run Tryz.prog ab=.ok () r)∧
 ∃ J:Int,∃ L:Int,∃ M:Int,∃ k:Sl,(At (fun i=>i=r) ⟨C,0,none⟩ [.int .i64 J,.int .i64 L,.int .i64 M,.slice k.a k.len k.cap])∧
 Calls Tryz.prog 59 #[.agg #[.int .i64 J,.int .i64 L,.int .i64 M,.slice k.a k.len k.cap]] r fun Z ac=>
 ∃ N:Int,∃ O:Int,∃ Q:Int,∃ l:Sl,(Z=.returned (.agg #[.int .i64 N,.int .i64 O,.int .i64 Q,.slice l.a l.len l.cap]))∧
 New (.cells #[.int .i64 N,.int .i64 O,.int .i64 Q,.slice l.a l.len l.cap] 55 (0,0)) (fun X ad=>
 ∃ s:World,∃ m:Sl,((Builtin.append_ #[40,40] 40 #[.slice f.a f.len f.cap,.slice ((some ⟨X,0,none⟩)) 1 1]).run Tryz.prog ad=.ok (.slice m.a m.len m.cap) s)∧
 (p m (IntKind.i64.wrap (g + 1)) s)∧U m (IntKind.i64.wrap (g + 1)) s<U f g o) ac) o))
 (K (.slice f.a f.len f.cap) o)
def sk21:Sk:=(.seq .leaf (.cut [] [] [6,11,12,13,14,15,16,17,18,19,20,21,22,23,24,25,26,27,28,29,30,31,32,33,34,35] .leaf (.seq .leaf (.seq .leaf (.seq (.seq .leaf (.block (.loop [7,57] [.sl,(.int .i64)] [7,10,57,58,59,60,61,62,63,64,65,66] .leaf))) .leaf)))))
theorem call21 (c:Option Addr) (a:Int) (b:Int) (K:Value→World→Prop) (w:World) (h:B21 c a b K w):Gets Tryz.prog 21 #[.pointer c,.int .i64 a,.int .i64 b] w K:=cq (sk:=sk21) Tryz.func21 (by kernel_rfl) (by kernel_rfl) (by kernel_rfl) h
def B65 (c:Sl) (K:Value→World→Prop) (w:World):Prop:=
 Br c.a.isNone
 (K (.slice none 0 0) w)
 (New (.cells #[] 55 (0,0)) (fun e f=>
 ∃ d:World,∃ b:Sl,((Builtin.append_ #[40,40] 40 #[.slice ((some ⟨e,0,none⟩)) 0 0,.slice c.a c.len c.cap]).run Tryz.prog f=.ok (.slice b.a b.len b.cap) d)∧
 K (.slice b.a b.len b.cap) d) w)
theorem call65 (b:Sl) (K:Value→World→Prop) (w:World) (h:B65 b K w):Gets Tryz.prog 65 #[.slice b.a b.len b.cap] w K:=cq (sk:=.leaf) Tryz.func65 (by kernel_rfl) (by kernel_rfl) (by kernel_rfl) h
end Go.Proofs.YtkfedbncmfnpnaaGreatDoor
/- A log on a disk, in memory: its cells, its entries; what a record does. Condition: bounds on lengths. -/
namespace Go.Proofs.YtkfedbncmfnpnaaGreatDoor
set_option linter.unusedVariables false
set_option linter.unusedSimpArgs false
open Go Go.VC
variable {R R':Cx} {Hs Rest:List HP} {w:World}
theorem _root_.Go.VC.Sat.k1 {A:HP} {R1:List HP} (hw:Sat R Hs w) [a:Take A Hs R1]:Sat R [A,VC.tru] w:=Sat.toTru (As:=[A]) (hw.perm a.perm)
theorem _root_.Go.VC.Sat.k2 {A B:HP} {R1 R2:List HP} (hw:Sat R Hs w) [a:Take A Hs R1] [b:Take B R1 R2]:Sat R [A,B,VC.tru] w:=Sat.toTru (As:=[A,B]) ((hw.perm a.perm).cons fun _ h=>h.perm b.perm)
abbrev DE4:=Sl × Ey
abbrev eRow (e:DE4):List Value:=[.int .i64 e.2.ix,.int .i64 e.2.tm,.int .i64 e.2.kd,.slice e.1.a e.1.len e.1.cap]
abbrev eVal (e:DE4):Value:=.agg #[.int .i64 e.2.ix,.int .i64 e.2.tm,.int .i64 e.2.kd,.slice e.1.a e.1.len e.1.cap]
abbrev erE (ds:List DE4):List Ey:=ds.map (·.2)
def DsR (R:Cx) (ds:List DE4):Prop:=∀ e∈ds,SlR R.m e.1 (b8 e.2.dt)
theorem DsR.ext {ds:List DE4} (h:DsR R ds) (e:R.Ext R'):DsR R' ds:=fun x hx=>e.slR (h x hx)
theorem DsR.nil:DsR R []:=fun _ h=>by cases h
theorem DsR.app {a b:List DE4} (ha:DsR R a) (hb:DsR R b):DsR R (a++b):=fun x hx=>(List.mem_append.1 hx).elim (ha x) (hb x)
theorem DsR.one {e:DE4} (h:SlR R.m e.1 (b8 e.2.dt)):DsR R [e]:=fun x hx=>by simp at hx;subst hx;exact h
theorem DsR.take {a:List DE4} (ha:DsR R a) (n:Nat):DsR R (a.take n):=fun x hx=>ha x (List.mem_of_mem_take hx)
theorem DsR.drop {a:List DE4} (ha:DsR R a) (n:Nat):DsR R (a.drop n):=fun x hx=>ha x (List.mem_of_mem_drop hx)
theorem elE:ElN Tryz.prog 40 40 55 4 48:=⟨Tryz.underlying40,⟨_,Tryz.underlying40⟩,by kernel_rfl⟩
theorem elG:ElN Tryz.prog 84 84 96 3 24:=⟨Tryz.underlying84,⟨_,Tryz.underlying84⟩,by kernel_rfl⟩
theorem one_eRow (e:DE4):oneAll (eRow e)=true:=rfl
theorem one_eRows (ds:List DE4):oneAll (ds.map eRow).flatten=true:=by
 unfold oneAll
 rw [List.all_eq_true]
 intro x hx
 rw [List.mem_flatten] at hx
 obtain ⟨r,hr,hx⟩:=hx
 obtain ⟨e,_,rfl⟩:=List.mem_map.1 hr
 exact List.all_eq_true.1 (one_eRow e) x hx
theorem wid_eRows (ds:List DE4):Wid 4 (ds.map eRow):=fun r hr=>by
 obtain ⟨e,_,rfl⟩:=List.mem_map.1 hr
 rfl
abbrev wCells (d:Nat) (lim base:Int) (s sg:Sl) (brk:Bool):Obj:=
 .cells [.pointer (some ⟨d,0,none⟩),.int .i64 lim,.int .i64 base,.slice s.a s.len s.cap,.slice sg.a sg.len sg.cap,.bool brk].toArray 86 (0,0)
abbrev EntO (s:Sl) (ds:List DE4):HP:=OwnN 4 s 55 (ds.map eRow)
theorem last_spec {p d:Nat} {lim base:Int} {s sg:Sl} {brk:Bool} (h0:0≤base) (h1:base≤2199023255552) (h2:s.len≤1099511627776) (hw:Sat R Hs w) [tk:TakeP p Hs (wCells d lim base s sg brk) Rest]:
  Gets Tryz.prog 52 #[.pointer (some ⟨p,2,none⟩)] w fun v w'=>v=.int .i64 (base + s.len)∧Sat R Hs w':=by
 apply call52
 refine drw_rule hw fun w hw=>?_
 refine NilP.mk rfl ⟨base,(by rw [add_off];exact At.own selfS (by exact ⟨rfl,trivial⟩)),NilP.mk rfl ⟨s,At.own selfS (by exact ⟨rfl,trivial⟩),?_⟩⟩
 rw [wrap64 (by omega) (by omega)]
 exact ⟨rfl,hw⟩
theorem clonE_spec {s:Sl} {ds:List DE4} (hr:RoN 4 R s (ds.map eRow)) (hl:ds.length≤1000000000000) (hw:Sat R Hs w):
  Gets Tryz.prog 65 #[.slice s.a s.len s.cap] w fun v w'=>∃ t:Sl,v=.slice t.a t.len t.cap∧Sat R (EntO t ds::Hs) w':=by
 apply call65
 refine Br.mk (fun h=>?_) (fun h=>?_)
 ·have:ds=[]:=by
   cases ds with
   |nil=>rfl
   |cons e ds=>
    obtain ⟨b,off,l,T,fr,ha,_⟩:=hr.mem (by simp)
    rw [ha] at h;cases h
  subst this
  exact ⟨⟨none,0,0⟩,rfl,OwnN.nil hw⟩
 ·refine new_rule hw fun b w hw=>?_
  have hlen:=hr.len
  have hsrc:=srcRoN (P:=Tryz.prog) ⟨_,Tryz.underlying40⟩ hw hr (one_eRows ds)
  refine appendN0_rule (b:=b) elE hw hsrc (wid_eRows ds) (by rw [List.length_map];omega) (by rw [List.length_map];omega) fun t w hw=>?_
  exact ⟨t,rfl,hw⟩
end Go.Proofs.YtkfedbncmfnpnaaGreatDoor
/- A log on a disk, in memory: what a record does to the log. Condition: bounds on lengths. -/
namespace Go.Proofs.YtkfedbncmfnpnaaGreatDoor
set_option linter.unusedVariables false
set_option linter.unusedSimpArgs false
open Go Go.VC
variable {R R':Cx} {Hs Rest:List HP} {w:World}
theorem pushN_in {P:Program} {n bytes b:Nat} {t1 t2 ty T T':TypeId} {fr:Nat × Nat} {s:Sl} (E:ElN P t1 t2 T n bytes) {rows:List (List Value)} {x:List Value} {K:Sl→World→Prop}
  (hw:Sat R (OwnN n s T rows::pts b (.cells x.toArray T' fr)::Hs) w) (hx:x.length=n) (h1:oneAll x=true) (hb:2 * (rows.length + 1) * bytes≤281474976710656) (hb':rows.length + 1≤9223372036854775807)
  (k:∀ s' w',Sat R (OwnN n s' T (rows++[x])::Hs) w'→K s' w'):
  ∃ w',∃ t:Sl,(Builtin.append_ #[t1,t2] ty #[.slice s.a s.len s.cap,.slice (some ⟨b,0,none⟩) 1 1]).run P w=.ok (.slice t.a t.len t.cap) w'∧K t w':=
 appendN_rule E hw (SrcN_one E.hk 1 hw hx h1) (fun r hr=>by simp at hr;subst hr;exact hx) hb hb' fun s' w' h=>k s' w' (h.cons fun _ h=>h.drop)
theorem index_spec2 {r:Nat} {rd:Rd} (hb:∀ x∈rd.bs,0≤x∧x<256) (hw:Sat R (RdAt r rd::Hs) w):
  Gets Tryz.prog 156 #[.pointer (some ⟨r,0,none⟩)] w fun v w'=>v=.int .i64 (rdNum 1099511627777 rd).1∧Sat R (RdAt r (rdNum 1099511627777 rd).2::Hs) w':=by
 apply call156
 refine (rnum_spec hb hw).use ?_
 rintro _ w ⟨rfl,hw⟩
 have hv:=rdNum_val (most:=1099511627777) hb (by omega)
 refine ⟨_,rfl,?_⟩
 rw [wrap64 (by omega) (by omega)]
 exact ⟨rfl,hw⟩
def ChgQ (R:Cx) (Hs:List HP) (p d:Nat) (lim base:Int) (sg:Sl) (brk:Bool) (es:List Ey) (o:Option Lg) (v:Value) (w:World):Prop:=
 ∃ R' base' s' ds',R.Ext R'∧DsR R' ds'∧v=.bool o.isSome∧(o.getD ⟨base,es⟩)=⟨base',erE ds'⟩∧Sat R' (pts p (wCells d lim base' s' sg brk)::EntO s' ds'::Hs) w
theorem ChgQ.no {p d:Nat} {lim base:Int} {s sg:Sl} {brk:Bool} {ds:List DE4} {o:Option Lg} (hd:DsR R ds) (ho:o=none) (hw:Sat R (pts p (wCells d lim base s sg brk)::EntO s ds::Hs) w):ChgQ R Hs p d lim base sg brk (erE ds) o (.bool false) w:=
 ⟨R,base,s,ds,.refl,hd,by rw [ho];rfl,by rw [ho];rfl,hw⟩
theorem ChgQ.yes {p d:Nat} {lim base base':Int} {s sg:Sl} {brk:Bool} {ds':List DE4} {es:List Ey} {o:Option Lg} (e:R.Ext R') (hd:DsR R' ds') (ho:o=some ⟨base',erE ds'⟩) (hw:Sat R' (pts p (wCells d lim base' s sg brk)::EntO s ds'::Hs) w):ChgQ R Hs p d lim base sg brk es o (.bool true) w:=
 ⟨R',base',s,ds',e,hd,by rw [ho];rfl,by rw [ho];rfl,hw⟩
theorem ChgQ.ext {p d:Nat} {lim base:Int} {sg:Sl} {brk:Bool} {es:List Ey} {o:Option Lg} {v:Value} (e:R.Ext R') (h:ChgQ R' Hs p d lim base sg brk es o v w):ChgQ R Hs p d lim base sg brk es o v w:=
 let ⟨R2,b,s,ds,e2,h2⟩:=h;⟨R2,b,s,ds,e.trans e2,h2⟩
theorem addE_spec {p d r:Nat} {lim base:Int} {s sg:Sl} {brk:Bool} {ds:List DE4} {rd:Rd} (h0:0≤base) (h1:base≤1099511627776) (hl:ds.length≤100000000000) (hd:DsR R ds) (hb:∀ x∈rd.bs,0≤x∧x<256) (hbl:rd.bs.length≤1099511627776)
  (hw:Sat R (RdAt r rd::pts p (wCells d lim base s sg brk)::EntO s ds::Hs) w):
  Gets Tryz.prog 158 #[.pointer (some ⟨p,2,none⟩),.pointer (some ⟨r,0,none⟩)] w (ChgQ R Hs p d lim base sg brk (erE ds) (addR ⟨base,erE ds⟩ rd)):=by
 apply call158
 refine (index_spec2 hb hw).use ?_
 clear hw
 rintro _ w ⟨rfl,hw⟩
 have hv1:=rdNum_val (most:=1099511627777) hb (by omega)
 have hb1:=rdNum_bd (most:=1099511627777) hb
 have hn1:=rdNum_len (most:=1099511627777) (rd:=rd)
 obtain ⟨i,hi⟩:∃ i,i=rdNum 1099511627777 rd:=⟨_,rfl⟩
 rw [←hi] at hw hv1 hb1 hn1 ⊢
 refine ⟨_,rfl,?_⟩
 refine (rnum_spec hb1 hw).use ?_
 clear hw
 rintro _ w ⟨rfl,hw⟩
 have hv2:=rdNum_val (most:=1099511627776) hb1 (by omega)
 have hb2:=rdNum_bd (most:=1099511627776) hb1
 have hn2:=rdNum_len (most:=1099511627776) (rd:=i.2)
 obtain ⟨t,ht⟩:∃ t,t=rdNum 1099511627776 i.2:=⟨_,rfl⟩
 rw [←ht] at hw hv2 hb2 hn2 ⊢
 refine ⟨_,rfl,?_⟩
 refine (rnum_spec hb2 hw).use ?_
 clear hw
 rintro _ w ⟨rfl,hw⟩
 have hv3:=rdNum_val (most:=7) hb2 (by omega)
 have hb3:=rdNum_bd (most:=7) hb2
 have hn3:=rdNum_len (most:=7) (rd:=t.2)
 obtain ⟨k,hk⟩:∃ k,k=rdNum 7 t.2:=⟨_,rfl⟩
 rw [←hk] at hw hv3 hb3 hn3 ⊢
 refine ⟨_,rfl,new_rule hw fun b w hw=>?_⟩
 rw [wrap64 (x:=t.1) (by omega) (by omega),wrap64 (x:=k.1) (by omega) (by omega)]
 refine store_rule hw (by kernel_rfl) rfl (by simp [Value.cells,putL_len]) fun w hw=>?_
 have hw:Sat R (RdAt r k.2::pts b (.cells [.int .i64 i.1,.int .i64 t.1,.int .i64 k.1,.slice none 0 0].toArray 55 (0,0))::pts p (wCells d lim base s sg brk)::EntO s ds::Hs) w:=Sat.swap hw
 refine (rtext_spec (most:=4096) (by omega) (by omega) hb3 hw).use ?_
 clear hw
 rintro _ w ⟨sd,rfl,hw⟩
 obtain ⟨x,hx⟩:∃ x,x=rdText 4096 k.2:=⟨_,rfl⟩
 rw [←hx] at hw
 obtain ⟨R1,e1,hsd,hw⟩:=Own.leak hw
 have hd:=hd.ext e1
 refine ⟨sd,rfl,?_⟩
 refine store_rule hw (by kernel_rfl) rfl (by simp [Value.cells,putL_len]) fun w hw=>?_
 have hw:Sat R1 (pts b (.cells [.int .i64 i.1,.int .i64 t.1,.int .i64 k.1,.slice sd.a sd.len sd.cap].toArray 55 (0,0))::RdAt r x.2::pts p (wCells d lim base s sg brk)::EntO s ds::Hs) w:=hw
 have eA:addR ⟨base,erE ds⟩ rd=if rdWhole x.2=true∧i.1≤1099511627776∧i.1=base + (ds.length:Int) + 1 then some ⟨base,erE ds++[⟨i.1,t.1,k.1,x.1⟩]⟩ else none:=by
  subst hx hk ht hi
  unfold addR Lg.last
  simp only [List.length_map]
 rw [eA]
 have hsl:s.len=ds.length:=by
  have h2:Sat R1 (EntO s ds::pts b (.cells [.int .i64 i.1,.int .i64 t.1,.int .i64 k.1,.slice sd.a sd.len sd.cap].toArray 55 (0,0))::RdAt r x.2::pts p (wCells d lim base s sg brk)::Hs) w:=hw.arr
  have:=OwnN.len h2;simpa using this
 have out:∀ {w},¬ (rdWhole x.2=true∧i.1≤1099511627776∧i.1=base + (ds.length:Int) + 1)→Sat R1 (pts b (.cells [.int .i64 i.1,.int .i64 t.1,.int .i64 k.1,.slice sd.a sd.len sd.cap].toArray 55 (0,0))::RdAt r x.2::pts p (wCells d lim base s sg brk)::EntO s ds::Hs) w→
   ChgQ R Hs p d lim base sg brk (erE ds) (if rdWhole x.2=true∧i.1≤1099511627776∧i.1=base + (ds.length:Int) + 1 then some ⟨base,erE ds++[⟨i.1,t.1,k.1,x.1⟩]⟩ else none) (.bool false) w:=fun h hw=>
  .ext e1 (.no hd (if_neg h) hw.drop.drop)
 refine ⟨fun w=>(rdWhole x.2=true∧i.1≤1099511627776∧i.1=base + (ds.length:Int) + 1)∧Sat R1 (pts b (.cells [.int .i64 i.1,.int .i64 t.1,.int .i64 k.1,.slice sd.a sd.len sd.cap].toArray 55 (0,0))::RdAt r x.2::pts p (wCells d lim base s sg brk)::EntO s ds::Hs) w,?_,?_⟩
 ·refine drw_rule hw fun w hw=>?_
  refine (whole_spec hw.swap).use ?_
  clear hw
  rintro _ w ⟨rfl,hw⟩
  have hw:=hw.swap
  refine ⟨_,rfl,hw,Br.nb (fun h=>out (fun h2=>by rw [h] at h2;cases h2.1) hw) (fun h=>?_)⟩
  refine ⟨_,At.own selfS (by exact ⟨rfl,trivial⟩),Br.d (fun h2=>out (fun h3=>by omega) hw) (fun h2=>?_)⟩
  refine ⟨_,At.own selfS (by exact ⟨rfl,trivial⟩),?_⟩
  refine (last_spec (p:=p) h0 (by omega) (by omega) hw).use ?_
  clear hw
  rintro _ w ⟨rfl,hw⟩
  refine ⟨_,rfl,hw,?_⟩
  rw [wrap64 (by omega) (by omega),hsl]
  exact Br.ne (fun h3=>out (fun h4=>h3 h4.2.2) hw) (fun h3=>⟨⟨h,by omega,h3⟩,hw⟩)
 ·clear hw
  rintro _ w ⟨hc,hw⟩
  refine drw_rule' (Sat R1 [pts b (.cells [.int .i64 i.1,.int .i64 t.1,.int .i64 k.1,.slice sd.a sd.len sd.cap].toArray 55 (0,0)),pts p (wCells d lim base s sg brk),VC.tru]) hw (fun w hw=>hw.k2) fun w hw=>?_
  refine NilP.mk rfl ⟨s,At.own selfS (by exact ⟨rfl,trivial⟩),i.1,t.1,k.1,sd,At.own selfS (by exact ⟨rfl,rfl,rfl,rfl,trivial⟩),new_rule hw fun b2 w hw=>⟨hw.k2,?_⟩⟩
  have hw:Sat R1 (EntO s ds::pts b2 (.cells (eRow (sd,⟨i.1,t.1,k.1,x.1⟩)).toArray 55 (0,0))::pts b (.cells [.int .i64 i.1,.int .i64 t.1,.int .i64 k.1,.slice sd.a sd.len sd.cap].toArray 55 (0,0))::RdAt r x.2::pts p (wCells d lim base s sg brk)::Hs) w:=hw.arr
  refine pushN_in elE hw rfl rfl (by rw [List.length_map];omega) (by rw [List.length_map];omega) fun s2 w hw=>?_
  have hw:Sat R1 (pts p (wCells d lim base s sg brk)::pts b (.cells [.int .i64 i.1,.int .i64 t.1,.int .i64 k.1,.slice sd.a sd.len sd.cap].toArray 55 (0,0))::RdAt r x.2::OwnN 4 s2 55 (ds.map eRow++[eRow (sd,⟨i.1,t.1,k.1,x.1⟩)])::Hs) w:=hw.arr
  refine ⟨hw.k2,NilP.mk rfl ?_⟩
  refine store_rule hw (by kernel_rfl) rfl (by simp [Value.cells,putL_len]) fun w hw=>?_
  have hw:Sat R1 (pts p (wCells d lim base s2 sg brk)::pts b (.cells [.int .i64 i.1,.int .i64 t.1,.int .i64 k.1,.slice sd.a sd.len sd.cap].toArray 55 (0,0))::RdAt r x.2::OwnN 4 s2 55 (ds.map eRow++[eRow (sd,⟨i.1,t.1,k.1,x.1⟩)])::Hs) w:=hw
  refine .yes (base':=base) (ds':=ds++[(sd,⟨i.1,t.1,k.1,x.1⟩)]) (s:=s2) e1 (hd.app (.one hsd)) ?_ ?_
  ·rw [if_pos hc];simp [erE]
  ·unfold EntO;rw [List.map_append];exact hw.cons fun _ h=>h.drop.drop
end Go.Proofs.YtkfedbncmfnpnaaGreatDoor
/- A log on a disk, in memory: cuts, resets, any record; a segment's head. Condition: bounds on lengths. -/
namespace Go.Proofs.YtkfedbncmfnpnaaGreatDoor
set_option linter.unusedVariables false
set_option linter.unusedSimpArgs false
open Go Go.VC
variable {R R':Cx} {Hs Rest:List HP} {w:World}
theorem cutE_spec {p d r:Nat} {lim base:Int} {s sg:Sl} {brk:Bool} {ds:List DE4} {rd:Rd} (h0:0≤base) (h1:base≤1099511627776) (hl:ds.length≤100000000000) (hd:DsR R ds) (hb:∀ x∈rd.bs,0≤x∧x<256)
  (hw:Sat R (RdAt r rd::pts p (wCells d lim base s sg brk)::EntO s ds::Hs) w):
  Gets Tryz.prog 159 #[.pointer (some ⟨p,2,none⟩),.pointer (some ⟨r,0,none⟩)] w (ChgQ R Hs p d lim base sg brk (erE ds) (cutR ⟨base,erE ds⟩ rd)):=by
 apply call159
 refine (index_spec2 hb hw).use ?_
 clear hw
 rintro _ w ⟨rfl,hw⟩
 have hv1:=rdNum_val (most:=1099511627777) hb (by omega)
 obtain ⟨i,hi⟩:∃ i,i=rdNum 1099511627777 rd:=⟨_,rfl⟩
 rw [←hi] at hw hv1 ⊢
 have eA:cutR ⟨base,erE ds⟩ rd=if rdWhole i.2=true∧1≤i.1 then some (cutTo ⟨base,erE ds⟩ i.1) else none:=by
  subst hi
  rfl
 rw [eA]
 have hsl:s.len=ds.length:=by
  have h2:Sat R (EntO s ds::RdAt r i.2::pts p (wCells d lim base s sg brk)::Hs) w:=hw.arr
  have:=OwnN.len h2;simpa using this
 have hcap:s.len≤s.cap:=by
  have h2:Sat R (EntO s ds::RdAt r i.2::pts p (wCells d lim base s sg brk)::Hs) w:=hw.arr
  exact OwnN.cap (by omega) h2
 refine ⟨_,rfl,fun b w=>b=!(rdWhole i.2 && decide (1≤i.1))∧Sat R (pts p (wCells d lim base s sg brk)::EntO s ds::Hs) w,?_,?_⟩
 ·refine (whole_spec hw).use ?_
  clear hw
  rintro _ w ⟨rfl,hw⟩
  have hw:=hw.drop
  refine ⟨_,rfl,Br.nb (fun h=>⟨by rw [h];rfl,hw⟩) (fun h=>⟨?_,hw⟩)⟩
  rw [h,Bool.true_and,←decide_not]
  exact decide_eq_decide.2 (by omega)
 clear hw
 rintro _ _ w ⟨rfl,hw⟩
 refine Br.nb (fun h=>?_) (fun h=>?_)
 ·refine .no hd (if_neg (fun h2=>?_)) hw
  rw [h2.1,Bool.true_and,decide_eq_false_iff_not] at h
  exact h h2.2
 rw [Bool.and_eq_true,decide_eq_true_eq] at h
 rw [if_pos h]
 refine NilP.mk rfl ⟨base,(by rw [add_off];exact At.own (eqS hw) (by exact ⟨rfl,trivial⟩)),Br.d (fun hc=>?_) (fun hc=>?_)⟩
 ·refine NilP.mk rfl ?_
  rw [wrap64 (by omega) (by omega)]
  refine store_rule hw (by kernel_rfl) rfl (by simp [Value.cells,putL_len]) fun w hw=>?_
  have hw:Sat R (pts p (wCells d lim (i.1 - 1) ⟨none,0,0⟩ sg brk)::EntO s ds::Hs) w:=hw
  refine .yes (base':=i.1 - 1) (s:=⟨none,0,0⟩) (ds':=[]) .refl .nil ?_ (hw.cons fun _ h=>OwnN.nil h.drop)
  unfold cutTo;rw [if_pos hc];rfl
 ·refine (last_spec (p:=p) h0 (by omega) (by omega) hw).use ?_
  clear hw
  rintro _ w ⟨rfl,hw⟩
  refine ⟨_,rfl,Br.d (fun hc2=>?_) (fun hc2=>?_)⟩
  ·have w1:IntKind.i64.wrap (IntKind.i64.wrap (i.1 - 1) - base)=i.1 - 1 - base:=by rw [wrap64 (x:=i.1 - 1) (by omega) (by omega),wrap64 (by omega) (by omega)]
   have hn:(i.1 - 1 - base).toNat≤ds.length:=by omega
   refine drw_rule' (Sat R [pts p (wCells d lim base s sg brk),VC.tru]) hw (fun w hw=>hw.k1) fun w hw=>?_
   refine NilP.mk rfl ⟨s,At.own selfS (by exact ⟨rfl,trivial⟩),NilP.mk rfl ⟨base,(by rw [add_off];exact At.own selfS (by exact ⟨rfl,trivial⟩)),?_⟩⟩
   rw [w1]
   refine ⟨by omega,by omega,?_⟩
   obtain ⟨R1,hr,⟨x,hx⟩,hw,back⟩:=OwnN.lend hw.swap
   have hr2:=hr.take (h:=(i.1 - 1 - base).toNat) (by rw [List.length_map];exact hn) s.cap
   rw [←List.map_take] at hr2
   refine (clonE_spec hr2 (by rw [List.length_take];omega) hw).use ?_
   clear hw
   rintro _ w ⟨t,rfl,hw⟩
   have hw:=back hw
   have hw:Sat R (pts p (wCells d lim base s sg brk)::EntO t (ds.take (i.1 - 1 - base).toNat)::EntO s ds::Hs) w:=hw.arr
   refine ⟨t,rfl,hw.k1,NilP.mk rfl ?_⟩
   refine store_rule hw (by kernel_rfl) rfl (by simp [Value.cells,putL_len]) fun w hw=>?_
   have hw:Sat R (pts p (wCells d lim base t sg brk)::EntO t (ds.take (i.1 - 1 - base).toNat)::EntO s ds::Hs) w:=hw
   refine .yes (base':=base) (s:=t) (ds':=ds.take (i.1 - 1 - base).toNat) .refl (hd.take _) ?_ (hw.cons fun _ h=>h.cons fun _ h=>h.drop)
   unfold cutTo
   rw [if_neg hc,if_pos (by unfold Lg.last;simp only [List.length_map];omega)]
   simp [erE]
  ·refine .yes (base':=base) (s:=s) (ds':=ds) .refl hd ?_ hw
   unfold cutTo
   rw [if_neg hc,if_neg (by unfold Lg.last;simp only [List.length_map];omega)]
theorem resetE_spec {p d r:Nat} {lim base:Int} {s sg:Sl} {brk:Bool} {ds:List DE4} {rd:Rd} (hd:DsR R ds) (hb:∀ x∈rd.bs,0≤x∧x<256)
  (hw:Sat R (RdAt r rd::pts p (wCells d lim base s sg brk)::EntO s ds::Hs) w):
  Gets Tryz.prog 160 #[.pointer (some ⟨p,2,none⟩),.pointer (some ⟨r,0,none⟩)] w (ChgQ R Hs p d lim base sg brk (erE ds) (resetR ⟨base,erE ds⟩ rd)):=by
 apply call160
 refine (index_spec2 hb hw).use ?_
 clear hw
 rintro _ w ⟨rfl,hw⟩
 have hv1:=rdNum_val (most:=1099511627777) hb (by omega)
 obtain ⟨i,hi⟩:∃ i,i=rdNum 1099511627777 rd:=⟨_,rfl⟩
 rw [←hi] at hw hv1 ⊢
 have eA:resetR ⟨base,erE ds⟩ rd=if rdWhole i.2=true∧1≤i.1 then some ⟨i.1 - 1,[]⟩ else none:=by
  subst hi
  rfl
 rw [eA]
 refine ⟨_,rfl,(whole_spec hw).use ?_⟩
 clear hw
 rintro _ w ⟨rfl,hw⟩
 have hw:=hw.drop
 refine ⟨_,rfl,Br.nb (fun h=>.no hd (if_neg (fun h2=>by rw [h] at h2;cases h2.1)) hw) (fun h=>Br.d (fun h2=>.no hd (if_neg (fun h3=>by omega)) hw) (fun h2=>?_))⟩
 rw [if_pos ⟨h,by omega⟩,wrap64 (by omega) (by omega)]
 refine NilP.mk rfl ?_
 refine store_rule hw (by kernel_rfl) rfl (by simp [Value.cells,putL_len]) fun w hw=>?_
 have hw:Sat R (pts p (wCells d lim (i.1 - 1) ⟨none,0,0⟩ sg brk)::EntO s ds::Hs) w:=hw
 exact .yes (base':=i.1 - 1) (s:=⟨none,0,0⟩) (ds':=[]) .refl .nil rfl (hw.cons fun _ h=>OwnN.nil h.drop)
theorem changeE_spec {p d r:Nat} {lim base:Int} {s sg:Sl} {brk:Bool} {ds:List DE4} {rd:Rd} (h0:0≤base) (h1:base≤1099511627776) (hl:ds.length≤100000000000) (hd:DsR R ds) (hb:∀ x∈rd.bs,0≤x∧x<256) (hbl:rd.bs.length≤1099511627776)
  (hw:Sat R (RdAt r rd::pts p (wCells d lim base s sg brk)::EntO s ds::Hs) w):
  Gets Tryz.prog 110 #[.pointer (some ⟨p,2,none⟩),.pointer (some ⟨r,0,none⟩)] w (ChgQ R Hs p d lim base sg brk (erE ds) (changeR1 ⟨base,erE ds⟩ rd)):=by
 apply call110
 refine (rnum_spec hb hw).use ?_
 clear hw
 rintro _ w ⟨rfl,hw⟩
 have hb1:=rdNum_bd (most:=3) hb
 have hn1:=rdNum_len (most:=3) (rd:=rd)
 obtain ⟨k,hk⟩:∃ k,k=rdNum 3 rd:=⟨_,rfl⟩
 rw [←hk] at hw hb1 hn1 ⊢
 have eA:changeR1 ⟨base,erE ds⟩ rd=if k.1=1 then addR ⟨base,erE ds⟩ k.2 else if k.1=2 then cutR ⟨base,erE ds⟩ k.2 else if k.1=3 then resetR ⟨base,erE ds⟩ k.2 else none:=by
  subst hk;rfl
 rw [eA]
 have out:∀ {o:Option Lg} {v:Value} {w:World},ChgQ R Hs p d lim base sg brk (erE ds) o v w→∃ t:Bool,Ending.returned v=.returned (.bool t)∧ChgQ R Hs p d lim base sg brk (erE ds) o (.bool t) w:=fun h=>by
  have h':=h
  obtain ⟨_,_,_,_,_,_,rfl,_,_⟩:=h'
  exact ⟨_,rfl,h⟩
 refine ⟨_,rfl,Br.e (fun h=>?_) (fun h=>?_)⟩
 ·rw [if_pos h]
  exact (addE_spec h0 h1 hl hd hb1 (by omega) hw).use fun v w h=>out h
 rw [if_neg h]
 refine Br.e (fun h=>?_) (fun h=>?_)
 ·rw [if_pos h]
  exact (cutE_spec h0 h1 hl hd hb1 hw).use fun v w h=>out h
 rw [if_neg h]
 refine Br.e (fun h=>?_) (fun h=>?_)
 ·rw [if_pos h]
  exact (resetE_spec hd hb1 hw).use fun v w h=>out h
 rw [if_neg h]
 exact .no hd rfl hw.drop
theorem head_spec {s:Sl} {b:List Int} {n:Int} (hb:∀ x∈b,0≤x∧x<256) (hl:b.length≤1099511627776) (hs:Ro R s (b8 b)) (hw:Sat R Hs w):
  Gets Tryz.prog 109 #[.slice s.a s.len s.cap,.int .i64 n] w fun v w'=>v=.int .i64 (headL b n)∧Sat R Hs w':=by
 apply call109
 refine (fnew_spec hs hl hw).use ?_
 clear hw
 rintro _ w ⟨r,rfl,hw⟩
 refine ⟨_,rfl,(rnum_spec (rd:=⟨b,false⟩) hb hw).use ?_⟩
 clear hw
 rintro _ w ⟨rfl,hw⟩
 have hb1:=rdNum_bd (most:=0) (rd:=⟨b,false⟩) hb
 refine ⟨_,rfl,(rnum_spec hb1 hw).use ?_⟩
 clear hw
 rintro _ w ⟨rfl,hw⟩
 have hv2:=rdNum_val (most:=99999999) hb1 (by omega)
 have hb2:=rdNum_bd (most:=99999999) hb1
 refine ⟨_,rfl,(index_spec2 hb2 hw).use ?_⟩
 clear hw
 rintro _ w ⟨rfl,hw⟩
 refine ⟨_,rfl,(whole_spec hw).use ?_⟩
 clear hw
 rintro _ w ⟨rfl,hw⟩
 have hw:=hw.drop
 rw [wrap64 (by omega) (by omega)]
 unfold headL
 simp only
 refine ⟨_,rfl,Br.nb (fun h=>?_) (fun h=>Br.ne (fun h2=>?_) (fun h2=>?_))⟩
 ·rw [if_neg (fun h2=>by rw [h] at h2;cases h2.1)];exact ⟨rfl,hw⟩
 ·rw [if_neg (fun h3=>h2 h3.2)];exact ⟨rfl,hw⟩
 ·rw [if_pos ⟨h,h2⟩];exact ⟨rfl,hw⟩
end Go.Proofs.YtkfedbncmfnpnaaGreatDoor
/- Names of segments, read. No program. No condition. -/
namespace Go.VC
set_option linter.unusedVariables false
set_option linter.unusedSimpArgs false
open Go
def isDig (c:Int):Bool:=decide (48≤c) && decide (c≤57)
abbrev preW:List UInt8:=[119,97,108,45]
theorem pre_iff {k:ByteArray}:Lib.hasPrefix k.data.toList preW=true↔(bytesL k).take 4=[119,97,108,45]:=by
 unfold Lib.hasPrefix bytesL
 rw [List.isPrefixOf_iff_prefix]
 constructor
 ·rintro ⟨t,ht⟩
  rw [←ht];rfl
 ·intro h
  rw [←List.map_take] at h
  have:k.data.toList.take 4=preW:=by
   generalize k.data.toList.take 4=l at h
   have hinj:∀ (a b:List UInt8),a.map (fun c=>(c.toNat:Int))=b.map (fun c=>(c.toNat:Int))→a=b:=fun a=>by
    induction a with
    |nil=>intro b h;cases b with|nil=>rfl|cons=>cases h
    |cons x a ih=>
     intro b h
     cases b with
     |nil=>cases h
     |cons y b=>
      simp only [List.map_cons,List.cons.injEq] at h
      rw [ih b h.2]
      congr 1
      exact UInt8.toNat_inj.1 (by omega)
   exact hinj l preW h
  rw [←this]
  exact List.take_prefix ..
theorem numL_pre {k:ByteArray} (h:Lib.hasPrefix k.data.toList preW=false):numL (bytesL k)=0:=by
 unfold numL
 rw [if_neg]
 rintro ⟨h1,_⟩
 rw [←pre_iff] at h1
 rw [h1] at h;cases h
theorem bytesL_drop (k:ByteArray):bytesL ⟨(k.data.toList.drop 4).toArray⟩=(bytesL k).drop 4:=by
 unfold bytesL
 simp
theorem numL_len {k:ByteArray} (h:(k.data.toList.drop 4).length≠8):numL (bytesL k)=0:=by
 unfold numL
 rw [if_neg]
 rintro ⟨_,h2,_⟩
 rw [bytesL_len] at h2
 have hs:k.data.toList.length=k.size:=Array.length_toList
 rw [List.length_drop] at h
 omega
theorem numL_odd {k:ByteArray} (h:((bytesL k).drop 4).all isDig=false):numL (bytesL k)=0:=by
 unfold numL
 rw [if_neg]
 rintro ⟨_,_,h3⟩
 unfold isDig at h
 rw [h] at h3;cases h3
theorem dec_val:∀ (l:List UInt8) (acc:Nat),(l.map (fun c=>(c.toNat:Int))).all isDig=true→Lib.decFrom acc l=some ((l.map (fun c=>(c.toNat:Int))).foldl (fun n c=>n * 10 + (c - 48)) (acc:Int)).toNat∧0≤(l.map (fun c=>(c.toNat:Int))).foldl (fun n c=>n * 10 + (c - 48)) (acc:Int)
 |[],acc,_=>by simp [Lib.decFrom]
 |b::l,acc,h=>by
  simp only [List.map_cons,List.all_cons,Bool.and_eq_true] at h
  have hb:=h.1
  unfold isDig at hb
  simp only [Bool.and_eq_true,decide_eq_true_eq] at hb
  unfold Lib.decFrom
  have:Lib.digitVal b=some (b.toNat - 48):=by unfold Lib.digitVal;rw [if_pos (by omega)]
  rw [this]
  simp only [List.map_cons,List.foldl_cons]
  have:=dec_val l (acc * 10 + (b.toNat - 48)) h.2
  have e:((acc * 10 + (b.toNat - 48):Nat):Int)=(acc:Int) * 10 + ((b.toNat:Int) - 48):=by omega
  rw [e] at this
  exact this
theorem numL_atoi {k:ByteArray} (h:Lib.hasPrefix k.data.toList preW=true) (hl:(k.data.toList.drop 4).length=8) (hd:((bytesL k).drop 4).all isDig=true):Lib.atoi (k.data.toList.drop 4)=some (numL (bytesL k):Int):=by
 have e:(bytesL k).drop 4=(k.data.toList.drop 4).map (fun c=>(c.toNat:Int)):=by unfold bytesL;simp
 have hn:numL (bytesL k)=(val10 ((bytesL k).drop 4)).toNat:=by
  unfold numL
  rw [if_pos]
  refine ⟨pre_iff.1 h,?_,hd⟩
  rw [bytesL_len]
  have hs:k.data.toList.length=k.size:=Array.length_toList
  rw [List.length_drop] at hl
  omega
 rw [hn,e]
 rw [e] at hd
 generalize k.data.toList.drop 4=l at hl hd
 cases l with
 |nil=>cases hl
 |cons b l=>
  have hv:=dec_val (b::l) 0 hd
  have hb:48≤b.toNat:=by
   simp only [List.map_cons,List.all_cons,Bool.and_eq_true,isDig,decide_eq_true_eq] at hd
   omega
  have n1:(b==45)=false:=by
   rw [beq_eq_false_iff_ne];rintro rfl;revert hb;decide
  have n2:(b==43)=false:=by
   rw [beq_eq_false_iff_ne];rintro rfl;revert hb;decide
  unfold Lib.atoi
  simp only [n1,n2,Bool.false_eq_true,if_false]
  unfold Lib.decNat
  rw [if_neg (by simp),hv.1]
  simp only [Option.map_some]
  rfl
theorem numL_lt {l:List Int}:numL l<100000000:=by
 unfold numL
 split
 ·rename_i h
  obtain ⟨_,h2,h3⟩:=h
  have hl:(l.drop 4).length=8:=by simp;omega
  generalize l.drop 4=m at hl h3
  match m,hl with
  |[a,b,c,d,e,f,g,h],_=>
   simp only [List.all_cons,List.all_nil,Bool.and_true,Bool.and_eq_true,decide_eq_true_eq] at h3
   unfold val10
   simp only [List.foldl_cons,List.foldl_nil]
   omega
 ·omega
end Go.VC
/- Names of segments, read. Condition: bounds on lengths. -/
namespace Go.Proofs.YtkfedbncmfnpnaaGreatDoor
set_option linter.unusedVariables false
set_option linter.unusedSimpArgs false
open Go Go.VC
variable {R R':Cx} {Hs Rest:List HP} {w:World}
theorem odd_spec (c:Int) (hw:Sat R Hs w):Gets Tryz.prog 151 #[.int .i32 c] w fun v w'=>v=.bool (!isDig c)∧Sat R Hs w':=by
 apply call151
 unfold isDig
 refine Br.d (fun h=>⟨?_,hw⟩) (fun h=>⟨?_,hw⟩)
 ·simp;omega
 ·congr 1
  rw [Bool.eq_iff_iff]
  simp;omega
theorem indexF_spec {s:ByteArray} (hsz:s.size≤1099511627776) (hw:Sat R Hs w):Gets Tryz.prog 215 #[.string s,.func (.func 151) #[] #[],.bool true] w fun v w'=>(∃ n:Int,v=.int .i64 n∧(0≤n↔(bytesL s).all isDig=false))∧Sat R Hs w':=by
 apply call215
 refine new_rule hw fun b w hw=>⟨fun w=>∃ pos,pos≤s.size∧(∀ x∈(bytesL s).take pos,isDig x=true)∧Sat R (pts b (.stringIter s pos)::Hs) w,fun w=>strLeft b w,⟨0,by omega,by simp,hw⟩,?_⟩
 clear hw
 rintro _ w ⟨pos,hp,hd,hw⟩
 have hl:=bytesL_len s
 have hmu:=strLeft_eq hw
 refine nextS_rule hw (fun hlt w hw=>?_) (fun hn=>?_)
 ·have hg:=bytes_get hlt
  have odd:∀ {c:Int} {w:World},isDig ((bytesL s)[pos]'(by omega))=false→Sat R Hs w→(∃ n:Int,Value.int .i64 (pos:Int)=.int .i64 n∧(0≤n↔(bytesL s).all isDig=false))∧Sat R Hs w:=fun {c w} h hw=>by
   refine ⟨⟨_,rfl,?_⟩,hw⟩
   refine ⟨fun _=>?_,fun _=>by omega⟩
   rw [List.all_eq_false]
   exact ⟨_,List.getElem_mem _,by rw [h];simp⟩
  refine CalW.mk (by kernel_rfl) ((odd_spec _ hw).use ?_)
  clear hw
  rintro _ w ⟨rfl,hw⟩
  refine ⟨_,rfl,?_⟩
  by_cases h128:(s.get! pos).toNat<128
  ·rw [dec_lo h128] at hw ⊢
   simp only at hw ⊢
   rw [hg]
   cases hdg:isDig ((bytesL s)[pos]'(by omega)) with
   |false=>exact Br.t rfl (odd (c:=0) hdg hw.drop)
   |true=>
    refine Br.f rfl ⟨⟨pos + 1,by omega,fun x hx=>?_,hw⟩,?_⟩
    ·rw [List.take_add_one,List.getElem?_eq_getElem (by omega)] at hx
     rcases List.mem_append.1 hx with hx|hx
     ·exact hd x hx
     ·simp at hx;rw [hx];exact hdg
    ·rw [strLeft_eq hw,hmu];omega
  ·have h:=dec_hi h128
   have h2:isDig ((Utf8.decode s pos).1:Int)=false:=by unfold isDig;simp;omega
   rw [h2]
   refine Br.t rfl (odd (c:=0) ?_ hw.drop)
   rw [←hg]
   unfold isDig;simp;omega
 ·refine ⟨⟨_,rfl,?_⟩,hw.drop⟩
  have:pos=s.size:=by omega
  subst this
  rw [←hl,List.take_length] at hd
  have:=List.all_eq_true.2 hd
  rw [this]
  simp
theorem containsF_spec {s:ByteArray} (hsz:s.size≤1099511627776) (hw:Sat R Hs w):Gets Tryz.prog 152 #[.string s,.func (.func 151) #[] #[]] w fun v w'=>v=.bool (!(bytesL s).all isDig)∧Sat R Hs w':=by
 apply call152
 have h1:Gets Tryz.prog 185 #[.string s,.func (.func 151) #[] #[]] w fun v w'=>(∃ n:Int,v=.int .i64 n∧(0≤n↔(bytesL s).all isDig=false))∧Sat R Hs w':=by
  apply call185
  refine (indexF_spec hsz hw).use ?_
  rintro _ w ⟨⟨n,rfl,hn⟩,hw⟩
  exact ⟨n,rfl,⟨n,rfl,hn⟩,hw⟩
 refine h1.use ?_
 rintro _ w ⟨⟨n,rfl,hn⟩,hw⟩
 refine ⟨n,rfl,?_,hw⟩
 congr 1
 cases h:(bytesL s).all isDig with
 |true=>rw [h] at hn;simp at hn ⊢;omega
 |false=>rw [h] at hn;simp at hn ⊢;omega
abbrev encN (l:List Nat):List Value:=(l.map fun n:Nat=>(n:Int)).map (Value.int .i64)
theorem elI8:El Tryz.prog 41 41 3 8:=⟨Tryz.underlying41,⟨_,Tryz.underlying41⟩,by kernel_rfl⟩
theorem numsOf_take {l:List ByteArray} {k:Nat} (hk:k<l.length):numsOf (l.take (k + 1))=if 0<numL (bytesL l[k]) then numsOf (l.take k)++[numL (bytesL l[k])] else numsOf (l.take k):=by
 unfold numsOf
 rw [List.take_add_one,List.getElem?_eq_getElem hk,List.map_append,List.filter_append]
 simp only [Option.toList_some,List.map_cons,List.map_nil]
 split
 ·rename_i h;simp [h]
 ·rename_i h;simp [h]
theorem numsOf_le (l:List ByteArray):(numsOf l).length≤l.length:=by
 unfold numsOf
 refine Nat.le_trans (List.length_filter_le ..) ?_
 simp
theorem numbered_spec {s:Sl} {l:List ByteArray} (hs:Ro R s (l.map Value.string)) (hl:l.length≤1000000) (hk:∀ k∈l,k.size≤1000) (hw:Sat R Hs w):
  Gets Tryz.prog 107 #[.slice s.a s.len s.cap] w fun v w'=>∃ t:Sl,v=.slice t.a t.len t.cap∧Sat R (Own t 3 (encN (numsOf l))::Hs) w':=by
 have hsl:s.len=l.length:=by have:=hs.len;simpa using this
 apply call107
 refine ⟨fun o i w=>∃ k:Nat,i=k∧k≤l.length∧Sat R (Own o 3 (encN (numsOf (l.take k)))::Hs) w,fun _ i _=>l.length - i.toNat,⟨0,rfl,by omega,Own.nil hw⟩,?_⟩
 clear hw
 rintro _ o _ w ⟨k,rfl,hkl,hw⟩
 refine Br.d (fun h=>?_) (fun h=>?_)
 ·have hk':k<l.length:=by omega
  have hsz:=hk l[k] (List.getElem_mem _)
  refine hs.idxStr (eqS hw) hk' ?_
  have w1:IntKind.i64.wrap ((k:Int) + 1)=((k + 1:Nat):Int):=by rw [wrap64 (by omega) (by omega)];omega
  rw [w1]
  have eT:=numsOf_take hk'
  have skip:numL (bytesL l[k])=0→∀ {w},Sat R (Own o 3 (encN (numsOf (l.take k)))::Hs) w→
    (∃ j:Nat,((k + 1:Nat):Int)=j∧j≤l.length∧Sat R (Own o 3 (encN (numsOf (l.take j)))::Hs) w)∧l.length - ((k + 1:Nat):Int).toNat<l.length - ((k:Nat):Int).toNat:=fun h0 {w} hw=>by
   refine ⟨⟨k + 1,rfl,by omega,?_⟩,by omega⟩
   rw [eT,h0]
   exact hw
  refine Calls.mono (Tryz.strings_CutPrefix l[k] (ByteArray.mk #[119,97,108,45]) w) ?_
  rintro _ w' ⟨rfl,rfl⟩
  refine ⟨_,_,rfl,?_⟩
  obtain ⟨r,hr⟩:∃ r:ByteArray,r=⟨(l[k].data.toList.drop 4).toArray⟩:=⟨_,rfl⟩
  refine ⟨fun w=>(Lib.hasPrefix l[k].data.toList preW=true∧(l[k].data.toList.drop 4).length=8∧((bytesL l[k]).drop 4).all isDig=true)∧Sat R (Own o 3 (encN (numsOf (l.take k)))::Hs) w,?_,?_⟩
  ·refine Br.nb (fun h1=>skip (numL_pre h1) hw) (fun h1=>?_)
   have ht:Lib.trimPrefix l[k].data.toList (ByteArray.mk #[119,97,108,45]).data.toList=l[k].data.toList.drop 4:=by
    unfold Lib.trimPrefix
    rw [if_pos h1];rfl
   rw [ht,←hr]
   have hrs:r.size=(l[k].data.toList.drop 4).length:=by
    rw [hr]
    exact (Array.length_toList ..).symm
   have hrl:(l[k].data.toList.drop 4).length≤1000:=by
    have hs2:l[k].data.toList.length=l[k].size:=Array.length_toList
    rw [List.length_drop];omega
   refine Br.ne (fun h2=>skip (numL_len (by omega)) hw) (fun h2=>?_)
   refine (containsF_spec (s:=r) (by omega) hw).use ?_
   clear hw
   rintro _ w ⟨rfl,hw⟩
   have eb:bytesL r=(bytesL l[k]).drop 4:=by rw [hr];exact bytesL_drop _
   rw [eb]
   exact ⟨_,rfl,Br.nb (fun h3=>skip (numL_odd h3) hw) (fun h3=>⟨⟨h1,by omega,h3⟩,hw⟩)⟩
  ·clear hw
   rintro _ w ⟨⟨h1,h2,h3⟩,hw⟩
   have ht:Lib.trimPrefix l[k].data.toList (ByteArray.mk #[119,97,108,45]).data.toList=l[k].data.toList.drop 4:=by
    unfold Lib.trimPrefix
    rw [if_pos h1];rfl
   have hlt:=numL_lt (l:=bytesL l[k])
   have hat:Lib.atoi r.data.toList=some (numL (bytesL l[k]):Int):=by rw [hr];exact numL_atoi h1 h2 h3
   have hrs:r.size=8:=by
    rw [hr,←h2]
    exact (Array.length_toList ..).symm
   rw [ht,←hr]
   refine Calls.mono (Tryz.strconv_Atoi r _ (by omega) hat w) ?_
   rintro _ w' ⟨rfl,t,rfl⟩
   have hw:=hw.keeps (Keeps.of_below (Joins.below_bytesWorld _ w 5 t (Nat.le_refl _)))
   refine ⟨_,_,rfl,Br.d (fun h4=>?_) (fun h4=>skip (by omega) hw)⟩
   have hnl:=numsOf_le (l.take k)
   rw [List.length_take] at hnl
   refine pushI_rule elI8 (s:=o) hw (by rw [List.length_map];omega) fun s2 w hw=>?_
   refine ⟨⟨k + 1,rfl,by omega,?_⟩,by dsimp only;omega⟩
   rw [eT,if_pos (by omega)]
   have e:((numsOf (l.take k)).map fun n:Nat=>(n:Int))++[((numL (bytesL l[k]):Nat):Int)]=(numsOf (l.take k)++[numL (bytesL l[k])]).map fun n:Nat=>(n:Int):=by simp
   rw [e] at hw
   exact hw
 ·have:k=l.length:=by omega
  subst this
  rw [List.take_length] at hw
  exact ⟨o,rfl,hw⟩
end Go.Proofs.YtkfedbncmfnpnaaGreatDoor
/- Loading, step by step. No program. No condition. -/
namespace Go.VC
set_option linter.unusedVariables false
set_option linter.unusedSimpArgs false
variable {rd:Nat→List Int} {prev:Option Nat} {g g1 g2:Lg} {segs:List Sg} {n:Nat} {rest:List Nat} {d:Int}
abbrev nxt (rd:Nat→List Int) (prev:Option Nat) (n:Nat):Int:=nextOfSeg prev n (scan (rd n))
theorem loadL_amiss (h:nxt rd prev n=0∨(prev≠none∧nxt rd prev n≠g.last + 1)):loadL rd prev g segs (n::rest)=⟨g,segs,some ⟨n,nxt rd prev n,0⟩,rest⟩:=by
 conv=>lhs;unfold loadL
 simp only
 rw [if_pos h]
theorem loadL_fail (h:¬ (nxt rd prev n=0∨(prev≠none∧nxt rd prev n≠g.last + 1))) (hg:(if prev=none then (⟨nxt rd prev n - 1,g.l⟩:Lg) else g)=g1)
  (hr:runL g1 (headB n (nxt rd prev n)).length (scan (rd n)).tail=(g2,some d)):loadL rd prev g segs (n::rest)=⟨g2,segs++[⟨n,nxt rd prev n,(rd n).length⟩],some ⟨n,nxt rd prev n,d⟩,rest⟩:=by
 subst hg
 conv=>lhs;unfold loadL
 simp only
 rw [if_neg h,hr]
theorem loadL_more (h:¬ (nxt rd prev n=0∨(prev≠none∧nxt rd prev n≠g.last + 1))) (hg:(if prev=none then (⟨nxt rd prev n - 1,g.l⟩:Lg) else g)=g1)
  (hr:runL g1 (headB n (nxt rd prev n)).length (scan (rd n)).tail=(g2,none)) (he:scanLen (scan (rd n))=(rd n).length):loadL rd prev g segs (n::rest)=loadL rd (some n) g2 (segs++[⟨n,nxt rd prev n,(rd n).length⟩]) rest:=by
 subst hg
 conv=>lhs;unfold loadL
 simp only
 rw [if_neg h,hr]
 simp only
 rw [if_pos he]
theorem loadL_end (h:¬ (nxt rd prev n=0∨(prev≠none∧nxt rd prev n≠g.last + 1))) (hg:(if prev=none then (⟨nxt rd prev n - 1,g.l⟩:Lg) else g)=g1)
  (hr:runL g1 (headB n (nxt rd prev n)).length (scan (rd n)).tail=(g2,none)) (he:scanLen (scan (rd n))≠(rd n).length):loadL rd prev g segs (n::rest)=⟨g2,segs++[⟨n,nxt rd prev n,(rd n).length⟩],some ⟨n,nxt rd prev n,scanLen (scan (rd n))⟩,rest⟩:=by
 subst hg
 conv=>lhs;unfold loadL
 simp only
 rw [if_neg h,hr]
 simp only
 rw [if_neg he]
theorem nextOf_get {l:List (List Int)} (h:0<l.length) (hor:prev=none∨prev.map (· + 1)=some n):nextOfSeg prev n l=headL l[0] n:=by
 cases l with
 |nil=>simp at h
 |cons a l=>unfold nextOfSeg;simp only;rw [if_pos hor];rfl
theorem nxt_nn (hb:∀ x∈rd n,0≤x∧x<256) (hs:∀ b∈scan (rd n),∀ x∈b,0≤x∧x<256):0≤nxt rd prev n∧nxt rd prev n≤1099511627777:=by
 unfold nxt nextOfSeg
 split
 ·omega
 ·rename_i h t he
  split
  ·have hh:∀ x∈h,0≤x∧x<256:=hs h (by rw [he];exact List.mem_cons_self ..)
   have key:∀ (most:Int) (r:Rd),0≤most→(∀ x∈r.bs,0≤x∧x<256)→(0≤(rdNum most r).1∧(rdNum most r).1≤most)∧∀ x∈(rdNum most r).2.bs,0≤x∧x<256:=fun most r hm hb=>by
    unfold rdNum
    split
    ·exact ⟨⟨by simp,hm⟩,hb⟩
    ·split
     ·rename_i n neg k hp
      have:=parse_bd hb hp
      split
      ·rename_i hc;exact ⟨⟨this.1,hc.2⟩,fun x hx=>hb x (List.mem_of_mem_drop hx)⟩
      ·exact ⟨⟨by simp,hm⟩,hb⟩
     ·exact ⟨⟨by simp,hm⟩,hb⟩
   unfold headL
   simp only
   obtain ⟨_,h1⟩:=key 0 ⟨h,false⟩ (by omega) hh
   obtain ⟨_,h2⟩:=key 99999999 _ (by omega) h1
   obtain ⟨h3,_⟩:=key 1099511627777 _ (by omega) h2
   split<;>omega
  ·omega
theorem rd_bd (most:Int) (r:Rd) (hm:0≤most) (hb:∀ x∈r.bs,0≤x∧x<256):(0≤(rdNum most r).1∧(rdNum most r).1≤most)∧∀ x∈(rdNum most r).2.bs,0≤x∧x<256:=by
 unfold rdNum
 split
 ·exact ⟨⟨by simp,hm⟩,hb⟩
 ·split
  ·rename_i n neg k hp
   have:=parse_bd hb hp
   split
   ·rename_i hc;exact ⟨⟨this.1,hc.2⟩,fun x hx=>hb x (List.mem_of_mem_drop hx)⟩
   ·exact ⟨⟨by simp,hm⟩,hb⟩
  ·exact ⟨⟨by simp,hm⟩,hb⟩
theorem change_bd {g g':Lg} {b:List Int} (h:changeL g b=some g') (hb:0≤g.base∧g.base≤1099511627776) (hx:∀ x∈b,0≤x∧x<256):0≤g'.base∧g'.base≤1099511627776∧g'.l.length≤g.l.length + 1:=by
 have h0:=rd_bd 3 ⟨b,false⟩ (by omega) hx
 have h1:=rd_bd 1099511627777 _ (by omega) h0.2
 unfold changeL changeR1 at h
 simp only at h
 split at h
 ·unfold addR at h
  simp only at h
  split at h
  ·cases h;simp;exact hb
  ·cases h
 ·split at h
  ·unfold cutR at h
   simp only at h
   split at h
   ·cases h
    unfold cutTo
    split
    ·simp;omega
    ·split
     ·simp only [List.length_take];omega
     ·omega
   ·cases h
  ·split at h
   ·unfold resetR at h
    simp only at h
    split at h
    ·cases h;simp;omega
    ·cases h
   ·cases h
theorem loadL_mem {rd:Nat→List Int}:∀ {nums:List Nat} {prev:Option Nat} {g:Lg} {segs:List Sg},(∀ s,(loadL rd prev g segs nums).amiss=some s→s.num∈nums)∧∀ n∈(loadL rd prev g segs nums).behind,n∈nums:=fun {nums}=>by
 induction nums with
 |nil=>intro prev g segs;unfold loadL;exact ⟨fun _ h=>(by cases h),fun _ h=>(by cases h)⟩
 |cons n rest ih=>
  intro prev g segs
  by_cases h:nxt rd prev n=0∨(prev≠none∧nxt rd prev n≠g.last + 1)
  ·rw [loadL_amiss h]
   exact ⟨fun s hs=>(by cases hs;exact List.mem_cons_self ..),fun m hm=>List.mem_cons_of_mem _ hm⟩
  ·rcases hr:runL (if prev=none then (⟨nxt rd prev n - 1,g.l⟩:Lg) else g) (headB n (nxt rd prev n)).length (scan (rd n)).tail with ⟨g2,o⟩
   cases o with
   |some d=>
    rw [loadL_fail h rfl hr]
    exact ⟨fun s hs=>(by cases hs;exact List.mem_cons_self ..),fun m hm=>List.mem_cons_of_mem _ hm⟩
   |none=>
    by_cases he:scanLen (scan (rd n))=(rd n).length
    ·rw [loadL_more h rfl hr he]
     obtain ⟨h1,h2⟩:=ih (prev:=some n) (g:=g2) (segs:=segs++[⟨n,nxt rd prev n,((rd n).length:Int)⟩])
     exact ⟨fun s hs=>List.mem_cons_of_mem _ (h1 s hs),fun m hm=>List.mem_cons_of_mem _ (h2 m hm)⟩
    ·rw [loadL_end h rfl hr he]
     exact ⟨fun s hs=>(by cases hs;exact List.mem_cons_self ..),fun m hm=>List.mem_cons_of_mem _ hm⟩
theorem loadL_blen {rd:Nat→List Int}:∀ {nums:List Nat} {prev:Option Nat} {g:Lg} {segs:List Sg},(loadL rd prev g segs nums).behind.length≤nums.length:=fun {nums}=>by
 induction nums with
 |nil=>intro prev g segs;unfold loadL;exact Nat.le_refl _
 |cons n rest ih=>
  intro prev g segs
  by_cases h:nxt rd prev n=0∨(prev≠none∧nxt rd prev n≠g.last + 1)
  ·rw [loadL_amiss h];simp
  ·rcases hr:runL (if prev=none then (⟨nxt rd prev n - 1,g.l⟩:Lg) else g) (headB n (nxt rd prev n)).length (scan (rd n)).tail with ⟨g2,o⟩
   cases o with
   |some d=>rw [loadL_fail h rfl hr];simp
   |none=>
    by_cases he:scanLen (scan (rd n))=(rd n).length
    ·rw [loadL_more h rfl hr he]
     exact Nat.le_trans ih (by simp)
    ·rw [loadL_end h rfl hr he];simp
theorem head_out {h:List Int} {n:Nat} (hb:∀ x∈h,0≤x∧x<256) (hx:headL h n≠0):h=hdB n (headL h n):=by
 unfold headL at hx ⊢
 simp only at hx ⊢
 split at hx
 ·rename_i hc
  rw [if_pos hc]
  obtain ⟨_,b1⟩:=rd_bd 0 ⟨h,false⟩ (by omega) hb
  obtain ⟨_,b2⟩:=rd_bd 99999999 _ (by omega) b1
  obtain ⟨hw,hn⟩:=hc
  unfold rdWhole at hw
  simp only [Bool.and_eq_true,Bool.not_eq_true',decide_eq_true_eq] at hw
  obtain ⟨f1,g1⟩:=rdNum_out b2 hw.1
  obtain ⟨f2,g2⟩:=rdNum_out b1 f1
  obtain ⟨f3,g3⟩:=rdNum_out (r:=⟨h,false⟩) hb f2
  have z0:(rdNum 0 ⟨h,false⟩).1=0:=by obtain ⟨h1,_⟩:=rd_bd 0 ⟨h,false⟩ (by omega) hb;omega
  have e0:(rdNum 1099511627777 (rdNum 99999999 (rdNum 0 ⟨h,false⟩).2).2).2.bs=[]:=List.length_eq_zero_iff.1 hw.2
  rw [e0,List.append_nil] at g1
  rw [g1,hn,Int.toNat_natCast] at g2
  rw [g2,z0] at g3
  simpa [hdB] using g3
 ·exact absurd rfl hx
theorem scanLen_drop1 {l:List (List Int)} (h:0<l.length):scanLen l=8 + (l[0]).length + scanLen l.tail:=by
 cases l with
 |nil=>simp at h
 |cons a l=>exact scanLen_cons a l
theorem loadL_size {rd:Nat→List Int} (hb:∀ n,∀ b∈scan (rd n),∀ x∈b,0≤x∧x<256) (hl:∀ n,scanLen (scan (rd n))≤(rd n).length):∀ {nums:List Nat} {prev:Option Nat} {g:Lg} {segs:List Sg} (s:Sg),(loadL rd prev g segs nums).amiss=some s→0≤s.size∧s.size≤(rd s.num).length:=fun {nums}=>by
 induction nums with
 |nil=>intro prev g segs s h;unfold loadL at h;cases h
 |cons n rest ih=>
  intro prev g segs s hs
  by_cases h:nxt rd prev n=0∨(prev≠none∧nxt rd prev n≠g.last + 1)
  ·rw [loadL_amiss h] at hs;cases hs;simp
  ·rcases hr:runL (if prev=none then (⟨nxt rd prev n - 1,g.l⟩:Lg) else g) (headB n (nxt rd prev n)).length (scan (rd n)).tail with ⟨g2,o⟩
   cases o with
   |some d=>
    rw [loadL_fail h rfl hr] at hs
    cases hs
    obtain ⟨a,x,c,ht,_,rfl⟩:=runL_cut hr
    have hx0:nxt rd prev n≠0:=fun h0=>h (.inl h0)
    have hpos:0<(scan (rd n)).length:=by
     rcases Nat.eq_zero_or_pos (scan (rd n)).length with h0|h0
     ·exfalso;refine hx0 ?_;unfold nxt nextOfSeg;rw [List.length_eq_zero_iff.1 h0]
     ·exact h0
    have hh:(scan (rd n))[0]=hdB n (nxt rd prev n):=by
     have hor:prev=none∨prev.map (· + 1)=some n:=by
      apply Classical.byContradiction
      intro hno
      refine hx0 ?_
      unfold nxt nextOfSeg
      split
      ·rfl
      ·rw [if_neg hno]
     have e:nxt rd prev n=headL (scan (rd n))[0] n:=nextOf_get hpos hor
     rw [e]
     exact head_out (hb n _ (List.getElem_mem _)) (by rw [←e];exact hx0)
    have e1:=scanLen_drop1 hpos
    rw [hh,ht,scanLen_app2,scanLen_cons] at e1
    have h2:=hl n
    unfold headB
    rw [recB_len]
    simp only
    omega
   |none=>
    by_cases he:scanLen (scan (rd n))=(rd n).length
    ·rw [loadL_more h rfl hr he] at hs
     exact ih s hs
    ·rw [loadL_end h rfl hr he] at hs
     cases hs
     have:=hl n
     simp only;omega
end Go.VC
