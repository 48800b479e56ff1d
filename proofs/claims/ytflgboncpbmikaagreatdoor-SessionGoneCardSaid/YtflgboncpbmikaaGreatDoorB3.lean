/- Classes and limits: package nest, reference 14: what is left, selling, giving back. Condition: none. -/
import Derived.Test.YtflgboncpbmikaaGreatDoorB2
import GoSem.Core.Float
import Derived.KernelRfl
import Derived.Laws.Externs
import Derived.Lib.Overlaps
import Derived.Shelf.SlIterI.Nil
import Derived.Shelf.SlIterI.Collect
import Derived.Shelf.SlIterI.Sorted
import Derived.Shelf.SortM.Plain
import Derived.Shelf.SortM.SortNone
import Derived.Ground.GgzProg
import Derived.Ground.SlgmProg
import Derived.Test.YtflgboncpbmikaaGreatDoorProg
namespace Go.Proofs.YtflgboncpbmikaaGreatDoor
set_option linter.unusedVariables false
set_option linter.unusedSimpArgs false
open Go Go.VC
variable {R:Cx} {Hs Rest:List HP} {w:World}
def leastH (b:Nat) (x:Nat→Int) (j c:Nat):HP:=fun h=>∃ L,IsMn x j c L∧pts b (.cells [.int .i64 L].toArray 3 (0,0)) h
theorem leastH_out {b j c:Nat} {x:Nat→Int} (hw:Sat R (leastH b x j c::Hs) w):∃ L,IsMn x j c L∧Sat R (pts b (.cells [.int .i64 L].toArray 3 (0,0))::Hs) w:=
 let ⟨h,⟨L,hL,hp⟩,hd,hs⟩:=hw
 ⟨L,hL,h,hp,hd,hs⟩
theorem leastH_in {b j c:Nat} {x:Nat→Int} {L:Int} (hL:IsMn x j c L) (hw:Sat R (pts b (.cells [.int .i64 L].toArray 3 (0,0))::Hs) w):Sat R (leastH b x j c::Hs) w:=
 Sat.imp (fun _ h=>⟨L,hL,h⟩) hw
theorem left1_spec {bc bl:Nat} {c:Int} {x:Nat→Int} {j:Nat} (hw:Sat R (leastH bl x (j + 1) (c + 1).toNat::pts bc (.cells [.int .i64 c].toArray 3 (0,0))::Hs) w):
  Gets Tryz.prog 141 #[.int .i64 j,.int .i64 (x j),.pointer (some ⟨bc,0,none⟩),.pointer (some ⟨bl,0,none⟩)] w fun v w'=>v=.tuple #[]∧Sat R (leastH bl x j (c + 1).toNat::pts bc (.cells [.int .i64 c].toArray 3 (0,0))::Hs) w':=by
 obtain ⟨L,hL,hw⟩:=leastH_out hw
 apply call141
 refine NilP.mk rfl ⟨c,At.own (eqS hw) (by exact ⟨rfl,trivial⟩),Br.d (fun h=>?_) (fun h=>⟨rfl,leastH_in (hL.skip (by omega)) hw⟩)⟩
 refine NilP.mk rfl ⟨L,At.own (eqS hw) (by exact ⟨rfl,trivial⟩),?_⟩
 refine store_rule hw (by kernel_rfl) rfl (by simp [Value.cells]) fun w hw=>?_
 exact ⟨rfl,leastH_in (hL.step (by omega)) hw⟩
theorem left_spec {sl ss:Sl} {lim sold:List Int} {c:Int} (hl:RoI R sl lim) (hs:RoI R ss sold) (hw:Sat R Hs w):
  Gets Tryz.prog 104 #[.slice sl.a sl.len sl.cap,.slice ss.a ss.len ss.cap,.int .i64 c] w fun v w'=>v=.tuple #[.int .i64 (leftT lim sold c).1,.int .i64 (leftT lim sold c).2]∧Sat R Hs w':=by
 have hll:=hl.len
 have hlb:=hl.bound
 have no:¬ (nestOk lim sold=true∧0≤c∧c<lim.length)→leftT lim sold c=(0,1):=fun h=>by unfold leftT;rw [if_neg h]
 apply call104
 refine new_rule hw fun bc w hw=>?_
 refine new_rule hw fun bl w hw=>?_
 have hw:Sat R (pts bl (.cells [.int .i64 0].toArray 3 (0,0))::pts bc (.cells [.int .i64 c].toArray 3 (0,0))::Hs) w:=hw
 refine store_rule hw (by kernel_rfl) rfl (by simp [Value.cells]) fun w hw=>?_
 have hw:Sat R (pts bl (.cells [.int .i64 10000].toArray 3 (0,0))::pts bc (.cells [.int .i64 c].toArray 3 (0,0))::Hs) w:=hw
 by_cases hc:c<lim.length
 ·have h0:IsMn (roomF lim sold) lim.length (c + 1).toNat 10000:=⟨by omega,fun k h1 h2=>by omega,.inl rfl⟩
  refine (lefts_spec (A:=fun j=>leastH bl (roomF lim sold) j (c + 1).toNat::pts bc (.cells [.int .i64 c].toArray 3 (0,0))::Hs) hl hs (fun j w _ hw=>CalW.mk (by kernel_rfl) ((left1_spec hw).use fun v w' h=>⟨by rw [h.1],h.2⟩)) (leastH_in h0 hw)).use ?_
  rintro _ w ⟨rfl,j,hw,hj⟩
  refine ⟨_,rfl,Br.nb (fun h=>⟨?_,hw.drop.drop⟩) (fun h1=>?_)⟩
  ·rw [no (fun h2=>by rw [h] at h2;cases h2.1)]
  obtain rfl:=hj h1
  obtain ⟨L,hL,hw⟩:=leastH_out hw
  refine ⟨c,At.own (eqS hw) (by exact ⟨rfl,trivial⟩),Br.d (fun h=>⟨by rw [no (fun h2=>by omega)],hw.drop.drop⟩) (fun h2=>?_)⟩
  refine ⟨c,At.own (eqS hw) (by exact ⟨rfl,trivial⟩),Br.d (fun h=>⟨by rw [no (fun h2=>by omega)],hw.drop.drop⟩) (fun h3=>?_)⟩
  refine ⟨L,At.own (eqS hw) (by exact ⟨rfl,trivial⟩),?_,hw.drop.drop⟩
  have e:leftT lim sold c=(mnF (roomF lim sold) (c.toNat + 1),0):=by unfold leftT;rw [if_pos ⟨h1,by omega,hc⟩]
  rw [e,show c.toNat + 1=(c + 1).toNat by omega]
  rw [hL.eq (mnF_is _ _)]
 ·have h0:IsMn (fun _=>0) 0 0 10000:=⟨by omega,fun k h1 h2=>by omega,.inl rfl⟩
  refine (lefts_spec (A:=fun j=>exs (fun L=>pts bl (.cells [.int .i64 L].toArray 3 (0,0)))::pts bc (.cells [.int .i64 c].toArray 3 (0,0))::Hs) hl hs (fun j w _ hw=>CalW.mk (by kernel_rfl) ?_) (Sat.exs.2 ⟨10000,hw⟩)).use ?_
  ·obtain ⟨L,hw⟩:=Sat.exs.1 hw
   refine Gets.use (Q:=fun v w'=>v=.tuple #[]∧Sat R (exs (fun L=>pts bl (.cells [.int .i64 L].toArray 3 (0,0)))::pts bc (.cells [.int .i64 c].toArray 3 (0,0))::Hs) w') (call141 _ _ _ _ _ _ ?_) fun v w' h=>⟨by rw [h.1],h.2⟩
   refine NilP.mk rfl ⟨c,At.own (eqS hw) (by exact ⟨rfl,trivial⟩),Br.d (fun h=>?_) (fun h=>⟨rfl,Sat.exs.2 ⟨L,hw⟩⟩)⟩
   refine NilP.mk rfl ⟨L,At.own (eqS hw) (by exact ⟨rfl,trivial⟩),?_⟩
   refine store_rule hw (by kernel_rfl) rfl (by simp [Value.cells]) fun w hw=>?_
   exact ⟨rfl,Sat.exs.2 ⟨_,hw⟩⟩
  rintro _ w ⟨rfl,j,hw,hj⟩
  obtain ⟨L,hw⟩:=Sat.exs.1 hw
  have e:=no (fun h2=>by omega)
  refine ⟨_,rfl,Br.nb (fun h=>⟨by rw [e],hw.drop.drop⟩) (fun h1=>?_)⟩
  refine ⟨c,At.own (eqS hw) (by exact ⟨rfl,trivial⟩),Br.d (fun h=>⟨by rw [e],hw.drop.drop⟩) (fun h2=>?_)⟩
  refine ⟨c,At.own (eqS hw) (by exact ⟨rfl,trivial⟩),Br.d (fun h=>⟨by rw [e],hw.drop.drop⟩) (fun h3=>by omega)⟩
theorem cloneI_spec {s:Sl} {l:List Int} (hs:RoI R s l) (hl:l.length≤1000000000) (hw:Sat R Hs w):
  Gets Tryz.prog 102 #[.slice s.a s.len s.cap] w fun v w'=>∃ t:Sl,v=.slice t.a t.len t.cap∧Sat R (Own t 3 (l.map (Value.int .i64))::Hs) w':=by
 apply call102
 refine Br.mk (fun h=>?_) (fun h=>?_)
 ·have hnil:l=[]:=by
   by_cases hn:l=[]
   ·exact hn
   ·obtain ⟨b,off,l',T,fr,ha,_⟩:=hs.mem (by simpa using hn)
    rw [ha] at h;cases h
  subst hnil
  exact ⟨⟨none,0,0⟩,rfl,Own.nil hw⟩
 ·refine new_rule hw fun b w hw=>?_
  have hw:Sat R (Own ⟨some ⟨b,0,none⟩,0,0⟩ 3 (([]:List Int).map (Value.int .i64))::Hs) w:=own_lit hw
  refine appendRI elI8 (s:=⟨some ⟨b,0,none⟩,0,0⟩) (n:=1000000000) Tryz.underlying68 hw hs (by simpa using hl) (by omega) (by omega) fun t w hw=>?_
  exact ⟨t,rfl,hw⟩
theorem more_spec {s:Sl} {l:List Int} {c many:Int} (hs:RoI R s l) (hl:l.length≤1000) (hc:0≤c) (hc2:c<l.length) (hb:∀ x∈l,0≤x∧x≤10000) (hm: -10000≤many∧many≤10000) (hw:Sat R Hs w):
  Gets Tryz.prog 142 #[.slice s.a s.len s.cap,.int .i64 c,.int .i64 many] w fun v w'=>∃ t:Sl,v=.slice t.a t.len t.cap∧Sat R (Own t 3 ((l.set c.toNat (l.getD c.toNat 0 + many)).map (Value.int .i64))::Hs) w':=by
 obtain ⟨k,rfl⟩:=Int.eq_ofNat_of_zero_le hc
 have hk:k<l.length:=by omega
 have hx:=hb l[k] (List.getElem_mem _)
 apply call142
 refine (cloneI_spec hs (by omega) hw).use ?_
 rintro _ w ⟨t,rfl,hw⟩
 refine ⟨t,rfl,?_⟩
 refine Own.ix hw (eqS hw) k rfl hk ?_
 refine Own.store (by kernel_rfl) hw hk fun w hw=>?_
 rw [wrap64 (by omega) (by omega)] at hw
 rw [Int.toNat_natCast,getD_lt hk]
 exact ⟨t,rfl,hw⟩
theorem nest_sold {lim sold:List Int} (h:nestOk lim sold=true):(∀ x∈sold,0≤x∧x≤10000)∧sold.length=lim.length∧lim.length≤8:=by
 obtain ⟨h1,h2,h3⟩:=nestOk_iff.1 h
 obtain ⟨⟨_,h4⟩,_⟩:=limOk_iff.1 h1
 refine ⟨fun x hx=>?_,h2,h4⟩
 obtain ⟨k,hk,rfl⟩:=List.getElem_of_mem hx
 have:=(h3 k (by omega)).1
 rw [getD_lt hk] at this;exact this
theorem left_ok {lim sold:List Int} {c:Int} (h:(leftT lim sold c).2=0):nestOk lim sold=true∧0≤c∧c<lim.length:=by
 unfold leftT at h
 split at h
 ·assumption
 ·simp at h
theorem sell_spec {sl ss:Sl} {lim sold:List Int} {c many:Int} (hl:RoI R sl lim) (hs:RoI R ss sold) (hw:Sat R Hs w):
  Gets Tryz.prog 105 #[.slice sl.a sl.len sl.cap,.slice ss.a ss.len ss.cap,.int .i64 c,.int .i64 many] w fun v w'=>∃ t:Sl,v=.tuple #[.slice t.a t.len t.cap,.int .i64 (sellT lim sold c many).2]∧Sat R (Own t 3 ((sellT lim sold c many).1.map (Value.int .i64))::Hs) w':=by
 apply call105
 refine (left_spec hl hs hw).use ?_
 rintro _ w ⟨rfl,hw⟩
 have bad:((leftT lim sold c).2≠0∨many<1∨many>10000)→∃ t:Sl,Value.tuple #[.slice none 0 0,.int .i64 1]=.tuple #[.slice t.a t.len t.cap,.int .i64 (sellT lim sold c many).2]∧Sat R (Own t 3 ((sellT lim sold c many).1.map (Value.int .i64))::Hs) w:=fun h=>by
  unfold sellT;rw [if_pos h];exact ⟨⟨none,0,0⟩,rfl,Own.nil hw⟩
 refine ⟨_,_,rfl,Br.ne (fun h=>bad (.inl h)) (fun h1=>Br.d (fun h=>bad (.inr (.inl h))) (fun h2=>Br.d (fun h=>bad (.inr (.inr h))) (fun h3=>?_)))⟩
 have e:sellT lim sold c many=if many>(leftT lim sold c).1 then ([],3) else (sold.set c.toNat (sold.getD c.toNat 0 + many),0):=by
  unfold sellT;rw [if_neg (by omega)]
 rw [e]
 obtain ⟨n1,n2,n3⟩:=left_ok h1
 obtain ⟨n4,n5,n6⟩:=nest_sold n1
 refine Br.d (fun h=>?_) (fun h=>?_)
 ·rw [if_pos h];exact ⟨⟨none,0,0⟩,rfl,Own.nil hw⟩
 ·rw [if_neg h]
  refine (more_spec hs (by omega) n2 (by omega) n4 ⟨by omega,by omega⟩ hw).use ?_
  rintro _ w ⟨t,rfl,hw⟩
  exact ⟨t,rfl,t,rfl,hw⟩
theorem back_spec {sl ss:Sl} {lim sold:List Int} {c many:Int} (hl:RoI R sl lim) (hs:RoI R ss sold) (hw:Sat R Hs w):
  Gets Tryz.prog 114 #[.slice sl.a sl.len sl.cap,.slice ss.a ss.len ss.cap,.int .i64 c,.int .i64 many] w fun v w'=>∃ t:Sl,v=.tuple #[.slice t.a t.len t.cap,.int .i64 (backT lim sold c many).2]∧Sat R (Own t 3 ((backT lim sold c many).1.map (Value.int .i64))::Hs) w':=by
 have hsl:=hs.len
 apply call114
 refine (left_spec hl hs hw).use ?_
 rintro _ w ⟨rfl,hw⟩
 have bad:((leftT lim sold c).2≠0∨many<1∨many>sold.getD c.toNat 0)→∃ t:Sl,Value.tuple #[.slice none 0 0,.int .i64 1]=.tuple #[.slice t.a t.len t.cap,.int .i64 (backT lim sold c many).2]∧Sat R (Own t 3 ((backT lim sold c many).1.map (Value.int .i64))::Hs) w:=fun h=>by
  unfold backT;rw [if_pos h];exact ⟨⟨none,0,0⟩,rfl,Own.nil hw⟩
 refine ⟨_,_,rfl,Br.ne (fun h=>bad (.inl h)) (fun h1=>Br.d (fun h=>bad (.inr (.inl h))) (fun h2=>?_))⟩
 obtain ⟨n1,n2,n3⟩:=left_ok h1
 obtain ⟨n4,n5,n6⟩:=nest_sold n1
 have hx:=n4 (sold[c.toNat]'(by omega)) (List.getElem_mem _)
 refine Ro.ix hs (eqS hw) c.toNat (by omega) (by omega) ?_
 refine Br.d (fun h=>bad (.inr (.inr (by rw [getD_lt (by omega)];exact h)))) (fun h3=>?_)
 have e:backT lim sold c many=(sold.set c.toNat (sold.getD c.toNat 0 - many),0):=by
  unfold backT;rw [if_neg (by rw [getD_lt (by omega)];omega)]
 rw [e,show IntKind.i64.wrap (0 - many)=-many by rw [wrap64 (by omega) (by omega)];omega]
 refine (more_spec hs (by omega) n2 (by omega) n4 ⟨by omega,by omega⟩ hw).use ?_
 rintro _ w ⟨t,rfl,hw⟩
 rw [←Int.sub_eq_add_neg] at hw
 exact ⟨t,rfl,t,rfl,hw⟩
end Go.Proofs.YtflgboncpbmikaaGreatDoor

/- Floats, plain: a part of some seats, as a whole number of them. No program. No condition. -/
namespace Go.VC
set_option linter.unusedVariables false
set_option linter.unusedSimpArgs false
open Ieee
abbrev fw (n:Nat):Nat:=double.nearest false n 0
def fwOk (n:Nat):Bool:=match double.read (fw n) with
 | .number false m e=>decide (e≤0) && (m==n<<<(-e).toNat)
 |_=>false
set_option maxRecDepth 100000 in
theorem fw_all:(List.range 10002).all fwOk=true:=by kernel_rfl
theorem fw_read {n:Nat} (h:n≤10001):∃ d:Nat,double.read (fw n)=.number false (n * 2 ^ d) (-(d:Int)):=by
 have:=List.all_eq_true.1 fw_all n (List.mem_range.2 (by omega))
 unfold fwOk at this
 split at this
 ·rename_i m e he
  simp only [Bool.and_eq_true,decide_eq_true_eq,beq_iff_eq] at this
  refine ⟨(-e).toNat,?_⟩
  rw [he,this.2,Nat.shiftLeft_eq,show (-((-e).toNat:Int))=e by omega]
 ·cases this
theorem cut_le {n drop B:Nat} (h:n<B * 2 ^ drop):Toward.even.cut false n drop≤B:=by
 unfold Toward.cut
 simp only
 generalize hg:1<<<min drop (n.log2 + 2)=gap
 rw [Nat.shiftLeft_eq,Nat.one_mul] at hg
 have hb:∀ b:Bool,b.toNat≤1:=fun b=>by cases b<;>simp
 by_cases hd:drop≤n.log2 + 2
 ·rw [Nat.min_eq_left hd] at hg
  subst hg
  have h1:n / 2 ^ drop<B:=(Nat.div_lt_iff_lt_mul (Nat.two_pow_pos drop)).2 h
  have:=hb (decide (2 ^ drop<2 * (n % 2 ^ drop))||(2 ^ drop==2 * (n % 2 ^ drop) && n / 2 ^ drop % 2==1))
  omega
 ·rw [Nat.min_eq_right (by omega)] at hg
  have hn:n<2 ^ (n.log2 + 1):=Nat.lt_log2_self
  have hp:2 ^ (n.log2 + 2)=2 * 2 ^ (n.log2 + 1):=by rw [Nat.pow_succ];omega
  subst hg
  have h0:n / 2 ^ (n.log2 + 2)=0:=Nat.div_eq_of_lt (by omega)
  have h1:n % 2 ^ (n.log2 + 2)=n:=Nat.mod_eq_of_lt (by omega)
  rw [h0,h1]
  have e1:decide (2 ^ (n.log2 + 2)<2 * n)=false:=decide_eq_false (by omega)
  have e2:(2 ^ (n.log2 + 2)==2 * n)=false:=by
   rw [beq_eq_false_iff_ne];omega
  rw [e1,e2]
  simp
end Go.VC
/- Floats, plain, part 2. No program. No condition. -/
namespace Go.VC
set_option linter.unusedVariables false
set_option linter.unusedSimpArgs false
open Ieee
theorem dbl_least:double.leastPlace=-1074:=by decide
theorem dbl_binade:double.binade=4503599627370496:=by decide
theorem dbl_inf:double.infRung=2047 * 4503599627370496:=by decide
theorem dbl_sign:double.signWeight=9223372036854775808:=by decide
theorem dbl_frac:(double.fractionBits:Nat)=52:=rfl
theorem cut_down {n drop:Nat}:Toward.down.cut false n drop=n / 2 ^ drop:=by
 unfold Toward.cut
 simp only
 rw [Nat.shiftLeft_eq,Nat.one_mul]
 have e:(false && n % 2 ^ min drop (n.log2 + 2) !=0).toNat=0:=by simp
 rw [e,Nat.add_zero]
 by_cases hd:drop≤n.log2 + 2
 ·rw [Nat.min_eq_left hd]
 ·rw [Nat.min_eq_right (by omega)]
  have hn:n<2 ^ (n.log2 + 1):=Nat.lt_log2_self
  have h1:2 ^ (n.log2 + 1)≤2 ^ (n.log2 + 2):=Nat.pow_le_pow_right (by omega) (by omega)
  have h2:2 ^ (n.log2 + 2)≤2 ^ drop:=Nat.pow_le_pow_right (by omega) (by omega)
  rw [Nat.div_eq_of_lt (by omega),Nat.div_eq_of_lt (by omega)]
theorem cut_bd {n drop:Nat} (h:drop≤n.log2 + 2):n / 2 ^ drop≤Toward.even.cut false n drop∧Toward.even.cut false n drop≤n / 2 ^ drop + 1:=by
 unfold Toward.cut
 simp only
 rw [Nat.shiftLeft_eq,Nat.one_mul,Nat.min_eq_left h]
 have hb:∀ b:Bool,b.toNat≤1:=fun b=>by cases b<;>simp
 have:=hb (decide (2 ^ drop<2 * (n % 2 ^ drop))||(2 ^ drop==2 * (n % 2 ^ drop) && n / 2 ^ drop % 2==1))
 omega
theorem read_rung {i kept:Nat} (hi:i≤1074) (hk:kept≤9007199254740992) (hk2:0<i→4503599627370496≤kept):
  ∃ mp:Nat,∃ j:Nat,double.read (i * 4503599627370496 + kept)=.number false mp (-1074 + (j:Int))∧((mp=kept∧j=i)∨(mp=4503599627370496∧kept=9007199254740992∧j=i + 1)):=by
 have hr:i * 4503599627370496 + kept<9223372036854775808:=by omega
 unfold Format.read
 simp only
 rw [dbl_sign,dbl_binade,dbl_inf,dbl_least]
 rw [Nat.mod_eq_of_lt hr,Nat.div_eq_of_lt hr]
 have e0:(0 % 2==1)=false:=by decide
 rw [e0]
 by_cases h1:i * 4503599627370496 + kept<4503599627370496
 ·rw [if_pos h1]
  have:i=0:=by omega
  subst this
  exact ⟨_,0,rfl,.inl ⟨by omega,rfl⟩⟩
 rw [if_neg h1,if_pos (by omega)]
 by_cases h2:kept<9007199254740992
 ·have h3:4503599627370496≤kept:=by
   by_cases hi0:0<i
   ·exact hk2 hi0
   ·omega
  have d1:(i * 4503599627370496 + kept) / 4503599627370496=i + 1:=by omega
  have d2:(i * 4503599627370496 + kept) % 4503599627370496=kept - 4503599627370496:=by omega
  rw [d1,d2]
  refine ⟨_,i,?_,.inl ⟨rfl,rfl⟩⟩
  rw [show 4503599627370496 + (kept - 4503599627370496)=kept by omega,show i + 1 - 1=i by omega]
 ·have:kept=9007199254740992:=by omega
  subst this
  have d1:(i * 4503599627370496 + 9007199254740992) / 4503599627370496=i + 2:=by omega
  have d2:(i * 4503599627370496 + 9007199254740992) % 4503599627370496=0:=by omega
  rw [d1,d2]
  exact ⟨_,i + 1,rfl,.inr ⟨by omega,rfl,rfl⟩⟩
theorem plc1 {j L:Nat} (h:j=1074 - L) (h2:L≤1074): -1074 + (j:Int)=-(L:Int):=by omega
theorem plc2 {j L:Nat} (h:j=1074 - L + 1) (h2:L≤1074) (h1:39≤L): -1074 + (j:Int)=-((L - 1:Nat):Int):=by omega
theorem half_le {B L kept:Nat} (h1:kept≤B * 2 ^ L) (h2:kept=9007199254740992) (h3:39≤L):4503599627370496≤B * 2 ^ (L - 1):=by
 have h4:2 ^ L=2 * 2 ^ (L - 1):=by rw [←Nat.pow_succ'];congr 1;omega
 rw [h4,Nat.mul_left_comm] at h1
 clear h4
 generalize B * 2 ^ (L - 1)=y at *
 omega
theorem near_read {M d B:Nat} (hB:B≤10000) (hlt:M<B * 2 ^ d):
  ∃ mp dp:Nat,double.read (double.nearest false M (-(d:Int)))=.number false mp (-(dp:Int))∧mp≤B * 2 ^ dp:=by
 by_cases hM:M=0
 ·subst hM
  refine ⟨0,1074,?_,by omega⟩
  unfold Format.nearest
  rw [if_pos rfl]
  decide
 unfold Format.nearest
 rw [if_neg hM,dbl_least,dbl_binade,dbl_inf,dbl_frac]
 have hlog:2 ^ M.log2≤M:=Nat.log2_self_le hM
 have hlog2:M<2 ^ (M.log2 + 1):=Nat.lt_log2_self
 have hl14:M.log2<14 + d:=by
  have:2 ^ M.log2<2 ^ (14 + d):=by
   rw [Nat.pow_add]
   have:B * 2 ^ d≤2 ^ 14 * 2 ^ d:=Nat.mul_le_mul_right _ (by omega)
   omega
  exact (Nat.pow_lt_pow_iff_right (by omega)).1 this
 simp only
 generalize hlast:max (-(d:Int) + (M.log2:Int) - ((52:Nat):Int)) (-1074)=last
 obtain ⟨L,hL⟩:∃ L:Nat,last=-(L:Int):=⟨(-last).toNat,by omega⟩
 have hL1:39≤L:=by omega
 have hL2:L≤1074:=by omega
 subst hL
 have hi:(-(L:Int) - -1074).toNat=1074 - L:=by omega
 rw [hi]
 -- what is kept
 obtain ⟨kept,hkd,hk1,hk2,hk3⟩:∃ kept,Toward.even.cut false (M<<<(-(d:Int) - -(L:Int)).toNat) (-(L:Int) - -(d:Int)).toNat=kept∧kept≤B * 2 ^ L∧kept≤9007199254740992∧(0<1074 - L→4503599627370496≤kept):=by
  refine ⟨_,rfl,?_⟩
  by_cases hdl:d≤L
  ·have e1:(-(d:Int) - -(L:Int)).toNat=L - d:=by omega
   have e2:(-(L:Int) - -(d:Int)).toNat=0:=by omega
   rw [e1,e2,Nat.shiftLeft_eq]
   have hp:2 ^ L=2 ^ d * 2 ^ (L - d):=by rw [←Nat.pow_add];congr 1;omega
   have hlt':M * 2 ^ (L - d)<B * 2 ^ L:=by
    rw [hp,←Nat.mul_assoc]
    exact Nat.mul_lt_mul_of_pos_right hlt (Nat.two_pow_pos _)
   have c1:=cut_le (n:=M * 2 ^ (L - d)) (drop:=0) (B:=B * 2 ^ L) (by simpa using hlt')
   have c2:=cut_bd (n:=M * 2 ^ (L - d)) (drop:=0) (by omega)
   rw [Nat.pow_zero,Nat.div_one] at c2
   -- no rest, so it is the number itself
   have c3:Toward.even.cut false (M * 2 ^ (L - d)) 0=M * 2 ^ (L - d):=by
    unfold Toward.cut
    simp [Nat.mod_one]
   rw [c3] at c1 ⊢
   have hup:M * 2 ^ (L - d)<2 ^ (M.log2 + 1) * 2 ^ (L - d):=Nat.mul_lt_mul_of_pos_right hlog2 (Nat.two_pow_pos _)
   rw [←Nat.pow_add] at hup
   have hle:M.log2 + 1 + (L - d)≤53:=by omega
   have h53:2 ^ (M.log2 + 1 + (L - d))≤2 ^ 53:=Nat.pow_le_pow_right (by omega) hle
   refine ⟨c1,by omega,fun h=>?_⟩
   have hlo:2 ^ M.log2 * 2 ^ (L - d)≤M * 2 ^ (L - d):=Nat.mul_le_mul_right _ hlog
   rw [←Nat.pow_add] at hlo
   have he:M.log2 + (L - d)=52:=by omega
   rw [he] at hlo
   omega
  ·have e1:(-(d:Int) - -(L:Int)).toNat=0:=by omega
   have e2:(-(L:Int) - -(d:Int)).toNat=d - L:=by omega
   rw [e1,e2,Nat.shiftLeft_zero]
   have hp:2 ^ d=2 ^ L * 2 ^ (d - L):=by rw [←Nat.pow_add];congr 1;omega
   have c1:=cut_le (n:=M) (drop:=d - L) (B:=B * 2 ^ L) (by rw [Nat.mul_assoc,←hp];exact hlt)
   by_cases hdr:d - L≤M.log2 + 2
   ·have c2:=cut_bd hdr
    have hup:M / 2 ^ (d - L)<2 ^ 53:=by
     rw [Nat.div_lt_iff_lt_mul (Nat.two_pow_pos _),←Nat.pow_add]
     have:2 ^ (M.log2 + 1)≤2 ^ (53 + (d - L)):=Nat.pow_le_pow_right (by omega) (by omega)
     omega
    refine ⟨c1,by omega,fun h=>?_⟩
    have hlo:2 ^ 52≤M / 2 ^ (d - L):=by
     rw [Nat.le_div_iff_mul_le (Nat.two_pow_pos _),←Nat.pow_add]
     have:2 ^ (52 + (d - L))≤2 ^ M.log2:=Nat.pow_le_pow_right (by omega) (by omega)
     omega
    omega
   ·-- all of it is dropped
    have hL3:L=1074:=by omega
    have c0:Toward.even.cut false M (d - L)≤1:=cut_le (by
     have h1:2 ^ (M.log2 + 1)≤2 ^ (d - L):=Nat.pow_le_pow_right (by omega) (by omega)
     omega)
    exact ⟨c1,by omega,fun h=>by omega⟩
 rw [hkd]
 obtain ⟨mp,j,hr,hc⟩:=read_rung (i:=1074 - L) (by omega) hk2 hk3
 have hmin:min ((1074 - L) * 4503599627370496 + kept) (2047 * 4503599627370496)=(1074 - L) * 4503599627370496 + kept:=Nat.min_eq_left (by omega)
 have hword:double.word false (min ((1074 - L) * 4503599627370496 + kept) (2047 * 4503599627370496))=(1074 - L) * 4503599627370496 + kept:=by rw [hmin];unfold Format.word;rw [if_neg (by simp)]
 rw [hword,hr]
 rcases hc with ⟨hmk,hj⟩|⟨hmk,hkk,hj⟩
 ·exact ⟨mp,L,by rw [plc1 hj hL2],by rw [hmk];exact hk1⟩
 ·exact ⟨mp,L - 1,by rw [plc2 hj hL2 hL1],by rw [hmk];exact half_le hk1 hkk hL1⟩
end Go.VC
/- Floats, plain, part 3: the part of some seats. No program. No condition. -/
namespace Go.VC
set_option linter.unusedVariables false
set_option linter.unusedSimpArgs false
open Ieee
def NumW (p mp dp:Nat):Prop:=double.read p=.number false mp (-(dp:Int))
theorem fw_num {n:Nat} (h:n≤10001):∃ d,NumW (fw n) (n * 2 ^ d) d:=fw_read h
theorem zero_num:NumW 0 0 1074:=by unfold NumW;decide
theorem part_num {x:Nat} (h0:double.order x 0=some .gt) (h1:double.order x 4607182418800017408≠some .gt) (h2:double.order x 4607182418800017408≠some .eq):∃ m d,NumW x m d∧0<m∧m<2 ^ d:=by
 have e0:double.read 0=.number false 0 (-1074):=by decide
 have e1:double.read 4607182418800017408=.number false 4503599627370496 (-52):=by decide
 unfold Format.order at h0 h1 h2
 rw [e0] at h0
 rw [e1] at h1 h2
 generalize hx:double.read x=dx at h0 h1 h2
 cases dx with
 |nan s f=>simp [Datum.order] at h0
 |infinity s=>
  cases s
  ·exact absurd rfl h1
  ·simp [Datum.order] at h0
 |number s m e=>
  unfold Datum.order at h0 h1 h2
  simp only [ne_eq,Option.some.injEq] at h0 h1 h2
  have hg:=Int.compare_eq_gt.1 h0
  have hz:signed false 0 (-1074 - min e (-1074)).toNat=0:=by simp [signed]
  rw [hz] at hg
  cases s with
  |true=>
   exfalso
   unfold signed at hg
   rw [if_pos rfl] at hg
   generalize m<<<(e - min e (-1074)).toNat=y at hg
   omega
  |false=>
   have hm:0<m:=by
    rcases Nat.eq_zero_or_pos m with h|h
    ·subst h;simp [signed] at hg
    ·exact h
   have hlt:signed false m (e - min e (-52)).toNat<signed false 4503599627370496 (-52 - min e (-52)).toNat:=by
    rcases Int.lt_trichotomy (signed false m (e - min e (-52)).toNat) (signed false 4503599627370496 (-52 - min e (-52)).toNat) with h|h|h
    ·exact h
    ·exact absurd (Int.compare_eq_eq.2 h) h2
    ·exact absurd (Int.compare_eq_gt.2 h) h1
   unfold signed at hlt
   rw [if_neg (by simp),if_neg (by simp),Nat.shiftLeft_eq,Nat.shiftLeft_eq] at hlt
   have hlt:m * 2 ^ (e - min e (-52)).toNat<4503599627370496 * 2 ^ (-52 - min e (-52)).toNat:=Int.ofNat_lt.1 hlt
   have hneg:e<0:=by
    by_cases he:0≤e
    ·exfalso
     have a1:min e (-52)=-52:=by omega
     rw [a1,show (-52 - (-52):Int).toNat=0 from rfl,Nat.pow_zero,Nat.mul_one] at hlt
     have:2 ^ 52≤2 ^ (e - -52).toNat:=Nat.pow_le_pow_right (by omega) (by omega)
     have:1 * 2 ^ (e - -52).toNat≤m * 2 ^ (e - -52).toNat:=Nat.mul_le_mul_right _ hm
     omega
    ·omega
   refine ⟨m,(-e).toNat,?_,hm,?_⟩
   ·unfold NumW;rw [hx,show (-((-e).toNat:Int))=e by omega]
   ·by_cases h52: -52≤e
    ·have a1:min e (-52)=-52:=by omega
     rw [a1,show (-52 - (-52):Int).toNat=0 from rfl,Nat.pow_zero,Nat.mul_one] at hlt
     have a2:(2:Nat) ^ 52=2 ^ (-e).toNat * 2 ^ (e - -52).toNat:=by rw [←Nat.pow_add];congr 1;omega
     have a3:m * 2 ^ (e - -52).toNat<2 ^ (-e).toNat * 2 ^ (e - -52).toNat:=by rw [←a2];omega
     exact Nat.lt_of_mul_lt_mul_right a3
    ·have a1:min e (-52)=e:=by omega
     rw [a1,show (e - e).toNat=0 by omega,Nat.pow_zero,Nat.mul_one] at hlt
     have a2:2 ^ (-e).toNat=2 ^ 52 * 2 ^ (-52 - e).toNat:=by rw [←Nat.pow_add];congr 1;omega
     rw [a2];exact hlt
theorem part_mul {x m d s:Nat} (hx:NumW x m d) (hlt:m<2 ^ d) (hs:s≤10000):∃ p mp dp,double.mul x (fw s)=some p∧NumW p mp dp∧mp≤s * 2 ^ dp:=by
 obtain ⟨ds,hd⟩:=fw_num (n:=s) (by omega)
 have hmul:double.mul x (fw s)=some (double.nearest false (m * (s * 2 ^ ds)) (-((d + ds:Nat):Int))):=by
  unfold Format.mul
  rw [hx,hd]
  show some (double.write (.number (false ^^ false) (m * (s * 2 ^ ds)) (-(d:Int) + -(ds:Int))))=_
  rw [show (-(d:Int) + -(ds:Int))=-((d + ds:Nat):Int) by omega]
  rfl
 rcases Nat.eq_zero_or_pos s with h0|h0
 ·subst h0
  refine ⟨_,0,1074,hmul,?_,by omega⟩
  rw [Nat.zero_mul,Nat.mul_zero]
  unfold Format.nearest
  rw [if_pos rfl]
  exact zero_num
 ·have hb:m * (s * 2 ^ ds)<s * 2 ^ (d + ds):=by
   have a1:s * 2 ^ (d + ds)=2 ^ d * (s * 2 ^ ds):=by rw [Nat.pow_add,Nat.mul_left_comm]
   rw [a1]
   exact Nat.mul_lt_mul_of_pos_right hlt (Nat.mul_pos h0 (Nat.two_pow_pos _))
  obtain ⟨mp,dp,hr,hle⟩:=near_read hs hb
  exact ⟨_,mp,dp,hmul,hr,hle⟩
theorem floor_word {p mp dp:Nat} (hp:NumW p mp dp):double.write ((double.read p).integral .down)=fw (mp / 2 ^ dp):=by
 rw [hp]
 unfold Datum.integral
 simp only
 rw [show (-(dp:Int)).toNat=0 by omega,Nat.shiftLeft_zero,show (- -(dp:Int)).toNat=dp by omega,cut_down]
 rfl
theorem fw_int {n:Nat} (h:n≤10001):(double.read (fw n)).toInt .zero=some (n:Int):=by
 obtain ⟨d,hd⟩:=fw_num h
 unfold Datum.toInt
 rw [hd]
 unfold Datum.integral
 simp only
 rw [show (-(d:Int)).toNat=0 by omega,Nat.shiftLeft_zero,show (- -(d:Int)).toNat=d by omega]
 have:Toward.zero.cut false (n * 2 ^ d) d=n:=by
  have:Toward.zero.cut false (n * 2 ^ d) d=Toward.down.cut false (n * 2 ^ d) d:=by
   unfold Toward.cut;simp
  rw [this,cut_down,Nat.mul_div_cancel _ (Nat.two_pow_pos d)]
 rw [this]
 simp [signed]
end Go.VC
/- A part of some seats: package fare and reference 03. Condition: none. -/
namespace Go.Proofs.YtflgboncpbmikaaGreatDoor
set_option linter.unusedVariables false
set_option linter.unusedSimpArgs false
open Go Go.VC Ieee
variable {R:Cx} {Hs Rest:List HP} {w:World}
def floF (x s:Nat):Nat:=match double.mul x (fw s) with
 |some p=>(match double.read p with| .number _ m e=>m / 2 ^ (-e).toNat|_=>0)
 |none=>0
def isGt (x:Nat):Bool:=double.order x 0==some .gt
def isGe1 (x:Nat):Bool:=double.order x 4607182418800017408==some .gt||double.order x 4607182418800017408==some .eq
def levelT (x:Nat) (s:Int):Int × Int:=
 if s<0∨s>10000 then (0,1) else if isGt x=false then (0,0) else if isGe1 x=true then (s,0) else ((floF x s.toNat:Nat),0)
theorem flo_out {x s:Nat} (h0:isGt x=true) (h1:isGe1 x=false) (hs:s≤10000):∃ p mp dp,double.mul x (fw s)=some p∧NumW p mp dp∧mp≤s * 2 ^ dp∧floF x s=mp / 2 ^ dp∧floF x s≤s:=by
 unfold isGt at h0
 unfold isGe1 at h1
 simp only [Bool.or_eq_false_iff,beq_eq_false_iff_ne,ne_eq] at h1
 obtain ⟨m,d,hx,_,hlt⟩:=part_num (beq_iff_eq.1 h0) h1.1 h1.2
 obtain ⟨p,mp,dp,hp,hn,hle⟩:=part_mul hx hlt hs
 have e:floF x s=mp / 2 ^ dp:=by
  unfold floF
  rw [hp]
  unfold NumW at hn
  simp only [hn]
  rw [show (-(-(dp:Int))).toNat=dp by omega]
 refine ⟨p,mp,dp,hp,hn,hle,e,?_⟩
 rw [e]
 exact Nat.div_le_of_le_mul (by rw [Nat.mul_comm];exact hle)
theorem cmp_gt (t1 t2:Operand) (T:TypeId) (x y:Nat) (w:World):((do eqGuard BinOp.gtr T t1 t2 (.float .f64 x) (.float .f64 y);binOp BinOp.gtr T (.float .f64 x) (.float .f64 y):Sem Value)).run Tryz.prog w=.ok (.bool (double.order x y==some .gt)) w:=by
 simp [eqGuard,binOp,Op.floatCmp,FloatKind.format]
theorem cmp_ge (t1 t2:Operand) (T:TypeId) (x y:Nat) (w:World):((do eqGuard BinOp.geq T t1 t2 (.float .f64 x) (.float .f64 y);binOp BinOp.geq T (.float .f64 x) (.float .f64 y):Sem Value)).run Tryz.prog w=.ok (.bool (double.order x y==some .gt||double.order x y==some .eq)) w:=by
 simp [eqGuard,binOp,Op.floatCmp,FloatKind.format]
theorem cmp_ne (t1 t2:Operand) (T:TypeId) (x y:Nat) (w:World):((do eqGuard BinOp.neq T t1 t2 (.float .f64 x) (.float .f64 y);binOp BinOp.neq T (.float .f64 x) (.float .f64 y):Sem Value)).run Tryz.prog w=.ok (.bool (double.order x y !=some .eq)) w:=by
 simp [eqGuard,binOp,Op.floatCmp,FloatKind.format]
theorem mul_run (t1 t2:Operand) (T:TypeId) {x y p:Nat} (h:double.mul x y=some p) (w:World):((do eqGuard BinOp.mul T t1 t2 (.float .f64 x) (.float .f64 y);binOp BinOp.mul T (.float .f64 x) (.float .f64 y):Sem Value)).run Tryz.prog w=.ok (.float .f64 p) w:=by
 simp [eqGuard,binOp,Op.floatArith,FloatKind.format,h]
theorem toF_run (n:Nat) (w:World):(convert 3 91 (.int .i64 n)).run Tryz.prog w=.ok (.float .f64 (fw n)) w:=by
 have h:FloatKind.f64.nearest (n:Int)=fw n:=by
  unfold FloatKind.nearest FloatKind.encode FloatKind.format
  rw [decide_eq_false (show ¬ (n:Int)<0 by omega),Int.natAbs_natCast]
  rfl
 simp [convert,run_underlying Tryz.underlying3,run_underlying Tryz.underlying91,Conv.intToFloat,h]
theorem toI_run {n:Nat} (hn:n≤10001) (w:World):(convert 91 3 (.float .f64 (fw n))).run Tryz.prog w=.ok (.int .i64 n) w:=by
 have h:(FloatKind.f64.decode (fw n)).toInt .zero=some (n:Int):=fw_int hn
 have hr:IntKind.i64.min≤(n:Int)∧(n:Int)≤IntKind.i64.max:=by
  have h1:IntKind.i64.min=-9223372036854775808:=by decide
  have h2:IntKind.i64.max=9223372036854775807:=by decide
  omega
 simp [convert,run_underlying Tryz.underlying3,run_underlying Tryz.underlying91,Conv.floatToInt,h,hr]
 intro h2;omega
theorem fl_name : (Tryz.f177.name == "runtime.NumGoroutine") = false := by kernel_rfl
theorem fl_body:Tryz.f177.body.isNone=true:=by kernel_rfl
theorem fl_next:Extern.findNext Tryz.f177=none:=by kernel_rfl
theorem fl_find : Extern.find Tryz.f177 = some (Extern.MathFloor.toIntegral "math.archFloor" .down) := by kernel_rfl
theorem floor_val {p m : Nat} {e : Int} (hd : FloatKind.f64.decode p = .number false m e) : Extern.MathFloor.toIntegral "math.archFloor" .down #[.float .f64 p] = pure (.float .f64 (FloatKind.f64.encode ((Datum.number false m e).integral .down))) := by
 unfold Extern.MathFloor.toIntegral
 generalize FloatKind.decode FloatKind.f64=D at hd ⊢
 conv=>lhs;whnf
 rw [hd]
theorem floor_spec {p mp dp:Nat} (hp:NumW p mp dp) (hw:Sat R Hs w):Gets Tryz.prog 167 #[.float .f64 p] w fun v w'=>v=.float .f64 (fw (mp / 2 ^ dp))∧Sat R Hs w':=by
 apply call167
 refine ⟨.float .f64 (fw (mp / 2 ^ dp)),w,?_,_,rfl,rfl,hw⟩
 rw [run_callFunc_extern Tryz.func177 fl_name fl_body fl_next fl_find]
 have hd:FloatKind.f64.decode p=.number false mp (-(dp:Int)):=hp
 have hf:FloatKind.f64.encode ((Datum.number false mp (-(dp:Int))).integral .down)=fw (mp / 2 ^ dp):=by
  have:=floor_word hp
  rw [show double.read p=.number false mp (-(dp:Int)) from hp] at this
  exact this
 rw [floor_val hd,hf]
 rfl
theorem level_spec {x:Nat} {s:Int} (hw:Sat R Hs w):Gets Tryz.prog 137 #[.float .f64 x,.int .i64 s] w fun v w'=>v=.tuple #[.int .i64 (levelT x s).1,.int .i64 (levelT x s).2]∧Sat R Hs w':=by
 apply call137
 refine ⟨fun t w=>t=decide (s<0∨s>10000)∧Sat R Hs w,Br.d (fun h=>⟨by rw [decide_eq_true (.inl h)],hw⟩) (fun h=>⟨by rw [decide_eq_decide];omega,hw⟩),?_⟩
 clear hw
 rintro _ _ w ⟨rfl,hw⟩
 unfold levelT
 refine Br.d (fun h=>⟨by rw [if_pos h],hw⟩) (fun h=>?_)
 rw [if_neg h]
 refine ⟨isGt x,fun w' e=>cmp_gt _ _ _ _ _ _,Br.nb (fun h1=>⟨by rw [if_pos h1],hw⟩) (fun h1=>?_)⟩
 rw [if_neg (by rw [h1];simp)]
 refine ⟨isGe1 x,fun w' e=>cmp_ge _ _ _ _ _ _,Br.mk (fun h2=>⟨by rw [if_pos h2],hw⟩) (fun h2=>?_)⟩
 rw [if_neg (by rw [h2];simp)]
 obtain ⟨n,rfl⟩:=Int.eq_ofNat_of_zero_le (show 0≤s by omega)
 obtain ⟨p,mp,dp,hp,hn,hle,e,he⟩:=flo_out (s:=n) h1 h2 (by omega)
 refine ⟨w,_,toF_run n w,_,fun w' _=>mul_run _ _ _ hp w',?_⟩
 refine (floor_spec hn hw).use ?_
 rintro _ w ⟨rfl,hw⟩
 rw [←e]
 refine ⟨_,rfl,_,fun w' _=>toI_run (by omega) w',?_,hw⟩
 rw [Int.toNat_natCast]
end Go.Proofs.YtflgboncpbmikaaGreatDoor
/- The limits that parts give: package nest, reference 14. Condition: none. -/
namespace Go.Proofs.YtflgboncpbmikaaGreatDoor
set_option linter.unusedVariables false
set_option linter.unusedSimpArgs false
open Go Go.VC
variable {R:Cx} {Hs Rest:List HP} {w:World}
theorem _root_.Go.VC.Ro.ixF {xs:List Nat} {s:Sl} {S:World→Prop} {i:Int} (hr:Ro R s (xs.map (Value.float .f64))) (hS:∀ w,S w→Sat R Hs w) (j:Nat) (hi:i=j) (hj:j<xs.length) {F:Nat→Prop} (h:F xs[j]):
  Rng i s.len (NilP s.a fun a=>∃ t:Nat,(At S (a.add i.toNat) [.float .f64 t])∧F t):=by
 subst hi
 obtain ⟨a,ha,hat⟩:=hr.addr (k:=j) (by rw [List.length_map];exact hj)
 have hl:=hr.len
 rw [List.length_map] at hl
 exact Rng.mk (by omega) (by omega) (NilP.mk ha ⟨_,by have:=hat hS;rw [List.getElem_map] at this;exact this,h⟩)
def limGo (s:Int):Int→List Nat→List Int
 |_,[]=>[]
 |last,x::xs=>(if last<(levelT x s).1 then last else (levelT x s).1)::limGo s (if last<(levelT x s).1 then last else (levelT x s).1) xs
def limitsT (s:Int) (parts:List Nat):List Int × Int:=if s<0∨s>10000∨parts.length<1∨parts.length>8 then ([],1) else (s::limGo s s parts.tail,0)
theorem limGo_len (s:Int):∀ (xs:List Nat) (last:Int),(limGo s last xs).length=xs.length
 |[],_=>rfl
 |x::xs,last=>by simp [limGo,limGo_len s xs]
theorem limGo_snoc (s:Int):∀ (xs:List Nat) (last:Int) (x:Nat),limGo s last (xs++[x])=limGo s last xs++
  [if (last::limGo s last xs).getD xs.length 0<(levelT x s).1 then (last::limGo s last xs).getD xs.length 0 else (levelT x s).1]
 |[],last,x=>by simp [limGo]
 |y::xs,last,x=>by
  simp only [List.cons_append,limGo,limGo_snoc s xs,List.length_cons,List.getD_cons_succ]
abbrev flts (l:List Nat):List Value:=l.map (Value.float .f64)
abbrev intsI (l:List Int):List Value:=l.map (Value.int .i64)
theorem limits_spec {s:Int} {sp:Sl} {parts:List Nat} (hp:SlR R.m sp (flts parts)) (hw:Sat R Hs w):
  Gets Tryz.prog 99 #[.int .i64 s,.slice sp.a sp.len sp.cap] w fun v w'=>∃ t:Sl,v=.tuple #[.slice t.a t.len t.cap,.int .i64 (limitsT s parts).2]∧Sat R (Own t 3 (intsI (limitsT s parts).1)::Hs) w':=by
 have hlen:=hp.len
 rw [List.length_map] at hlen
 have bad:(s<0∨s>10000∨parts.length<1∨parts.length>8)→∀ w,Sat R Hs w→∃ t:Sl,Value.tuple #[.slice none 0 0,.int .i64 1]=.tuple #[.slice t.a t.len t.cap,.int .i64 (limitsT s parts).2]∧Sat R (Own t 3 (intsI (limitsT s parts).1)::Hs) w:=fun h w hw=>by
  unfold limitsT;rw [if_pos h];exact ⟨⟨none,0,0⟩,rfl,Own.nil hw⟩
 apply call99
 refine ⟨fun w=>(0≤s∧s≤10000∧1≤parts.length∧parts.length≤8)∧Sat R Hs w,?_,?_⟩
 ·refine (within_spec hw).use ?_
  rintro _ w ⟨rfl,hw⟩
  unfold inR
  refine ⟨_,rfl,Br.nd (fun h=>bad (by omega) _ hw) (fun h1=>Br.d (fun h=>bad (by omega) _ hw) (fun h2=>Br.d (fun h=>bad (by omega) _ hw) (fun h3=>⟨⟨by omega,by omega,by omega,by omega⟩,hw⟩)))⟩
 clear hw
 rintro _ w ⟨⟨h1,h2,h3,h4⟩,hw⟩
 have e:limitsT s parts=(s::limGo s s parts.tail,0):=by unfold limitsT;rw [if_neg (by omega)]
 rw [e]
 clear bad
 refine new_rule hw fun b w hw=>⟨by omega,by omega,?_⟩
 have hw:Sat R (Own ⟨some ⟨b,0,none⟩,1,1⟩ 3 (intsI [s])::Hs) w:=own_lit hw
 have hd:=(hp.drop (k:=1) (by rw [List.length_map];omega)).ro (by rw [List.length_drop,List.length_map];omega)
 have hdl:(flts parts).drop 1=flts parts.tail:=by simp [flts,List.drop_one,List.map_tail]
 rw [hdl] at hd
 have htl:parts.tail.length=parts.length - 1:=List.length_tail
 have hslen:(sp.len - Int.toNat 1:Nat)=parts.tail.length:=by rw [htl];show sp.len - 1=_;omega
 refine ⟨fun so i w=>∃ j:Nat,i=j∧j≤parts.tail.length∧Sat R (Own so 3 (intsI (s::limGo s s (parts.tail.take j)))::Hs) w,fun _ i _=>parts.tail.length - i.toNat,⟨0,rfl,by omega,hw⟩,?_⟩
 clear hw
 rintro _ so _ w ⟨j,rfl,hj,hw⟩
 refine Br.d (fun h=>?_) (fun h=>?_)
 ·have hj2:j<parts.tail.length:=by omega
  refine Ro.ixF hd (eqS hw) j rfl hj2 ?_
  refine (level_spec hw).use ?_
  rintro _ w ⟨rfl,hw⟩
  refine ⟨_,_,rfl,?_⟩
  have hl:(s::limGo s s (parts.tail.take j)).length=j + 1:=by rw [List.length_cons,limGo_len,List.length_take];omega
  refine Own.ix hw (eqS hw) j rfl (by omega) ?_
  refine pushI_rule elI8 hw (by omega) fun so' w hw=>?_
  rw [wrap64 (by omega) (by omega)]
  refine ⟨⟨j + 1,by omega,by omega,?_⟩,by dsimp only;omega⟩
  rw [List.take_add_one,List.getElem?_eq_getElem hj2]
  simp only [Option.toList_some]
  rw [limGo_snoc,List.length_take,show min j parts.tail.length=j by omega,getD_lt (by omega)]
  exact hw
 ·rw [List.take_of_length_le (by omega)] at hw
  exact ⟨so,rfl,hw⟩
theorem limGo_ok (s:Int) (h0:0≤s) (h1:s≤10000):∀ (xs:List Nat) (last:Int),0≤last→last≤10000→∀ k (h:k<(limGo s last xs).length),(0≤(limGo s last xs)[k]∧(limGo s last xs)[k]≤10000)∧(limGo s last xs)[k]≤(last::limGo s last xs).getD k 0
 |[],last,_,_,k,h=>by simp [limGo] at h
 |x::xs,last,a,b,k,h=>by
  have hlv:0≤(levelT x s).1:=by
   unfold levelT
   split
   ·simp
   ·split
    ·simp
    ·split
     ·exact h0
     ·simp
  rcases k with _|k
  ·simp only [limGo,List.getElem_cons_zero,List.getD_cons_zero]
   split<;>omega
  ·simp only [limGo,List.getElem_cons_succ,List.getD_cons_succ]
   exact limGo_ok s h0 h1 xs _ (by split<;>omega) (by split<;>omega) k (by simpa [limGo] using h)
theorem limits_ok {s:Int} {parts:List Nat} (h:(limitsT s parts).2=0):limOk (limitsT s parts).1=true∧(limitsT s parts).1.getD 0 0=s:=by
 unfold limitsT at *
 split at h
 ·simp at h
 ·rename_i hn
  rw [if_neg hn]
  refine ⟨limOk_iff.2 ⟨⟨by simp,?_⟩,fun k hk=>?_⟩,rfl⟩
  ·simp only [List.length_cons,limGo_len,List.length_tail];omega
  ·rcases k with _|k
   ·simp;omega
   ·have:=limGo_ok s (by omega) (by omega) parts.tail s (by omega) (by omega) k (by simpa using hk)
    simp only [List.getElem_cons_succ]
    exact ⟨this.1,fun _=>by rw [show k + 1 - 1=k by omega];exact this.2⟩
end Go.Proofs.YtflgboncpbmikaaGreatDoor
/- Sorted numbers: package slices. Condition: none. -/
namespace Go.Proofs.YtflgboncpbmikaaGreatDoor
set_option linter.unusedVariables false
set_option linter.unusedSimpArgs false
open Go Go.VC
variable {R:Cx} {Hs Rest:List HP} {w:World}
def Rise (l:List Int):Prop:=∀ i j (hj:j<l.length),(hij:i<j)→l[i]<l[j]
def insS (n:Int):List Int→List Int
 |[]=>[n]
 |x::l=>if x<n then x::insS n l else n::x::l
theorem insS_at {n:Int}:∀ {l:List Int} {p:Nat},p≤l.length→(∀ k (h:k<l.length),k<p→l[k]<n)→(∀ k (h:k<l.length),p≤k→n≤l[k])→insS n l=l.take p++n::l.drop p
 |[],p,hp,_,_=>by
  obtain rfl:p=0:=by simpa using hp
  rfl
 |x::l,0,_,_,h2=>by
  have:=h2 0 (by simp) (by omega)
  simp only [List.getElem_cons_zero] at this
  unfold insS
  rw [if_neg (by omega)];rfl
 |x::l,p + 1,hp,h1,h2=>by
  have h0:=h1 0 (by simp) (by omega)
  simp only [List.getElem_cons_zero] at h0
  unfold insS
  rw [if_pos h0,insS_at (p:=p) (by simpa using hp) (fun k h hk=>by have:=h1 (k + 1) (by simpa using h) (by omega);simpa using this) (fun k h hk=>by have:=h2 (k + 1) (by simpa using h) (by omega);simpa using this)]
  rfl
theorem half_eq {a b:Nat} (h:a + b≤1000000000000000000):IntKind.i64.wrap (shrI .u64 (IntKind.u64.wrap (IntKind.i64.wrap ((a:Int) + b))) 1)=((a + b) / 2:Nat):=by
 rw [wrap64 (x:=(a:Int) + b) (by omega) (by omega),IntKind.wrap_u64]
 have e:shrI .u64 (((a:Int) + b) % 18446744073709551616) 1=(((a + b) / 2:Nat):Int):=by
  unfold shrI
  show Int.fdiv _ 2=_
  rw [Int.fdiv_eq_ediv_of_nonneg _ (by omega)]
  omega
 rw [e,wrap64 (by omega) (by omega)]
theorem isNaN_spec {x:Int} (hw:Sat R Hs w):Gets Tryz.prog 171 #[.int .i64 x] w fun v w'=>v=.bool false∧Sat R Hs w':=by
 apply call171
 exact ⟨by simp,hw⟩
theorem cNaN_spec {x:Int} (hw:Sat R Hs w):Gets Tryz.prog 165 #[.int .i64 x] w fun v w'=>v=.bool false∧Sat R Hs w':=by
 apply call165
 exact ⟨by simp,hw⟩
theorem less_spec {x y:Int} (hw:Sat R Hs w):Gets Tryz.prog 129 #[.int .i64 x,.int .i64 y] w fun v w'=>v=.bool (decide (x<y))∧Sat R Hs w':=by
 apply call129
 refine (cNaN_spec hw).use ?_
 rintro _ w ⟨rfl,hw⟩
 exact ⟨_,rfl,Br.f rfl ⟨rfl,hw⟩⟩
theorem bsearch_spec {s:Sl} {l:List Int} {n:Int} (hs:RoI R s l) (hr:Rise l) (hl:l.length≤1000000000) (hw:Sat R Hs w):
  Gets Tryz.prog 152 #[.slice s.a s.len s.cap,.int .i64 n] w fun v w'=>∃ (p:Nat) (b:Bool),v=.tuple #[.int .i64 p,.bool b]∧p≤l.length∧(∀ k (h:k<l.length),k<p→l[k]<n)∧(∀ k (h:k<l.length),p≤k→n≤l[k])∧Sat R Hs w':=by
 have hlen:=hs.len
 apply call152
 refine ⟨fun i j w=>∃ a b:Nat,i=a∧j=b∧a≤b∧b≤l.length∧(∀ k (h:k<l.length),k<a→l[k]<n)∧(∀ k (h:k<l.length),b≤k→n≤l[k])∧Sat R Hs w,fun i j _=>j.toNat - i.toNat,⟨0,l.length,rfl,by rw [hlen],by omega,by omega,fun k _ h=>by omega,fun k h h'=>by omega,hw⟩,?_⟩
 clear hw
 rintro _ _ _ w ⟨a,b,rfl,rfl,hab,hb,h1,h2,hw⟩
 rw [half_eq (by omega)]
 refine Br.d (fun h=>?_) (fun h=>?_)
 ·have hm:(a + b) / 2<l.length:=by omega
  refine Ro.ix hs (eqS hw) ((a + b) / 2) rfl hm ?_
  refine (less_spec hw).use ?_
  rintro _ w ⟨rfl,hw⟩
  refine ⟨_,rfl,Br.d (fun h3=>?_) (fun h3=>?_)⟩
  ·rw [show IntKind.i64.wrap ((((a + b) / 2:Nat):Int) + 1)=(((a + b) / 2 + 1:Nat):Int) from wrap64 (by omega) (by omega)]
   refine ⟨⟨(a + b) / 2 + 1,b,rfl,rfl,by omega,hb,fun k hk hk2=>?_,h2,hw⟩,by dsimp only;omega⟩
   by_cases hkm:k=(a + b) / 2
   ·subst hkm;exact h3
   ·have:=hr k ((a + b) / 2) hm (by omega);omega
  ·refine ⟨⟨a,(a + b) / 2,rfl,rfl,by omega,by omega,h1,fun k hk hk2=>?_,hw⟩,by dsimp only;omega⟩
   by_cases hkm:k=(a + b) / 2
   ·subst hkm;omega
   ·have:=hr ((a + b) / 2) k hk (by omega);omega
 ·obtain rfl:a=b:=by omega
  have fin:∀ (t:Bool) w,Sat R Hs w→∃ (p:Nat) (b:Bool),Value.tuple #[.int .i64 a,.bool t]=.tuple #[.int .i64 p,.bool b]∧p≤l.length∧(∀ k (h:k<l.length),k<p→l[k]<n)∧(∀ k (h:k<l.length),p≤k→n≤l[k])∧Sat R Hs w:=fun t w hw=>⟨a,t,rfl,hb,h1,h2,hw⟩
  refine Br.d (fun h3=>?_) (fun h3=>fin _ _ hw)
  have ha:a<l.length:=by omega
  refine Ro.ix hs (eqS hw) a rfl ha ?_
  refine Br.e (fun h4=>fin _ _ hw) (fun h4=>?_)
  refine Ro.ix hs (eqS hw) a rfl ha ?_
  refine (isNaN_spec hw).use ?_
  rintro _ w ⟨rfl,hw⟩
  exact ⟨_,rfl,Br.f rfl (fin _ _ hw)⟩
end Go.Proofs.YtflgboncpbmikaaGreatDoor
/- SL, part 16: copy; append of zeros to the head of a slice of one's own, where there is no room. Condition: bounds on lengths. -/
namespace Go.VC
set_option linter.unusedVariables false
set_option linter.unusedSimpArgs false
variable {P:Program} {R:Cx} {Hs Rest:List HP} {w:World} {s:Sl} {T:TypeId}
theorem copy_rule {dT sT ty elem:TypeId} {b o dLen dCap sLen sCap:Nat} {a:Addr} {cs l:List Value} {fr:Nat × Nat} {K:Int→World→Prop} (hu:P.underlying dT=some (.slice elem)) (hs:(P.info? elem).map (·.size)=some 1)
  (hw:Sat R (pts b (.cells l.toArray T fr)::Hs) w) (hfr:okFr l.length fr) (hn:cs.length=Nat.min sLen dLen) (hfit:o + cs.length≤l.length) (hsrc:∀ j v,cs[j]? =some v→w.cell? (a.add j)=some v) (h1:oneAll cs=true)
  (k:∀ t w',Sat R (pts b (.cells (putL l o cs).toArray T fr)::Hs) w'→K t w'):
  ∃ w',∃ t:Int,(Builtin.copy_ #[dT,sT] ty #[.slice (some ⟨b,o,none⟩) dLen dCap,.slice (some a) sLen sCap]).run P w=.ok (.int .i64 t) w'∧K t w':=by
 have hat:=hw.at
 have hr:=run_copy_cells (P:=P) w dT sT ty elem b o dLen dCap a sLen sCap cs hu hs hn hsrc (fun j hj=>by rw [cell_of hat];simp;omega) (fun j hj=>frozen_no hat hfr (by omega)) (fun v hv=>List.all_eq_true.1 h1 v hv)
 exact ⟨_,_,hr,k _ _ (setCells_sat cs l o w hw)⟩
theorem zerosGrow_rule {t1 t2 ty:TypeId} {bytes k n:Nat} {kd kn:IntKind} {z:Value} {xs:List Value} {K:Sl→World→Prop} (ht:P.underlying t1=some (.slice T)) (htn:P.underlying t2=some (.int kn)) (hi:elB P T bytes=true)
  (h0:0<n) (hk:k<xs.length) (hc:s.cap<k + n) (hb:2 * (k + n) * bytes≤281474976710656) (hb':k + n≤9223372036854775807) (hw:Sat R (Own s T xs::Hs) w)
  (h:∀ t w' ys,ys.length=n→Sat R (Own t T (xs.take k++ys)::Own s T xs::Hs) w'→K t w'):
  ∃ w',∃ t:Sl,(Builtin.append_ #[t1,t2] ty #[.slice s.a k s.cap,.int kd n]).run P w=.ok (.slice t.a t.len t.cap) w'∧K t w':=by
 obtain ⟨i,z,hi,hz,hsize,hbytes,hzc⟩:=elB_out hi
 rcases Own.cases hw with ⟨_,rfl,_⟩|⟨b,rest,fr,rfl,hfr,hp⟩
 ·simp at hk
 have hat:=hp.at
 dsimp only at hc ⊢
 have hcap:Builtin.nextslicecap (k + n) (xs++rest).length * i.bytes≤281474976710656:=by
  have h2:Builtin.nextslicecap (k + n) (xs++rest).length≤2 * (k + n):=by
   unfold Builtin.nextslicecap
   split
   ·omega
   ·split
    ·omega
    ·have:=nextslicecap_le_wide hc
     unfold Builtin.nextslicecap at this
     rw [if_neg (by assumption),if_neg (by assumption)] at this
     omega
  rw [hbytes]
  exact Nat.le_trans (Nat.mul_le_mul_right _ h2) hb
 have hold:(Builtin.firstCells i.size k (.slice (some ⟨b,0,none⟩) k (xs++rest).length)).run P w.drew=.ok (xs.take k).toArray w.drew:=by
  refine run_firstCells_some w.drew i.size k ⟨b,0,none⟩ k _ (xs.take k) (by rw [hsize,List.length_take];omega) ?_
  intro j u hj
  rw [World.cell?_drew,add_off,cell_of hat,Nat.zero_add]
  obtain ⟨hlt,rfl⟩:=List.getElem?_eq_some_iff.1 hj
  rw [List.length_take] at hlt
  rw [List.getElem?_append_left (by omega),List.getElem?_eq_getElem (by omega),List.getElem_take]
 have hwr:IntKind.i64.wrap (n:Int)=n:=by rw [IntKind.wrap_i64];omega
 have hn:¬ (k + n≤(xs++rest).length):=by omega
 have h63':¬ (9223372036854775807<((k:Int) + (n:Int))):=by omega
 have h48':¬ (281474976710656<Builtin.nextslicecap (k + n) (xs++rest).length * i.bytes):=by omega
 have h48i:¬ (281474976710656<(n:Int) * (i.bytes:Int)):=by
  rw [←Int.natCast_mul,hbytes]
  have:n * bytes≤2 * (k + n) * bytes:=Nat.mul_le_mul_right _ (by omega)
  omega
 have hneg:¬ ((n:Int)<0):=by omega
 have hn0:n≠0:=by omega
 have hns:¬ (n * i.size=0):=by rw [hsize];omega
 have hg:=grownCap_ge w (k + n) (xs++rest).length T
 have hr:(Builtin.append_ #[t1,t2] ty #[.slice (some ⟨b,0,none⟩) k (xs++rest).length,.int kd n]).run P w=
   .ok (.slice (some ⟨w.heap.size,0,none⟩) (k + n) (grownCap w (k + n) (xs++rest).length T)) (w.drew.alloc (.cells ((xs.take k).toArray++Builtin.zeroCells z.cells n++Builtin.zeroCells z.cells (grownCap w (k + n) (xs++rest).length T - (k + n))) T)):=by
  simp only [List.length_append] at hn h48' hold ⊢
  simp [Builtin.append_,run_underlying ht,run_underlying htn,sizeOf,typeInfo,zeroValue,hi,hz,asInt,asIntOf,hwr,hn,hneg,hns,h63',h48',h48i,Question.forced,hold,newRow,grownCap]
 have hzs:∀ m,(Builtin.zeroCells z.cells m).size=m:=fun m=>by simp [Builtin.zeroCells,hzc]
 refine ⟨_,⟨some ⟨w.heap.size,0,none⟩,k + n,grownCap w (k + n) (xs++rest).length T⟩,hr,h _ _ (Builtin.zeroCells z.cells n).toList (by rw [Array.length_toList,hzs]) ?_⟩
 have h3:=Sat.alloc (Obj.cells ((xs.take k).toArray++Builtin.zeroCells z.cells n++Builtin.zeroCells z.cells (grownCap w (k + n) (xs++rest).length T - (k + n))) T) (Sat.drew hp)
 have e:Obj.cells ((xs.take k).toArray++Builtin.zeroCells z.cells n++Builtin.zeroCells z.cells (grownCap w (k + n) (xs++rest).length T - (k + n))) T=.cells ((xs.take k++(Builtin.zeroCells z.cells n).toList)++(Builtin.zeroCells z.cells (grownCap w (k + n) (xs++rest).length T - (k + n))).toList).toArray T (0,0):=by
  congr 1
  apply Array.ext';simp
 rw [e] at h3 ⊢
 have h4:=Own.of_pts (Sat.swap h3) hfr
 have h5:=Own.of_pts (Sat.swap h4)
 have e2:(⟨some ⟨w.drew.heap.size,0,none⟩,(xs.take k++(Builtin.zeroCells z.cells n).toList).length,((xs.take k++(Builtin.zeroCells z.cells n).toList)++(Builtin.zeroCells z.cells (grownCap w (k + n) (xs++rest).length T - (k + n))).toList).length⟩:Sl)=⟨some ⟨w.heap.size,0,none⟩,k + n,grownCap w (k + n) (xs++rest).length T⟩:=by
  have:(xs.take k).length=k:=by rw [List.length_take];omega
  simp only [List.length_append,Array.length_toList,hzs,World.size_drew,this] at hg ⊢
  congr 1
  omega
 rw [e2] at h5
 exact h5
end Go.VC
/- Package slices: Insert of one number. Condition: a bound on the length. -/
namespace Go.Proofs.YtflgboncpbmikaaGreatDoor
set_option linter.unusedVariables false
set_option linter.unusedSimpArgs false
open Go Go.VC
variable {R:Cx} {Hs Rest:List HP} {w:World}
theorem ov_name : (Tryz.f172.name == "runtime.NumGoroutine") = false := by kernel_rfl
theorem ov_body:Tryz.f172.body.isNone=true:=by kernel_rfl
theorem ov_next:Extern.findNext Tryz.f172=none:=by kernel_rfl
theorem ov_find:∃ tR,Extern.find Tryz.f172=some (Extern.SlicesOverlaps.overlaps #[ 68,68 ] #[tR]):=⟨4,by kernel_rfl⟩
theorem szI1:szOf Tryz.prog 3=1:=by kernel_rfl
theorem szI (w:World):(sizeOf 3).run Tryz.prog w=.ok 1 w:=by
 obtain ⟨i,hi⟩:=szOf_pos (P:=Tryz.prog) (t:=3) (by rw [szI1];decide)
 have:=sizeOf_run hi w
 rw [szI1] at this
 exact this
abbrev oneC (n:Int) (T:TypeId):Obj:=.cells [.int .i64 n].toArray T (0,0)
theorem cut_some {b k m:Nat} (h:m≠k):cutA (some ⟨b,0,none⟩) k m 1=some ⟨b,k,none⟩:=by
 simp only [cutA,if_neg h,Option.map_some,add_off];simp
theorem overlaps_spec {b1 b2 o:Nat} {n:Int} {T1 T2:TypeId} {l:List Value} {fr:Nat × Nat} {la lc:Nat} {Q:Ending→World→Prop} (hl:l≠[])
  (hw:Sat R (pts b2 (.cells l.toArray T2 fr)::pts b1 (oneC n T1)::Hs) w) (k:Q (.returned (.bool false)) w):
  Ext Tryz.prog 172 #[.slice (some ⟨b1,0,none⟩) 1 1,.slice (some ⟨b2,o,none⟩) la lc] w Q:=by
 have h2:=hw.at
 have h1:=hw.swap.at
 have hne:b1≠b2:=by
  rintro rfl
  obtain ⟨h,hA,hd,h',hB,hd',_⟩:=hw
  rw [show h=_ from hA] at hd hd'
  rw [show h'=_ from hB] at hd'
  have:=hd' b1 (by simp [Heap.one])
  simp only [Cx.add,Heap.add,Heap.one] at this
  split at this<;>simp_all
 obtain ⟨tR,hf⟩:=ov_find
 refine ⟨.bool false,w,?_,k⟩
 rw [run_callFunc_extern Tryz.func172 ov_name ov_body ov_next hf]
 rw [Lib.run_overlaps_apart (P:=Tryz.prog) w 68 tR 3 Tryz.underlying68 1 (fun w=>szI w) ⟨b1,0,none⟩ ⟨b2,o,none⟩ 1 1 la lc hne T1 T2 1 l.length ?_ ?_ ?_ ?_ ?_]
 ·rfl
 ·simp only [World.shape?,h1];rfl
 ·simp only [World.shape?,h2];simp
 ·cases l with
  |nil=>exact absurd rfl hl
  |cons a l=>simp
 ·simp [World.frozen?,h1]
 ·simp [World.frozen?,h1]
end Go.Proofs.YtflgboncpbmikaaGreatDoor
/- Package slices: Insert of one number. Condition: a bound on the length. -/
namespace Go.Proofs.YtflgboncpbmikaaGreatDoor
set_option linter.unusedVariables false
set_option linter.unusedSimpArgs false
open Go Go.VC
variable {R:Cx} {Hs Rest:List HP} {w:World}
theorem putL_mid {A B C V:List Value} {p:Nat} (hp:A.length=p) (hB:B.length=V.length):putL (A++B++C) p V=A++V++C:=by
 rw [putL_eq _ _ _ (by simp only [List.length_append];omega)]
 have e1:(A++B++C).take p=A:=by rw [List.append_assoc,List.take_left' hp]
 have e2:(A++B++C).drop (p + V.length)=C:=by rw [List.drop_left' (by rw [List.length_append];omega)]
 rw [e1,e2]
theorem put2 {A ys D rest:List Value} {x:Value} {p:Nat} (hA:A.length=p) (hy:ys.length=D.length + 1):putL (putL ((A++ys)++rest) p [x]) (p + 1) D=(A++x::D)++rest:=by
 match ys,hy with
 |y0::ys',hy=>
  have h1:putL ((A++y0::ys')++rest) p [x]=A++[x]++(ys'++rest):=by
   have:=putL_mid (A:=A) (B:=[y0]) (C:=ys'++rest) (V:=[x]) hA rfl
   rw [←this];simp
  have h2:=putL_mid (A:=A++[x]) (B:=ys') (C:=rest) (V:=D) (p:=p + 1) (by simp [hA]) (by simpa using hy)
  rw [h1,←List.append_assoc,h2];simp
theorem put2' {A D rest:List Value} {x:Value} {p:Nat} (hA:A.length=p) (hr:1≤rest.length):putL (putL ((A++D)++rest) (p + 1) D) p [x]=(A++x::D)++rest.drop 1:=by
 match rest,hr with
 |r0::rest',_=>
  obtain ⟨y0,ys',hy,hl⟩:∃ y0 ys',D++[r0]=y0::ys'∧ys'.length=D.length:=by
   cases D with
   |nil=>exact ⟨r0,[],rfl,rfl⟩
   |cons d D=>exact ⟨d,D++[r0],rfl,by simp⟩
  have e:(A++D)++r0::rest'=(A++[y0])++ys'++rest':=by
   have:(A++D)++r0::rest'=A++(D++[r0])++rest':=by simp
   rw [this,hy];simp
  rw [e,putL_mid (p:=p + 1) (by simp [hA]) hl]
  have:=putL_mid (A:=A) (B:=[y0]) (C:=D++rest') (V:=[x]) hA rfl
  rw [show (A++[y0])++D++rest'=A++[y0]++(D++rest') by simp,this];simp
theorem src_one {b:Nat} {n:Int} {T:TypeId} (h:w.heap[b]? =some (oneC n T)):∀ j v,[Value.int .i64 n][j]? =some v→w.cell? ((⟨b,0,none⟩:Addr).add j)=some v:=by
 intro j v hj
 rw [add_off,cell_of h,Nat.zero_add];exact hj
theorem src_part {b p:Nat} {xs rest:List Value} {T:TypeId} {fr:Nat × Nat} (h:w.heap[b]? =some (.cells (xs++rest).toArray T fr)) (_hp:p≤xs.length):∀ j v,(xs.drop p)[j]? =some v→w.cell? ((⟨b,p,none⟩:Addr).add j)=some v:=by
 intro j v hj
 rw [add_off,cell_of h]
 rw [List.getElem?_drop] at hj
 have hlt:=(List.getElem?_eq_some_iff.1 hj).1
 rw [List.getElem?_append_left (by omega)];exact hj
theorem insert_spec {s:Sl} {l:List Int} {n:Int} {p b:Nat} {T:TypeId} (hl:l.length≤1000000000) (hp:p≤l.length) (hw:Sat R (Own s 3 (intsI l)::pts b (oneC n T)::Hs) w):
  Gets Tryz.prog 153 #[.slice s.a s.len s.cap,.int .i64 p,.slice (some ⟨b,0,none⟩) 1 1] w fun v w'=>∃ t:Sl,v=.slice t.a t.len t.cap∧Sat R (Own t 3 (intsI (l.take p++n::l.drop p))::pts b (oneC n T)::Hs) w':=by
 have hlen:=Own.len hw
 have hcap:=Own.cap hw
 rw [List.length_map] at hlen
 refine call153 s p ⟨some ⟨b,0,none⟩,1,1⟩ _ _ ?_
 unfold B153
 dsimp only
 have w1:IntKind.i64.wrap ((s.len:Int) + ((1:Nat):Int))=((l.length + 1:Nat):Int):=by rw [wrap64 (by omega) (by omega)];omega
 have w2:IntKind.i64.wrap (((l.length + 1:Nat):Int) - p)=((l.length + 1 - p:Nat):Int):=by rw [wrap64 (by omega) (by omega)];omega
 have w3:IntKind.i64.wrap ((p:Int) + ((1:Nat):Int))=((p + 1:Nat):Int):=by rw [wrap64 (by omega) (by omega)];omega
 rw [w1,w2,w3]
 simp only [Int.toNat_natCast]
 refine ⟨by omega,by omega,Br.f rfl (Br.e (fun h=>?_) (fun h=>Br.d (fun h2=>?_) (fun h2=>?_)))⟩
 ·-- behind all
  refine append_rule elI8 hw (Src_one elI8.hk 1 hw rfl) (oneAll_k _ _) (by rw [List.length_map];omega) (by rw [List.length_map];omega) fun t w hw=>⟨t,rfl,?_⟩
  have e:intsI l++[Value.int .i64 n]=intsI (l.take p++n::l.drop p):=by
   rw [List.take_of_length_le (by omega),List.drop_eq_nil_of_le (by omega)];simp
  rw [e] at hw;exact hw
 ·-- no room
  refine ⟨by omega,by omega,?_⟩
  refine zerosGrow_rule (z:=.int .i64 0) Tryz.underlying68 Tryz.underlying3 elI8.hi (by omega) (by rw [List.length_map];omega) (by omega) (by omega) (by omega) hw fun t w ys hys hw=>?_
  have htl:=Own.len hw
  rw [List.length_append,List.length_take,List.length_map,hys] at htl
  refine ⟨by omega,by omega,?_⟩
  rcases Own.cases hw with ⟨_,h0,_⟩|⟨b',rest,fr,rfl,hfr,hw⟩
  ·have:=congrArg List.length h0
   rw [List.length_append,hys,List.length_nil] at this;omega
  dsimp only at htl ⊢
  have hA:((intsI l).take p).length=p:=by rw [List.length_take,List.length_map];omega
  have hxs:((intsI l).take p++ys).length=l.length + 1:=by rw [List.length_append,hA,hys];omega
  have hb1:=(hw.takeP (b:=b) inferInstance).at
  rw [hxs,cut_some (by rw [List.length_append,hxs];omega)]
  refine copy_rule Tryz.underlying68 (by kernel_rfl) hw hfr (cs:=[.int .i64 n]) (by show 1=min _ _;omega) (by rw [List.length_append,hxs];show p + 1≤_;omega) (src_one hb1) rfl fun _ w hw=>?_
  refine drw_rule hw fun w hw=>⟨by omega,by omega,by omega,by omega,?_⟩
  rcases Own.cases hw.swap with ⟨_,h0,_⟩|⟨bs,rest2,fr2,rfl,hfr2,hws⟩
  ·have h3:l.length=0:=by
    have:=congrArg List.length h0
    rw [List.length_map] at this;exact this
   omega
  clear w1 w2 w3
  dsimp only at hlen hcap h h2 ⊢
  rw [List.length_map] at h
  have hsat:=hws.at
  rw [cut_some (by rw [List.length_append,hxs];omega),cut_some (by rw [List.length_append,List.length_map];omega)]
  refine copy_rule Tryz.underlying68 (by kernel_rfl) hws.swap (by rw [putL_len];exact hfr) (cs:=(intsI l).drop p) (by rw [List.length_drop,List.length_map];show _=min _ _;omega)
   (by rw [putL_len,List.length_append,hxs,List.length_drop,List.length_map];omega) (src_part hsat (by rw [List.length_map];omega)) (by rw [←List.map_drop];exact oneAll_k _ _) fun _ w hw=>?_
  rw [put2 hA (by rw [hys,List.length_drop,List.length_map];omega)] at hw
  have e:(intsI l).take p++Value.int .i64 n::(intsI l).drop p=intsI (l.take p++n::l.drop p):=by simp [List.map_take,List.map_drop]
  have hel:(intsI (l.take p++n::l.drop p)).length=l.length + 1:=by simp;omega
  rw [e] at hw
  have hfin:=Own.of_pts hw (by have:=hfr;rw [List.length_append,hxs] at this;rw [List.length_append,hel];exact this)
  rw [hel] at hfin
  refine ⟨⟨some ⟨b',0,none⟩,l.length + 1,(intsI (l.take p++n::l.drop p)++rest).length⟩,?_,?_⟩
  ·dsimp only
   have c1:((intsI l).take p++ys++rest).length=l.length + 1 + rest.length:=List.length_append.trans (by rw [hxs])
   have c2:(intsI (l.take p++n::l.drop p)++rest).length=l.length + 1 + rest.length:=List.length_append.trans (by rw [hel])
   rw [c1,c2]
  ·exact Sat.cons (fun R' h=>h.drop) hfin
 ·-- room
  rcases Own.cases hw with ⟨_,h0,_⟩|⟨bs,rest,fr,rfl,hfr,hws⟩
  ·have h3:l.length=0:=by
    have:=congrArg List.length h0
    rw [List.length_map] at this;exact this
   omega
  clear w1 w2 w3
  dsimp only at hlen hcap h h2 ⊢
  rw [List.length_map] at h
  have hA:((intsI l).take p).length=p:=by rw [List.length_take,List.length_map];omega
  have hcl:(intsI l++rest).length=l.length + rest.length:=by rw [List.length_append,List.length_map]
  have hroom:1≤rest.length:=by
   rw [hcl] at h2
   omega
  refine ⟨by omega,by omega,by omega,by omega,?_⟩
  rw [cut_some (by omega)]
  refine overlaps_spec (by intro h0;have h5:=congrArg List.length h0;rw [hcl,List.length_nil] at h5;omega) hws ?_
  refine ⟨_,rfl,Br.t rfl ?_⟩
  refine drw_rule hws fun w hws=>⟨by omega,by omega,by omega,by omega,?_⟩
  rw [cut_some (by omega)]
  have hsat:=hws.at
  refine copy_rule Tryz.underlying68 (by kernel_rfl) hws hfr (cs:=(intsI l).drop p) (by rw [List.length_drop,List.length_map];show _=min _ _;omega)
   (by rw [hcl,List.length_drop,List.length_map];omega) (src_part hsat (by rw [List.length_map];omega)) (by rw [←List.map_drop];exact oneAll_k _ _) fun _ w hw=>?_
  refine ⟨by omega,by omega,?_⟩
  have hb1:=hw.swap.at
  refine copy_rule Tryz.underlying68 (by kernel_rfl) hw (by rw [putL_len];exact hfr) (cs:=[.int .i64 n]) (by show 1=min _ _;omega) (by rw [putL_len,hcl];show p + 1≤_;omega) (src_one hb1) rfl fun _ w hw=>?_
  have e0:intsI l++rest=((intsI l).take p++(intsI l).drop p)++rest:=by rw [List.take_append_drop]
  rw [e0,put2' hA hroom] at hw
  have e:(intsI l).take p++Value.int .i64 n::(intsI l).drop p=intsI (l.take p++n::l.drop p):=by simp [List.map_take,List.map_drop]
  have hel:(intsI (l.take p++n::l.drop p)).length=l.length + 1:=by simp;omega
  rw [e] at hw
  have hll:(intsI (l.take p++n::l.drop p)++rest.drop 1).length=(intsI l++rest).length:=by rw [List.length_append,hel,hcl,List.length_drop];omega
  have hfin:=Own.of_pts hw (by rw [hll];exact hfr)
  rw [hel,hll] at hfin
  exact ⟨_,rfl,hfin⟩
end Go.Proofs.YtflgboncpbmikaaGreatDoor
/- SL, part 17: maps whose keys are ints; memory that is only read, several pieces of it lent at once. No condition. -/
namespace Go.VC
set_option linter.unusedVariables false
set_option linter.unusedSimpArgs false
variable {P:Program} {R R' R'':Cx} {Hs Rest:List HP} {w:World} {s:Sl} {T:TypeId}
instance:KeyK Int where
 enc:=Value.int .i64
 desc:=.int .i64
 same a b:=by
  show (if IntKind.i64=IntKind.i64 then some (a==b) else none)=some (a==b)
  rw [if_pos rfl]
 bits a:=by
  have:∀ n,Instr.sameBits n (.int .i64 a) (.int .i64 a)=(IntKind.i64==IntKind.i64 && a==a):=fun n=>by cases n<;>rfl
  rw [this];simp
 eq a b h:=beq_iff_eq.1 h
 check P em K a w h:=by
  show (Instr.checkKey em (9999 + 1) K (.int .i64 a)).run P w=_
  unfold Instr.checkKey
  simp [run_underlying h]
theorem Reads.out {xs:List Value} (h:Sat R (Reads s xs::Hs) w):∃ R',R.Ext R'∧SlR R'.m s xs∧Sat R' Hs w∧∀ Hs' w',Sat R' Hs' w'→Sat R (Reads s xs::Hs') w':=by
 obtain ⟨x,hd,hs,hw,hx⟩:=Reads.lend h
 exact ⟨R.add x,Cx.Ext.add,hs,hw,fun Hs' w' h=>Reads.back hd hx h⟩
end Go.VC
/- A flight in memory. Condition: none. -/
namespace Go.Proofs.YtflgboncpbmikaaGreatDoor
set_option linter.unusedVariables false
set_option linter.unusedSimpArgs false
open Go Go.VC
variable {R:Cx} {Hs Rest:List HP} {w:World}
structure Hold where
 owner:Int
 cls:Int
 many:Int
 seats:List Int
structure PF where
 num:Int
 rows:Int
 grps:List Int
 lims:List Int
 sold:List Int
 hs:List (Int × Hold)
 own:List (Int × Int)
abbrev hCells (h:Hold) (s:Sl):Obj:=.cells [.int .i64 h.owner,.int .i64 h.cls,.int .i64 h.many,.slice s.a s.len s.cap].toArray 169 (0,0)
def HoldAt (b:Nat) (h:Hold):HP:=exs fun s:Sl=>Star [pts b (hCells h s),Own s 3 (intsI h.seats)]
abbrev HE:=Int × Nat × Hold
def HoldsAt (E:List HE):HP:=Star (E.map fun e=>HoldAt e.2.1 e.2.2)
abbrev hPtrs (E:List HE):List (Int × Value):=E.map fun e=>(e.1,.pointer (some ⟨e.2.1,0,none⟩))
abbrev hEr (E:List HE):List (Int × Hold):=E.map fun e=>(e.1,e.2.2)
abbrev oVals (l:List (Int × Int)):List (Int × Value):=l.map fun e=>(e.1,.int .i64 e.2)
abbrev fCells (f:PF) (sg sl ss:Sl) (hm om:Nat):Obj:=
 .cells [.int .i64 f.num,.int .i64 f.rows,.slice sg.a sg.len sg.cap,.slice sl.a sl.len sl.cap,.slice ss.a ss.len ss.cap,.map (some hm),.map (some om)].toArray 165 (0,0)
abbrev FO (p hm om:Nat) (sg sl ss:Sl) (E:List HE) (f:PF) (Hs:List HP):List HP:=
 pts p (fCells f sg sl ss hm om)::MapAt hm (hPtrs E)::MapAt om (oVals f.own)::HoldsAt E::Hs
structure FX where
 hm:Nat
 om:Nat
 sg:Sl
 sl:Sl
 ss:Sl
 E:List HE
def FlightAt (p:Nat) (f:PF):HP:=exs fun x:FX=>
 Star [pur (hEr x.E=f.hs),Reads x.sg (intsI f.grps),Reads x.sl (intsI f.lims),Reads x.ss (intsI f.sold),pts p (fCells f x.sg x.sl x.ss x.hm x.om),MapAt x.hm (hPtrs x.E),MapAt x.om (oVals f.own),HoldsAt x.E]
theorem Sat.flight {p:Nat} {f:PF}:Sat R (FlightAt p f::Hs) w↔∃ hm om sg sl ss E,hEr E=f.hs∧Sat R (Reads sg (intsI f.grps)::Reads sl (intsI f.lims)::Reads ss (intsI f.sold)::FO p hm om sg sl ss E f Hs) w:=by
 unfold FlightAt
 rw [Sat.exs]
 constructor
 ·rintro ⟨⟨hm,om,sg,sl,ss,E⟩,h⟩
  obtain ⟨h1,h2⟩:=Sat.pur.1 (Sat.star.1 h)
  exact ⟨hm,om,sg,sl,ss,E,h1,h2⟩
 ·rintro ⟨hm,om,sg,sl,ss,E,h1,h2⟩
  exact ⟨⟨hm,om,sg,sl,ss,E⟩,Sat.star.2 (Sat.pur.2 ⟨h1,h2⟩)⟩
theorem Sat.flightO {p:Nat} {f:PF} (hw:Sat R (FlightAt p f::Hs) w):∃ hm om sg sl ss E R',hEr E=f.hs∧R.Ext R'∧SlR R'.m sg (intsI f.grps)∧SlR R'.m sl (intsI f.lims)∧SlR R'.m ss (intsI f.sold)∧Sat R' (FO p hm om sg sl ss E f Hs) w∧
  ∀ Hs' w',Sat R' Hs' w'→Sat R (Reads sg (intsI f.grps)::Reads sl (intsI f.lims)::Reads ss (intsI f.sold)::Hs') w':=by
 obtain ⟨hm,om,sg,sl,ss,E,hE,hw⟩:=Sat.flight.1 hw
 obtain ⟨R1,e1,g1,hw,b1⟩:=Reads.out hw
 obtain ⟨R2,e2,g2,hw,b2⟩:=Reads.out hw
 obtain ⟨R3,e3,g3,hw,b3⟩:=Reads.out hw
 exact ⟨hm,om,sg,sl,ss,E,R3,hE,e1.trans (e2.trans e3),e3.slR (e2.slR g1),e3.slR g2,g3,hw,fun Hs' w' h=>b1 _ _ (b2 _ _ (b3 _ _ h))⟩
theorem Sat.flightC {p hm om:Nat} {sg sl ss:Sl} {E:List HE} {f:PF} (hE:hEr E=f.hs) (hw:Sat R (Reads sg (intsI f.grps)::Reads sl (intsI f.lims)::Reads ss (intsI f.sold)::FO p hm om sg sl ss E f Hs) w):Sat R (FlightAt p f::Hs) w:=
 Sat.flight.2 ⟨hm,om,sg,sl,ss,E,hE,hw⟩
theorem Sat.hold {b:Nat} {h:Hold}:Sat R (HoldAt b h::Hs) w↔∃ s:Sl,Sat R (pts b (hCells h s)::Own s 3 (intsI h.seats)::Hs) w:=by
 unfold HoldAt
 rw [Sat.exs]
 exact ⟨fun ⟨s,h⟩=>⟨s,Sat.star.1 h⟩,fun ⟨s,h⟩=>⟨s,Sat.star.2 h⟩⟩
theorem Sat.holds {a b:List HE} {e:HE}:Sat R (HoldsAt (a++e::b)::Hs) w↔Sat R (HoldAt e.2.1 e.2.2::HoldsAt (a++b)::Hs) w:=by
 have p:((a++e::b).map fun e:HE=>HoldAt e.2.1 e.2.2).Perm (HoldAt e.2.1 e.2.2::(a++b).map fun e:HE=>HoldAt e.2.1 e.2.2):=by
  rw [List.map_append,List.map_cons,List.map_append];exact List.perm_middle
 unfold HoldsAt
 constructor
 ·intro h
  have h1:=(Sat.star.1 h).perm (p.append_right Hs)
  exact h1.cons fun _ h=>Sat.star.2 h
 ·intro h
  have h1:Sat R ((HoldAt e.2.1 e.2.2::(a++b).map fun e:HE=>HoldAt e.2.1 e.2.2)++Hs) w:=h.cons fun _ h=>Sat.star.1 h
  exact Sat.star.2 (h1.perm (p.symm.append_right Hs))
abbrev hMap:MapT Tryz.prog 162 Int 3 185 (.pointer none):=⟨Tryz.underlying162,Tryz.underlying3,Tryz.zeroValue185⟩
abbrev oMap:MapT Tryz.prog 163 Int 3 3 (.int .i64 0):=⟨Tryz.underlying163,Tryz.underlying3,Tryz.zeroValue3⟩
theorem hPtrs_get (k:Int) (E:List HE):getM k (hPtrs E)=(getM k E).map fun x=>.pointer (some ⟨x.1,0,none⟩):=getM_map (fun x:Nat × Hold=>Value.pointer (some ⟨x.1,0,none⟩)) k E
theorem hEr_get (k:Int) (E:List HE):getM k (hEr E)=(getM k E).map (·.2):=getM_map (fun x:Nat × Hold=>x.2) k E
theorem oVals_get (k:Int) (l:List (Int × Int)):getM k (oVals l)=(getM k l).map (Value.int .i64):=getM_map (Value.int .i64) k l
theorem hold_look {m:Nat} {E:List HE} (hw:Sat R (MapAt m (hPtrs E)::Hs) w) (k:Int) (c:Bool):
  (Instr.lookup 162 (.map (some m)) (.int .i64 k) c).run Tryz.prog w=.ok (if c then .tuple #[.pointer ((getM k E).map fun x=>⟨x.1,0,none⟩),.bool (getM k E).isSome] else .pointer ((getM k E).map fun x=>⟨x.1,0,none⟩)) w:=by
 have h:=MapAt.look hMap hw k c
 rw [hPtrs_get] at h
 rw [show Value.int .i64 k=KeyK.enc k from rfl,h]
 cases getM k E<;>rfl
theorem own_look {m:Nat} {l:List (Int × Int)} (hw:Sat R (MapAt m (oVals l)::Hs) w) (k:Int) (c:Bool):
  (Instr.lookup 163 (.map (some m)) (.int .i64 k) c).run Tryz.prog w=.ok (if c then .tuple #[.int .i64 ((getM k l).getD 0),.bool (getM k l).isSome] else .int .i64 ((getM k l).getD 0)) w:=by
 have h:=MapAt.look oMap hw k c
 rw [oVals_get] at h
 rw [show Value.int .i64 k=KeyK.enc k from rfl,h]
 cases getM k l<;>rfl
end Go.Proofs.YtflgboncpbmikaaGreatDoor
/- A flight: seats told, names, reading. Condition: bounds on lengths. -/
namespace Go.Proofs.YtflgboncpbmikaaGreatDoor
set_option linter.unusedVariables false
set_option linter.unusedSimpArgs false
open Go Go.VC
variable {R:Cx} {Hs Rest:List HP} {w:World}
theorem setM_map {α β γ:Type} [BEq α] (f:β→γ) (k:α) (v:β):∀ l:List (α × β),setM k (f v) (l.map fun e=>(e.1,f e.2))=(setM k v l).map fun e=>(e.1,f e.2)
 |[]=>rfl
 |e::l=>by
  simp only [List.map_cons,setM]
  split
  ·rfl
  ·rw [setM_map f k v l];rfl
theorem delM_map {α β γ:Type} [BEq α] (f:β→γ) (k:α):∀ l:List (α × β),delM k (l.map fun e=>(e.1,f e.2))=(delM k l).map fun e=>(e.1,f e.2)
 |[]=>rfl
 |e::l=>by
  simp only [List.map_cons,delM]
  split
  ·rfl
  ·rw [delM_map f k l];rfl
theorem putM_map {α β γ:Type} [BEq α] (f:β→γ) (k:α) (v:β) (l:List (α × β)):putM k (f v) (l.map fun e=>(e.1,f e.2))=(putM k v l).map fun e=>(e.1,f e.2):=by
 unfold putM
 rw [getM_map,Option.isSome_map]
 split
 ·exact setM_map f k v l
 ·simp
def Hold.put (h:Hold) (n:Int):Hold:={ h with seats:=insS n h.seats }
theorem tell_spec {p hm om b:Nat} {sg sl ss:Sl} {a c:List HE} {k n:Int} {h:Hold} {f:PF} (hr:Rise h.seats) (hl:h.seats.length≤1000000000) (hw:Sat R (FO p hm om sg sl ss (a++(k,b,h)::c) f Hs) w):
  Gets Tryz.prog 117 #[.pointer (some ⟨p,0,none⟩),.pointer (some ⟨b,0,none⟩),.int .i64 n] w fun v w'=>v=.tuple #[]∧Sat R (FO p hm om sg sl ss (a++(k,b,h.put n)::c) { f with own:=putM n h.owner f.own } Hs) w':=by
 have hw:=hw.take (HoldsAt (a++(k,b,h)::c))
 obtain ⟨s,hw⟩:=Sat.hold.1 (Sat.holds.1 hw)
 apply call117
 refine NilP.mk rfl ⟨s,At.own (eqS hw) (by exact ⟨rfl,trivial⟩),?_⟩
 obtain ⟨R',hro,_,hw',back⟩:=Own.lend (hw.take (Own s 3 (intsI h.seats))) (by rw [List.length_map];omega)
 refine (bsearch_spec (l:=h.seats) hro hr hl hw').use ?_
 clear hw hw'
 rintro _ w ⟨q,bb,rfl,hq,h1,h2,hw⟩
 have hw:=(back hw).swap
 refine ⟨_,_,rfl,NilP.mk rfl ⟨s,At.own (eqS hw) (by exact ⟨rfl,trivial⟩),?_⟩⟩
 refine new_rule hw fun bn w hw=>?_
 refine (insert_spec (T:=3) hl hq (hw.take (Own s 3 (intsI h.seats)))).use ?_
 clear hw
 rintro _ w ⟨t,rfl,hw⟩
 rw [←insS_at hq h1 h2] at hw
 refine ⟨_,rfl,NilP.mk rfl ?_⟩
 refine store_rule hw (by kernel_rfl) rfl (by simp [Value.cells]) fun w hw=>?_
 have hw:Sat R (pts b (hCells (h.put n) t)::Own t 3 (intsI (insS n h.seats))::pts bn (oneC n 3)::HoldsAt (a++c)::pts p (fCells f sg sl ss hm om)::MapAt hm (hPtrs (a++(k,b,h)::c))::MapAt om (oVals f.own)::Hs) w:=hw
 refine drw_rule hw fun w hw=>?_
 refine NilP.mk rfl ⟨some om,At.own selfS (by exact ⟨rfl,trivial⟩),NilP.mk rfl ⟨h.owner,by rw [add_off];exact At.own selfS (by exact ⟨rfl,trivial⟩),?_⟩⟩
 refine MapAt.put oMap (hw.take (MapAt om (oVals f.own))) n (.int .i64 h.owner) fun w hw=>⟨rfl,?_⟩
 rw [putM_map (Value.int .i64) n h.owner f.own] at hw
 have hw:=(hw.take (pts bn (oneC n 3))).drop
 have hw:Sat R (pts b (hCells (h.put n) t)::Own t 3 (intsI (h.put n).seats)::MapAt om (oVals (putM n h.owner f.own))::HoldsAt (a++c)::pts p (fCells f sg sl ss hm om)::MapAt hm (hPtrs (a++(k,b,h)::c))::Hs) w:=
  (hw.take (Own t 3 (intsI (insS n h.seats)))).take (pts b (hCells (h.put n) t))
 have hw:=Sat.hold.2 ⟨t,hw⟩
 have hw:=(Sat.holds (e:=((k,b,h.put n):HE)) (a:=a) (b:=c)).2 (hw.cons fun _ h=>h.take (HoldsAt (a++c)))
 have e:hPtrs (a++(k,b,h.put n)::c)=hPtrs (a++(k,b,h)::c):=by simp [hPtrs]
 show Sat R (pts p (fCells f sg sl ss hm om)::MapAt hm (hPtrs (a++(k,b,h.put n)::c))::MapAt om (oVals (putM n h.owner f.own))::HoldsAt (a++(k,b,h.put n)::c)::Hs) w
 rw [e]
 exact ((hw.take (MapAt om (oVals (putM n h.owner f.own)))).take (MapAt hm (hPtrs (a++(k,b,h)::c)))).take (pts p (fCells f sg sl ss hm om))
def labsF (n:Int) (g:List Int) (l:List Int):List ByteArray:=l.map fun k=>(labT n g k).1
theorem elStr:El Tryz.prog 100 100 9 16:=⟨Tryz.underlying100,⟨_,Tryz.underlying100⟩,by kernel_rfl⟩
theorem oneAll_str (l:List ByteArray):oneAll (l.map Value.string)=true:=by unfold oneAll;simp [Value.oneCell']
theorem labels_spec {p hm om:Nat} {sg sl ss sq:Sl} {f:PF} {l:List Int} [tk:TakeP p Hs (fCells f sg sl ss hm om) Rest] (hg:RoI R sg f.grps) (hl:RoI R sq l) (hlen:l.length≤1000000) (hw:Sat R Hs w):
  Gets Tryz.prog 120 #[.pointer (some ⟨p,0,none⟩),.slice sq.a sq.len sq.cap] w fun v w'=>∃ t:Sl,v=.slice t.a t.len t.cap∧Sat R (Own t 9 ((labsF f.rows f.grps l).map Value.string)::Hs) w':=by
 have hll:=hl.len
 apply call120
 refine ⟨fun so i w=>∃ j:Nat,i=j∧j≤l.length∧Sat R (Own so 9 ((labsF f.rows f.grps (l.take j)).map Value.string)::Hs) w,fun _ i _=>l.length - i.toNat,⟨0,rfl,by omega,Own.nil hw⟩,?_⟩
 clear hw
 rintro _ so _ w ⟨j,rfl,hj,hw⟩
 refine Br.d (fun h=>?_) (fun h=>?_)
 ·have hj2:j<l.length:=by omega
  refine Ro.ix hl (eqS hw) j rfl hj2 ?_
  refine NilP.mk rfl ⟨f.rows,sg,At.own (l:=[.int .i64 f.num,.int .i64 f.rows,.slice sg.a sg.len sg.cap,.slice sl.a sl.len sl.cap,.slice ss.a ss.len ss.cap,.map (some hm),.map (some om)]) (t:=TakeP.tail (t:=tk)) (eqS hw) (by exact ⟨rfl,rfl,trivial⟩),?_⟩
  refine (label_spec hg hw).use ?_
  rintro _ w ⟨rfl,hw⟩
  have hlab:(labsF f.rows f.grps (l.take j)).length=j:=by unfold labsF;rw [List.length_map,List.length_take];omega
  refine ⟨_,_,rfl,?_⟩
  refine push_rule elStr hw (oneAll_str _) rfl (by rw [List.length_map,hlab];omega) (by rw [List.length_map,hlab];omega) fun t w hw=>?_
  rw [wrap64 (by omega) (by omega)]
  refine ⟨⟨j + 1,by omega,by omega,?_⟩,by dsimp only;omega⟩
  have e:(labsF f.rows f.grps (l.take (j + 1))).map Value.string=(labsF f.rows f.grps (l.take j)).map Value.string++[.string (labT f.rows f.grps l[j]).1]:=by
   unfold labsF
   rw [List.take_add_one,List.getElem?_eq_getElem hj2,Option.toList_some,List.map_append,List.map_append]
   rfl
  rw [e];exact hw
 ·rw [List.take_of_length_le (by omega)] at hw
  exact ⟨so,rfl,hw⟩
end Go.Proofs.YtflgboncpbmikaaGreatDoor
/- A flight: a new one. Condition: bounds on lengths. -/
namespace Go.Proofs.YtflgboncpbmikaaGreatDoor
set_option linter.unusedVariables false
set_option linter.unusedSimpArgs false
open Go Go.VC
variable {R:Cx} {Hs Rest:List HP} {w:World}
theorem map_rule {K:Nat→World→Prop} (hw:Sat R Hs w) (k:∀ m w',Sat R (MapAt (α:=Int) m []::Hs) w'→K m w'):New (.map #[] 0) K w:=
 new_rule hw fun m w hw=>k m w (MapAt.new rfl hw)
theorem zer_rule {n:Nat} {K:Sl→World→Prop} (hn:n≤1000) (hw:Sat R Hs w) (k:∀ s w',Sat R (Own s 3 (intsI (List.replicate n 0))::Hs) w'→K s w'):
  ∃ w',∃ t:Sl,(Instr.makeSlice 68 (.int .i64 (n:Int)) (.int .i64 (n:Int))).run Tryz.prog w=.ok (.slice t.a t.len t.cap) w'∧K t w':=
 make_rule (bytes:=8) (z:=.int .i64 0) Tryz.underlying68 (by kernel_rfl) Tryz.zeroValue3 rfl (by omega) (by omega) hw fun s w hw=>k s w (by
  rw [show intsI (List.replicate n 0)=List.replicate n (.int .i64 0) by simp [intsI]];exact hw)
def emptyF (num rows:Int) (grps lims:List Int):PF:=⟨num,rows,grps,lims,List.replicate lims.length 0,[],[]⟩
theorem empty_spec {num rows:Int} {sg sl:Sl} {grps lims:List Int} (hl:lims.length≤1000) (hw:Sat R (Reads sg (intsI grps)::Reads sl (intsI lims)::Hs) w):
  Gets Tryz.prog 103 #[.int .i64 num,.agg #[.int .i64 rows,.slice sg.a sg.len sg.cap],.slice sl.a sl.len sl.cap] w fun v w'=>∃ p,v=.pointer (some ⟨p,0,none⟩)∧Sat R (FlightAt p (emptyF num rows grps lims)::Hs) w':=by
 have hlen:sl.len=lims.length:=by
  obtain ⟨_,_,h,_⟩:=Reads.out hw.swap
  have:=h.len
  rw [List.length_map] at this;exact this
 apply call103
 refine new_rule hw fun b4 w hw=>?_
 have hw:Sat R (pts b4 (layC rows sg)::Reads sg (intsI grps)::Reads sl (intsI lims)::Hs) w:=hw
 refine drw_rule hw fun w hw=>?_
 rw [hlen]
 have fin:∀ {hm om:Nat} {ss:Sl} {w:World} (_:Sat R (MapAt (α:=Int) om []::MapAt (α:=Int) hm []::Own ss 3 (intsI (List.replicate lims.length 0))::pts b4 (layC rows sg)::Reads sg (intsI grps)::Reads sl (intsI lims)::Hs) w),
   New (.cells #[.int .i64 num,.int .i64 rows,.slice sg.a sg.len sg.cap,.slice sl.a lims.length sl.cap,.slice ss.a ss.len ss.cap,.map (some hm),.map (some om)] 165 (0,0))
    (fun p w=>Sat R (pts b4 (layC rows sg)::Reads sg (intsI grps)::Reads sl (intsI lims)::Hs) w∧∃ p',Value.pointer (some ⟨p,0,none⟩)=.pointer (some ⟨p',0,none⟩)∧Sat R (FlightAt p' (emptyF num rows grps lims)::Hs) w) w:=fun {hm om ss w} hw=>by
  refine new_rule hw fun p w hw=>⟨hw.drop.drop.drop.drop,p,rfl,?_⟩
  refine Sat.flight.2 ⟨hm,om,sg,sl,ss,[],rfl,?_⟩
  have ec:(Obj.cells #[.int .i64 num,.int .i64 rows,.slice sg.a sg.len sg.cap,.slice sl.a lims.length sl.cap,.slice ss.a ss.len ss.cap,.map (some hm),.map (some om)] 165 (0,0))=fCells (emptyF num rows grps lims) sg sl ss hm om:=by rw [←hlen];rfl
  rw [ec] at hw
  have hw:=(hw.take (pts b4 (layC rows sg))).drop
  have hw:=hw.take (Own ss 3 (intsI (List.replicate lims.length 0)))
  have hw:Sat R (Reads ss (intsI (List.replicate lims.length 0))::pts p (fCells (emptyF num rows grps lims) sg sl ss hm om)::MapAt (α:=Int) om []::MapAt (α:=Int) hm []::Reads sg (intsI grps)::Reads sl (intsI lims)::Hs) w:=Own.reads hw
  have h2:Sat R (HoldsAt []::Reads ss (intsI (List.replicate lims.length 0))::pts p (fCells (emptyF num rows grps lims) sg sl ss hm om)::MapAt (α:=Int) om []::MapAt (α:=Int) hm []::Reads sg (intsI grps)::Reads sl (intsI lims)::Hs) w:=Sat.star.2 hw
  have h3:=(((((((h2.take (HoldsAt [])).take (MapAt (α:=Int) om [])).take (MapAt (α:=Int) hm [])).take (pts p (fCells (emptyF num rows grps lims) sg sl ss hm om))).take (Reads ss (intsI (List.replicate lims.length 0)))).take (Reads sl (intsI lims))).take (Reads sg (intsI grps)))
  exact h3
 refine ⟨rows,sg,At.own selfS (by exact ⟨rfl,rfl,trivial⟩),?_,?_,?_⟩
 ·refine zer_rule hl hw fun ss w hw=>⟨hw.drop,?_,?_⟩
  ·refine map_rule hw fun hm w hw=>⟨hw.drop.drop,map_rule hw fun om w hw=>⟨hw.drop.drop.drop,fin hw⟩⟩
  ·refine map_rule hw fun om w hw=>⟨hw.drop.drop,map_rule hw fun hm w hw=>⟨hw.drop.drop.drop,fin hw.swap⟩⟩
 ·refine map_rule hw fun hm w hw=>⟨hw.drop,?_,?_⟩
  ·refine zer_rule hl hw fun ss w hw=>⟨hw.drop.drop,map_rule hw fun om w hw=>⟨hw.drop.drop.drop,fin ((hw.take (MapAt (α:=Int) hm [])).take (MapAt (α:=Int) om []))⟩⟩
  ·refine map_rule hw fun om w hw=>⟨hw.drop.drop,zer_rule hl hw fun ss w hw=>⟨hw.drop.drop.drop,fin ((hw.take (MapAt (α:=Int) hm [])).take (MapAt (α:=Int) om []))⟩⟩
 ·refine map_rule hw fun om w hw=>⟨hw.drop,?_,?_⟩
  ·refine zer_rule hl hw fun ss w hw=>⟨hw.drop.drop,map_rule hw fun hm w hw=>⟨hw.drop.drop.drop,fin ((hw.take (MapAt (α:=Int) hm [])).take (MapAt (α:=Int) om []))⟩⟩
  ·refine map_rule hw fun hm w hw=>⟨hw.drop.drop,zer_rule hl hw fun ss w hw=>⟨hw.drop.drop.drop,fin ((hw.take (MapAt (α:=Int) hm [])).take (MapAt (α:=Int) om []))⟩⟩
end Go.Proofs.YtflgboncpbmikaaGreatDoor
/- A flight: New, Take. Condition: bounds on lengths. -/
namespace Go.Proofs.YtflgboncpbmikaaGreatDoor
set_option linter.unusedVariables false
set_option linter.unusedSimpArgs false
open Go Go.VC
variable {R:Cx} {Hs Rest:List HP} {w:World}
def newOk (num rows:Int) (grps:List Int) (parts:List Nat):Prop:=1≤num∧num≤9999∧layOk rows grps=true∧(limitsT (layN rows grps) parts).2=0
theorem limits_len {s:Int} {parts:List Nat}:(limitsT s parts).1.length≤8:=by
 unfold limitsT
 split
 ·simp
 ·simp only [List.length_cons,limGo_len,List.length_tail];omega
theorem fnew_spec' {num rows:Int} {sg sp:Sl} {grps:List Int} {parts:List Nat} (hg:RoI R sg grps) (hp:SlR R.m sp (flts parts)) (hw:Sat R Hs w):
  Gets Tryz.prog 74 #[.int .i64 num,.agg #[.int .i64 rows,.slice sg.a sg.len sg.cap],.slice sp.a sp.len sp.cap] w fun v w'=>
   (¬ newOk num rows grps parts∧v=.tuple #[.pointer none,.int .i64 1]∧Sat R Hs w')∨
   (newOk num rows grps parts∧∃ p,v=.tuple #[.pointer (some ⟨p,0,none⟩),.int .i64 0]∧Sat R (FlightAt p (emptyF num rows grps (limitsT (layN rows grps) parts).1)::Hs) w'):=by
 apply call74
 refine new_rule hw fun b4 w hw=>?_
 have hw:Sat R (pts b4 (layC rows sg)::Hs) w:=hw
 refine ⟨rows,sg,At.own (eqS hw) (by exact ⟨rfl,rfl,trivial⟩),?_⟩
 refine (count_spec hg hw).use ?_
 rintro _ w ⟨rfl,hw⟩
 refine ⟨_,rfl,?_⟩
 refine (limits_spec hp hw).use ?_
 rintro _ w ⟨t,rfl,hw⟩
 have bad:¬ newOk num rows grps parts→∀ {w},Sat R (Own t 3 (intsI (limitsT (layN rows grps) parts).1)::pts b4 (layC rows sg)::Hs) w→(¬ newOk num rows grps parts∧Value.tuple #[.pointer none,.int .i64 1]=.tuple #[.pointer none,.int .i64 1]∧Sat R Hs w)∨
   (newOk num rows grps parts∧∃ p,Value.tuple #[.pointer none,.int .i64 1]=.tuple #[.pointer (some ⟨p,0,none⟩),.int .i64 0]∧Sat R (FlightAt p (emptyF num rows grps (limitsT (layN rows grps) parts).1)::Hs) w):=fun h w hw=>.inl ⟨h,rfl,hw.drop.drop⟩
 refine ⟨_,_,rfl,Br.d (fun h=>bad (fun h2=>by have:=h2.1;omega) hw) (fun h1=>Br.d (fun h=>bad (fun h2=>by have:=h2.2.1;omega) hw) (fun h2=>?_))⟩
 refine ⟨rows,sg,At.own (eqS hw) (by exact ⟨rfl,rfl,trivial⟩),?_⟩
 refine (right_spec hg hw).use ?_
 rintro _ w ⟨rfl,hw⟩
 refine ⟨_,rfl,Br.nb (fun h=>bad (fun h2=>by have h5:=h2.2.2.1;rw [h] at h5;cases h5) hw) (fun h3=>Br.ne (fun h=>bad (fun h2=>h h2.2.2.2) hw) (fun h4=>?_))⟩
 refine ⟨sg,At.own (eqS hw) (by exact ⟨rfl,trivial⟩),?_⟩
 obtain ⟨l1,_,_⟩:=layOk_iff.1 h3
 refine (cloneI_spec hg (by omega) hw).use ?_
 rintro _ w ⟨tg,rfl,hw⟩
 refine ⟨tg,rfl,?_⟩
 refine store_rule hw (by kernel_rfl) rfl (by simp [Value.cells]) fun w hw=>?_
 have hw:Sat R (pts b4 (layC rows tg)::Own tg 3 (intsI grps)::Own t 3 (intsI (limitsT (layN rows grps) parts).1)::Hs) w:=hw
 refine ⟨rows,tg,At.own (eqS hw) (by exact ⟨rfl,rfl,trivial⟩),?_⟩
 have hw:Sat R (Reads tg (intsI grps)::Reads t (intsI (limitsT (layN rows grps) parts).1)::Hs) w:=Sat.cons (fun _ h=>Own.reads h) (Own.reads hw.drop)
 refine (empty_spec (by have:=limits_len (s:=layN rows grps) (parts:=parts);omega) hw).use ?_
 rintro _ w ⟨p,rfl,hw⟩
 exact ⟨_,rfl,.inr ⟨⟨by omega,by omega,h3,h4⟩,p,rfl,hw⟩⟩
def takeF (f:PF) (owner cls many:Int):PF × Int:=
 if owner<1∨owner>28629151 then (f,1) else if (getM owner f.hs).isSome then (f,7)
 else if (sellT f.lims f.sold cls many).2=0 then ({ f with sold:=(sellT f.lims f.sold cls many).1,hs:=f.hs++[(owner,⟨owner,cls,many,[]⟩)] },0) else (f,(sellT f.lims f.sold cls many).2)
theorem take_fspec {p:Nat} {f:PF} {owner cls many:Int} (hl:f.lims.length≤1000) (hs:f.sold.length≤1000) (hw:Sat R (FlightAt p f::Hs) w):
  Gets Tryz.prog 79 #[.pointer (some ⟨p,0,none⟩),.int .i64 owner,.int .i64 cls,.int .i64 many] w fun v w'=>v=.int .i64 (takeF f owner cls many).2∧Sat R (FlightAt p (takeF f owner cls many).1::Hs) w':=by
 obtain ⟨hm,om,sg,sl,ss,E,R',hE,_,_,rl,rs,hw,back⟩:=Sat.flightO hw
 have same:∀ {w},Sat R' (FO p hm om sg sl ss E f Hs) w→Sat R (FlightAt p f::Hs) w:=fun hw=>Sat.flightC hE (back _ _ hw)
 have eget:(getM owner f.hs).isSome=(getM owner E).isSome:=by rw [←hE,hEr_get,Option.isSome_map]
 apply call79
 refine NilP.mk rfl ⟨some hm,At.own (eqS hw) (by exact ⟨rfl,trivial⟩),(getM owner E).map (fun x=>⟨x.1,0,none⟩),(getM owner E).isSome,fun w' e=>by rw [show w'=w from e];exact hold_look (hw.take (MapAt hm (hPtrs E))) owner true,?_⟩
 refine ⟨fun w=>(1≤owner∧owner≤28629151∧(getM owner E).isSome=false)∧Sat R' (FO p hm om sg sl ss E f Hs) w,?_,?_⟩
 ·refine Br.d (fun h=>?_) (fun h1=>Br.d (fun h=>?_) (fun h2=>Br.mk (fun h=>?_) (fun h=>⟨⟨by omega,by omega,h⟩,hw⟩)))
  ·rw [show takeF f owner cls many=(f,1) by unfold takeF;rw [if_pos (.inl h)]];exact ⟨rfl,same hw⟩
  ·rw [show takeF f owner cls many=(f,1) by unfold takeF;rw [if_pos (.inr h)]];exact ⟨rfl,same hw⟩
  ·rw [show takeF f owner cls many=(f,7) by unfold takeF;rw [if_neg (by omega),if_pos (by rw [eget];exact h)]];exact ⟨rfl,same hw⟩
 clear hw
 rintro _ w ⟨⟨h1,h2,h3⟩,hw⟩
 have e:takeF f owner cls many=if (sellT f.lims f.sold cls many).2=0 then ({ f with sold:=(sellT f.lims f.sold cls many).1,hs:=f.hs++[(owner,⟨owner,cls,many,[]⟩)] },0) else (f,(sellT f.lims f.sold cls many).2):=by
  unfold takeF;rw [if_neg (by omega),if_neg (by rw [eget,h3];simp)]
 rw [e]
 refine drw_rule hw fun w hw=>?_
 refine NilP.mk rfl ⟨sl,At.own selfS (by exact ⟨rfl,trivial⟩),NilP.mk rfl ⟨ss,At.own selfS (by exact ⟨rfl,trivial⟩),?_⟩⟩
 refine (sell_spec (rl.ro (by rw [List.length_map];omega)) (rs.ro (by rw [List.length_map];omega)) hw).use ?_
 rintro _ w ⟨t,rfl,hw⟩
 refine ⟨_,_,rfl,Br.e (fun h4=>?_) (fun h4=>?_)⟩
 ·rw [if_pos h4,h4]
  refine NilP.mk rfl ?_
  refine store_rule hw (by kernel_rfl) rfl (by simp [Value.cells]) fun w hw=>?_
  have hw:Sat R' (pts p (fCells f sg sl t hm om)::Own t 3 (intsI (sellT f.lims f.sold cls many).1)::MapAt hm (hPtrs E)::MapAt om (oVals f.own)::HoldsAt E::Hs) w:=hw
  refine NilP.mk rfl ⟨some hm,At.own (eqS hw) (by exact ⟨rfl,trivial⟩),?_⟩
  refine new_rule hw fun b w hw=>?_
  have hw:Sat R' (pts b (hCells ⟨owner,cls,many,[]⟩ ⟨none,0,0⟩)::pts p (fCells f sg sl t hm om)::Own t 3 (intsI (sellT f.lims f.sold cls many).1)::MapAt hm (hPtrs E)::MapAt om (oVals f.own)::HoldsAt E::Hs) w:=hw
  refine MapAt.put hMap (hw.take (MapAt hm (hPtrs E))) owner (.pointer (some ⟨b,0,none⟩)) fun w hw=>⟨rfl,?_⟩
  have ep:putM owner (Value.pointer (some ⟨b,0,none⟩)) (hPtrs E)=hPtrs (E++[(owner,b,⟨owner,cls,many,[]⟩)]):=by
   unfold putM
   rw [hPtrs_get,Option.isSome_map,h3]
   simp [hPtrs]
  rw [ep] at hw
  have hw:=hw.take (HoldsAt E)
  have hw:=hw.take (pts b (hCells ⟨owner,cls,many,[]⟩ ⟨none,0,0⟩))
  have hw:=(Sat.hold (b:=b) (h:=⟨owner,cls,many,[]⟩)).2 ⟨⟨none,0,0⟩,hw.cons fun _ h=>Own.nil (T:=3) h⟩
  rw [←List.append_nil E] at hw
  have hw:=(Sat.holds (e:=((owner,b,⟨owner,cls,many,[]⟩):HE)) (a:=E) (b:=[])).2 hw
  rw [List.append_nil] at hw
  have hw:=hw.take (Own t 3 (intsI (sellT f.lims f.sold cls many).1))
  have hw:=back _ _ (Own.reads hw)
  refine Sat.flight.2 ⟨hm,om,sg,sl,t,E++[(owner,b,⟨owner,cls,many,[]⟩)],by rw [←hE];simp [hEr],?_⟩
  have hw:=(hw.take (Reads ss (intsI f.sold))).drop
  exact (((((hw.take (HoldsAt (E++[(owner,b,⟨owner,cls,many,[]⟩)]))).take (MapAt om (oVals f.own))).take (MapAt hm (hPtrs (E++[(owner,b,⟨owner,cls,many,[]⟩)])))).take (pts p (fCells f sg sl t hm om))).take (Reads t (intsI (sellT f.lims f.sold cls many).1))).take (Reads sl (intsI f.lims))|>.take (Reads sg (intsI f.grps))
 ·rw [if_neg h4];exact ⟨rfl,same hw.drop⟩
end Go.Proofs.YtflgboncpbmikaaGreatDoor
/- A flight: Seat, Labels. Condition: bounds on lengths. -/
namespace Go.Proofs.YtflgboncpbmikaaGreatDoor
set_option linter.unusedVariables false
set_option linter.unusedSimpArgs false
open Go Go.VC
variable {R:Cx} {Hs Rest:List HP} {w:World}
abbrev FO1 (p hm om b:Nat) (sg sl ss s:Sl) (E Er:List HE) (f:PF) (h:Hold) (own:List (Int × Int)) (Hs:List HP):List HP:=
 pts b (hCells h s)::Own s 3 (intsI h.seats)::HoldsAt Er::pts p (fCells f sg sl ss hm om)::MapAt hm (hPtrs E)::MapAt om (oVals own)::Hs
theorem FO.open {p hm om b:Nat} {sg sl ss:Sl} {a c:List HE} {k:Int} {h:Hold} {f:PF} (hw:Sat R (FO p hm om sg sl ss (a++(k,b,h)::c) f Hs) w):∃ s,Sat R (FO1 p hm om b sg sl ss s (a++(k,b,h)::c) (a++c) f h f.own Hs) w:=
 Sat.hold.1 (Sat.holds.1 (hw.take (HoldsAt (a++(k,b,h)::c))))
theorem FO.close {p hm om b:Nat} {sg sl ss s:Sl} {a c:List HE} {k:Int} {h h':Hold} {f:PF} {own:List (Int × Int)} (hw:Sat R (FO1 p hm om b sg sl ss s (a++(k,b,h)::c) (a++c) f h' own Hs) w):
  Sat R (FO p hm om sg sl ss (a++(k,b,h')::c) { f with own:=own } Hs) w:=by
 have hw:=(Sat.hold (b:=b) (h:=h')).2 ⟨s,hw⟩
 have hw:=(Sat.holds (e:=((k,b,h'):HE)) (a:=a) (b:=c)).2 hw
 have e:hPtrs (a++(k,b,h')::c)=hPtrs (a++(k,b,h)::c):=by simp [hPtrs]
 show Sat R (pts p (fCells f sg sl ss hm om)::MapAt hm (hPtrs (a++(k,b,h')::c))::MapAt om (oVals own)::HoldsAt (a++(k,b,h')::c)::Hs) w
 rw [e]
 exact ((hw.take (MapAt om (oVals own))).take (MapAt hm (hPtrs (a++(k,b,h)::c)))).take (pts p (fCells f sg sl ss hm om))
theorem both_spec {p hm om:Nat} {sg sl ss:Sl} {E:List HE} {f:PF} {owner:Int} {lab:ByteArray} (hg:RoI R sg f.grps) (hsz:lab.size≤9223372036854775807) (hw:Sat R (FO p hm om sg sl ss E f Hs) w):
  Gets Tryz.prog 116 #[.pointer (some ⟨p,0,none⟩),.int .i64 owner,.string lab] w fun v w'=>
   v=.tuple #[.pointer ((getM owner E).map fun x=>⟨x.1,0,none⟩),.int .i64 (findT f.rows f.grps lab).1,.bool ((getM owner E).isSome && (findT f.rows f.grps lab).2==0)]∧Sat R (FO p hm om sg sl ss E f Hs) w':=by
 apply call116
 refine NilP.mk rfl ⟨some hm,At.own (eqS hw) (by exact ⟨rfl,trivial⟩),(getM owner E).map (fun x=>⟨x.1,0,none⟩),(getM owner E).isSome,fun w' e=>by rw [show w'=w from e];exact hold_look (hw.take (MapAt hm (hPtrs E))) owner true,?_⟩
 refine NilP.mk rfl ⟨f.rows,sg,At.own (eqS hw) (by exact ⟨rfl,rfl,trivial⟩),?_⟩
 refine (find_spec hg hsz hw).use ?_
 rintro _ w ⟨rfl,hw⟩
 refine ⟨_,_,rfl,Br.mk (fun h=>⟨?_,hw⟩) (fun h=>⟨?_,hw⟩)⟩
 ·rw [h];rfl
 ·rw [h];rfl
def seatF (f:PF) (owner:Int) (lab:ByteArray):PF × Int:=
 match getM owner f.hs with
 |none=>(f,2)
 |some h=>if (findT f.rows f.grps lab).2≠0 then (f,2) else if (h.seats.length:Int) ≥ h.many then (f,7)
  else if (getM (findT f.rows f.grps lab).1 f.own).isSome then (f,3)
  else ({ f with hs:=setM owner (h.put (findT f.rows f.grps lab).1) f.hs,own:=putM (findT f.rows f.grps lab).1 h.owner f.own },0)
theorem hEr_app (a:List HE) (k:Int) (b:Nat) (h:Hold) (c:List HE):hEr (a++(k,b,h)::c)=hEr a++(k,h)::hEr c:=by simp [hEr]
theorem int_rfl (k:Int):(k==k)=true:=beq_self_eq_true k
theorem seat_fspec {p:Nat} {f:PF} {owner:Int} {lab:ByteArray} (hgl:f.grps.length≤1000) (hsz:lab.size≤9223372036854775807) (hR:∀ e∈f.hs,Rise e.2.seats∧e.2.seats.length≤1000000) (hw:Sat R (FlightAt p f::Hs) w):
  Gets Tryz.prog 86 #[.pointer (some ⟨p,0,none⟩),.int .i64 owner,.string lab] w fun v w'=>v=.int .i64 (seatF f owner lab).2∧Sat R (FlightAt p (seatF f owner lab).1::Hs) w':=by
 obtain ⟨hm,om,sg,sl,ss,E,R',hE,_,rg,_,_,hw,back⟩:=Sat.flightO hw
 have same:∀ {w},Sat R' (FO p hm om sg sl ss E f Hs) w→Sat R (FlightAt p f::Hs) w:=fun hw=>Sat.flightC hE (back _ _ hw)
 apply call86
 refine (both_spec (rg.ro (by rw [List.length_map];omega)) hsz hw).use ?_
 clear hw
 rintro _ w ⟨rfl,hw⟩
 refine ⟨_,_,_,rfl,NilP.mk rfl ⟨some om,At.own (eqS hw) (by exact ⟨rfl,trivial⟩),(getM (findT f.rows f.grps lab).1 f.own).getD 0,(getM (findT f.rows f.grps lab).1 f.own).isSome,fun w' e=>by rw [show w'=w from e];exact own_look (hw.take (MapAt om (oVals f.own))) _ true,?_⟩⟩
 cases hget:getM owner E with
 |none=>
  have e:seatF f owner lab=(f,2):=by unfold seatF;rw [←hE,hEr_get,hget];rfl
  rw [e]
  exact Br.t rfl ⟨rfl,same hw⟩
 |some x=>
  obtain ⟨b,h⟩:=x
  have hgf:getM owner f.hs=some h:=by rw [←hE,hEr_get,hget];rfl
  obtain ⟨a,c,rfl,hna⟩:=getM_split hget
  obtain ⟨hr,hl⟩:=hR (owner,h) (by rw [←hE,hEr_app];simp)
  by_cases h2:(findT f.rows f.grps lab).2=0
  ·refine Br.f (by rw [h2];rfl) ?_
   obtain ⟨s,hw⟩:=FO.open hw
   have hsl:=Own.len (hw.take (Own s 3 (intsI h.seats)))
   rw [List.length_map] at hsl
   refine drw_rule hw fun w hw=>?_
   refine NilP.mk rfl ⟨s,At.own selfS (by exact ⟨rfl,trivial⟩),NilP.mk rfl ⟨h.many,At.own selfS (by exact ⟨rfl,trivial⟩),?_⟩⟩
   refine Br.d (fun h3=>?_) (fun h3=>?_)
   ·have e:seatF f owner lab=(f,7):=by unfold seatF;rw [hgf];dsimp only;rw [if_neg (by rw [h2];simp),if_pos (by omega)]
    rw [e];exact ⟨rfl,same (FO.close hw)⟩
   ·refine Br.mk (fun h4=>?_) (fun h4=>?_)
    ·have e:seatF f owner lab=(f,3):=by unfold seatF;rw [hgf];dsimp only;rw [if_neg (by rw [h2];simp),if_neg (by omega),if_pos h4]
     rw [e];exact ⟨rfl,same (FO.close hw)⟩
    ·have e:seatF f owner lab=({ f with hs:=setM owner (h.put (findT f.rows f.grps lab).1) f.hs,own:=putM (findT f.rows f.grps lab).1 h.owner f.own },0):=by
      unfold seatF;rw [hgf];dsimp only;rw [if_neg (by rw [h2];simp),if_neg (by omega),if_neg (by rw [h4];simp)]
     rw [e]
     have hw:Sat R' (FO p hm om sg sl ss (a++(owner,b,h)::c) f Hs) w:=FO.close hw
     refine (tell_spec hr (by omega) hw).use ?_
     rintro _ w ⟨rfl,hw⟩
     refine ⟨rfl,rfl,?_⟩
     refine Sat.flight.2 ⟨hm,om,sg,sl,ss,a++(owner,b,h.put (findT f.rows f.grps lab).1)::c,?_,back _ _ hw⟩
     show _=setM owner _ f.hs
     rw [←hE,hEr_app,hEr_app,setM_app (by rw [hEr_get,hna];rfl) (int_rfl owner)]
  ·have e:seatF f owner lab=(f,2):=by unfold seatF;rw [hgf];dsimp only;rw [if_pos h2]
   rw [e]
   exact Br.t (by simp [h2]) ⟨rfl,same hw⟩
end Go.Proofs.YtflgboncpbmikaaGreatDoor
/- A flight: Labels, Unseat. Condition: bounds on lengths. -/
namespace Go.Proofs.YtflgboncpbmikaaGreatDoor
set_option linter.unusedVariables false
set_option linter.unusedSimpArgs false
open Go Go.VC
variable {R:Cx} {Hs Rest:List HP} {w:World}
def labelsF (f:PF) (owner:Int):List ByteArray:=match getM owner f.hs with|none=>[]|some h=>labsF f.rows f.grps h.seats
theorem labels_fspec {p:Nat} {f:PF} {owner:Int} (hgl:f.grps.length≤1000) (hR:∀ e∈f.hs,e.2.seats.length≤1000000) (hw:Sat R (FlightAt p f::Hs) w):
  Gets Tryz.prog 113 #[.pointer (some ⟨p,0,none⟩),.int .i64 owner] w fun v w'=>∃ t:Sl,v=.slice t.a t.len t.cap∧Sat R (Own t 9 ((labelsF f owner).map Value.string)::FlightAt p f::Hs) w':=by
 obtain ⟨hm,om,sg,sl,ss,E,R',hE,_,rg,_,_,hw,back⟩:=Sat.flightO hw
 apply call113
 refine NilP.mk rfl ⟨some hm,At.own (eqS hw) (by exact ⟨rfl,trivial⟩),(getM owner E).map (fun x=>⟨x.1,0,none⟩),(getM owner E).isSome,fun w' e=>by rw [show w'=w from e];exact hold_look (hw.take (MapAt hm (hPtrs E))) owner true,?_⟩
 cases hget:getM owner E with
 |none=>
  have e:labelsF f owner=[]:=by unfold labelsF;rw [←hE,hEr_get,hget];rfl
  rw [e]
  exact Br.t rfl ⟨⟨none,0,0⟩,rfl,Own.nil (Sat.flightC hE (back _ _ hw))⟩
 |some x=>
  obtain ⟨b,h⟩:=x
  have hgf:getM owner f.hs=some h:=by rw [←hE,hEr_get,hget];rfl
  have e:labelsF f owner=labsF f.rows f.grps h.seats:=by unfold labelsF;rw [hgf]
  rw [e]
  obtain ⟨a,c,rfl,hna⟩:=getM_split hget
  have hl:h.seats.length≤1000000:=hR (owner,h) (by rw [←hE,hEr_app];simp)
  refine Br.f rfl (NilP.mk rfl ?_)
  obtain ⟨s,hw⟩:=FO.open hw
  refine ⟨s,At.own (eqS hw) (by exact ⟨rfl,trivial⟩),?_⟩
  obtain ⟨R2,hro,hmono,hw2,back2⟩:=Own.lend (hw.take (Own s 3 (intsI h.seats))) (by rw [List.length_map];omega)
  refine (labels_spec (f:=f) (hm:=hm) (om:=om) (sg:=sg) (sl:=sl) (ss:=ss) (hmono _ _ (rg.ro (by rw [List.length_map];omega))) hro hl hw2).use ?_
  clear hw hw2
  rintro _ w ⟨t,rfl,hw⟩
  refine ⟨t,rfl,t,rfl,?_⟩
  have hw:=(back2 hw).swap
  have hw:=back _ _ (Sat.cons (fun _ h5=>FO.close (f:=f) (h5.take (pts b (hCells h s)))) hw)
  exact Sat.cons (fun _ h5=>Sat.flightC hE h5) (hw.take (Own t 9 ((labsF f.rows f.grps h.seats).map Value.string)))
end Go.Proofs.YtflgboncpbmikaaGreatDoor
/- A flight: Left, Give. Condition: bounds on lengths. -/
namespace Go.Proofs.YtflgboncpbmikaaGreatDoor
set_option linter.unusedVariables false
set_option linter.unusedSimpArgs false
open Go Go.VC
variable {R:Cx} {Hs Rest:List HP} {w:World}
def leftsF (f:PF):List Int:=(List.range f.lims.length).map fun (k:Nat)=>(leftT f.lims f.sold k).1
def leftsTo (f:PF) (j:Nat):List Int:=(List.range f.lims.length).map fun (k:Nat)=>if k<j then (leftT f.lims f.sold k).1 else 0
theorem leftsTo_set (f:PF) {j:Nat} (h:j<f.lims.length):(leftsTo f j).set j (leftT f.lims f.sold j).1=leftsTo f (j + 1):=by
 apply List.ext_getElem
 ·simp [leftsTo]
 ·intro i h1 h2
  simp only [leftsTo,List.length_set,List.length_map,List.length_range] at h1 h2
  rw [List.getElem_set]
  simp only [leftsTo,List.getElem_map,List.getElem_range]
  split
  ·rename_i h3;subst h3;rw [if_pos (by omega)]
  ·by_cases h4:i<j
   ·rw [if_pos h4,if_pos (by omega)]
   ·rw [if_neg h4,if_neg (by omega)]
theorem left_fspec {p:Nat} {f:PF} (hl:f.lims.length≤1000) (hs:f.sold.length≤1000) (hw:Sat R (FlightAt p f::Hs) w):
  Gets Tryz.prog 77 #[.pointer (some ⟨p,0,none⟩)] w fun v w'=>∃ t:Sl,v=.slice t.a t.len t.cap∧Sat R (Own t 3 (intsI (leftsF f))::FlightAt p f::Hs) w':=by
 obtain ⟨hm,om,sg,sl,ss,E,R',hE,_,_,rl,rs,hw,back⟩:=Sat.flightO hw
 have hsl:sl.len=f.lims.length:=by have:=rl.len;rw [List.length_map] at this;exact this
 apply call77
 refine NilP.mk rfl ⟨sl,At.own (eqS hw) (by exact ⟨rfl,trivial⟩),?_⟩
 rw [hsl]
 refine zer_rule hl hw fun t w hw=>?_
 have e0:List.replicate f.lims.length (0:Int)=leftsTo f 0:=by
  apply List.ext_getElem
  ·simp [leftsTo]
  ·intro i h1 h2;simp [leftsTo]
 rw [e0] at hw
 refine ⟨fun i w=>∃ j:Nat,i=j∧j≤f.lims.length∧Sat R' (Own t 3 (intsI (leftsTo f j))::FO p hm om sg sl ss E f Hs) w,fun i _=>f.lims.length - i.toNat,⟨0,rfl,by omega,hw⟩,?_⟩
 clear hw
 rintro _ _ w ⟨j,rfl,hj,hw⟩
 have htl:=Own.len hw
 simp only [leftsTo,List.length_map,List.length_range] at htl
 refine Br.d (fun h=>?_) (fun h=>?_)
 ·have hj2:j<f.lims.length:=by omega
  refine drw_rule hw fun w hw=>?_
  refine NilP.mk rfl ⟨sl,At.own selfS (by exact ⟨rfl,trivial⟩),NilP.mk rfl ⟨ss,At.own selfS (by exact ⟨rfl,trivial⟩),?_⟩⟩
  refine (left_spec (rl.ro (by rw [List.length_map];omega)) (rs.ro (by rw [List.length_map];omega)) hw).use ?_
  rintro _ w ⟨rfl,hw⟩
  refine ⟨_,_,rfl,?_⟩
  refine Own.store (by kernel_rfl) hw (by simp [leftsTo];exact hj2) fun w hw=>?_
  rw [leftsTo_set f hj2] at hw
  rw [wrap64 (by omega) (by omega)]
  exact ⟨⟨j + 1,by omega,by omega,hw⟩,by dsimp only;omega⟩
 ·obtain rfl:j=f.lims.length:=by omega
  have e1:leftsTo f f.lims.length=leftsF f:=by
   unfold leftsTo leftsF
   refine List.map_congr_left fun k hk=>?_
   rw [if_pos (List.mem_range.1 hk)]
  rw [e1] at hw
  refine ⟨t,rfl,?_⟩
  have hw:=back _ _ hw
  exact Sat.cons (fun _ h5=>Sat.flightC hE h5) (hw.take (Own t 3 (intsI (leftsF f))))
def delAll (l:List Int) (own:List (Int × Int)):List (Int × Int):=l.foldl (fun o n=>delM n o) own
def giveF (f:PF) (owner:Int):PF × Int:=
 match getM owner f.hs with
 |none=>(f,2)
 |some h=>({ f with own:=delAll h.seats f.own,sold:=(backT f.lims f.sold h.cls h.many).1,hs:=delM owner f.hs },0)
theorem give_fspec {p:Nat} {f:PF} {owner:Int} (hll:f.lims.length≤1000) (hls:f.sold.length≤1000) (hR:∀ e∈f.hs,e.2.seats.length≤1000000) (hw:Sat R (FlightAt p f::Hs) w):
  Gets Tryz.prog 83 #[.pointer (some ⟨p,0,none⟩),.int .i64 owner] w fun v w'=>v=.int .i64 (giveF f owner).2∧Sat R (FlightAt p (giveF f owner).1::Hs) w':=by
 obtain ⟨hm,om,sg,sl,ss,E,R',hE,_,_,rl,rs,hw,back⟩:=Sat.flightO hw
 apply call83
 refine NilP.mk rfl ⟨some hm,At.own (eqS hw) (by exact ⟨rfl,trivial⟩),(getM owner E).map (fun x=>⟨x.1,0,none⟩),(getM owner E).isSome,fun w' e=>by rw [show w'=w from e];exact hold_look (hw.take (MapAt hm (hPtrs E))) owner true,?_⟩
 cases hget:getM owner E with
 |none=>
  have e:giveF f owner=(f,2):=by unfold giveF;rw [←hE,hEr_get,hget];rfl
  rw [e]
  exact Br.t rfl ⟨rfl,Sat.flightC hE (back _ _ hw)⟩
 |some x=>
  obtain ⟨b,h⟩:=x
  have hgf:getM owner f.hs=some h:=by rw [←hE,hEr_get,hget];rfl
  have e:giveF f owner=({ f with own:=delAll h.seats f.own,sold:=(backT f.lims f.sold h.cls h.many).1,hs:=delM owner f.hs },0):=by unfold giveF;rw [hgf]
  rw [e]
  obtain ⟨a,c,rfl,hna⟩:=getM_split hget
  have hl:h.seats.length≤1000000:=hR (owner,h) (by rw [←hE,hEr_app];simp)
  refine Br.f rfl (NilP.mk rfl ?_)
  obtain ⟨s,hw⟩:=FO.open hw
  have hsl:=Own.len (hw.take (Own s 3 (intsI h.seats)))
  rw [List.length_map] at hsl
  refine ⟨s,At.own (eqS hw) (by exact ⟨rfl,trivial⟩),?_⟩
  refine ⟨fun i w=>∃ j:Nat,i=j∧j≤h.seats.length∧Sat R' (FO1 p hm om b sg sl ss s (a++(owner,b,h)::c) (a++c) f h (delAll (h.seats.take j) f.own) Hs) w,fun i _=>h.seats.length - i.toNat,⟨0,rfl,by omega,hw⟩,?_⟩
  clear hw
  rintro _ _ w ⟨j,rfl,hj,hw⟩
  refine Br.d (fun h2=>?_) (fun h2=>?_)
  ·have hj2:j<h.seats.length:=by omega
   refine Own.ix (hw.take (Own s 3 (intsI h.seats))) (eqS (hw.take (Own s 3 (intsI h.seats)))) j rfl hj2 ?_
   refine NilP.mk rfl ⟨some om,At.own (eqS hw) (by exact ⟨rfl,trivial⟩),?_⟩
   refine MapAt.del oMap (hw.take (MapAt om (oVals (delAll (h.seats.take j) f.own)))) h.seats[j] fun w hw=>?_
   rw [delM_map (Value.int .i64) h.seats[j] (delAll (h.seats.take j) f.own)] at hw
   have ed:delM h.seats[j] (delAll (h.seats.take j) f.own)=delAll (h.seats.take (j + 1)) f.own:=by
    unfold delAll
    rw [List.take_add_one,List.getElem?_eq_getElem hj2,Option.toList_some,List.foldl_append];rfl
   rw [ed] at hw
   rw [wrap64 (by omega) (by omega)]
   refine ⟨⟨j + 1,by omega,by omega,?_⟩,by dsimp only;omega⟩
   exact ((((hw.take (MapAt hm (hPtrs (a++(owner,b,h)::c)))).take (pts p (fCells f sg sl ss hm om))).take (HoldsAt (a++c))).take (Own s 3 (intsI h.seats))).take (pts b (hCells h s))
  ·rw [List.take_of_length_le (by omega)] at hw
   refine drw_rule hw fun w hw=>?_
   refine NilP.mk rfl ⟨sl,At.own selfS (by exact ⟨rfl,trivial⟩),NilP.mk rfl ⟨ss,At.own selfS (by exact ⟨rfl,trivial⟩),NilP.mk rfl ⟨h.cls,At.own selfS (by exact ⟨rfl,trivial⟩),NilP.mk rfl ⟨h.many,At.own selfS (by exact ⟨rfl,trivial⟩),?_⟩⟩⟩⟩
   refine (back_spec (rl.ro (by rw [List.length_map];omega)) (rs.ro (by rw [List.length_map];omega)) hw).use ?_
   rintro _ w ⟨t,rfl,hw⟩
   refine ⟨_,_,rfl,NilP.mk rfl ?_⟩
   refine store_rule hw (by kernel_rfl) rfl (by simp [Value.cells]) fun w hw=>?_
   have hw:Sat R' (pts p (fCells f sg sl t hm om)::Own t 3 (intsI (backT f.lims f.sold h.cls h.many).1)::pts b (hCells h s)::Own s 3 (intsI h.seats)::HoldsAt (a++c)::MapAt hm (hPtrs (a++(owner,b,h)::c))::MapAt om (oVals (delAll h.seats f.own))::Hs) w:=hw
   refine NilP.mk rfl ⟨some hm,At.own (eqS hw) (by exact ⟨rfl,trivial⟩),?_⟩
   refine MapAt.del hMap (hw.take (MapAt hm (hPtrs (a++(owner,b,h)::c)))) owner fun w hw=>⟨rfl,?_⟩
   have ep:delM owner (hPtrs (a++(owner,b,h)::c))=hPtrs (a++c):=by
    rw [show hPtrs (a++(owner,b,h)::c)=hPtrs a++(owner,Value.pointer (some ⟨b,0,none⟩))::hPtrs c by simp [hPtrs],delM_app (by rw [hPtrs_get,hna];rfl) (int_rfl owner)]
    simp [hPtrs]
   rw [ep] at hw
   have hw:=(hw.take (pts b (hCells h s))).drop
   have hw:=(hw.take (Own s 3 (intsI h.seats))).drop
   have hw:=hw.take (Own t 3 (intsI (backT f.lims f.sold h.cls h.many).1))
   have hw:=back _ _ (Own.reads hw)
   have hw:=(hw.take (Reads ss (intsI f.sold))).drop
   refine Sat.flight.2 ⟨hm,om,sg,sl,t,a++c,?_,?_⟩
   ·show _=delM owner f.hs
    rw [←hE,hEr_app,delM_app (by rw [hEr_get,hna];rfl) (int_rfl owner)]
    simp [hEr]
   ·exact (((((hw.take (HoldsAt (a++c))).take (MapAt om (oVals (delAll h.seats f.own)))).take (MapAt hm (hPtrs (a++c)))).take (pts p (fCells f sg sl t hm om))).take (Reads t (intsI (backT f.lims f.sold h.cls h.many).1))).take (Reads sl (intsI f.lims))|>.take (Reads sg (intsI f.grps))
end Go.Proofs.YtflgboncpbmikaaGreatDoor
/-
  DERIVED: THE SHELF's CONTRACTS AT THIS DUMP, IN PLAIN WORDS (tools/lay-plain.mjs out of 'TryIter.lean', which tools/lay-shelf.mjs wrote): THE SAME DECLARATIONS UNDER THE SAME NAMES: 'import', 'namespace', 'open', 'def', 'theorem' AND NOTHING ELSE: no command of the shelf's: FOR A HAND-IN. Each laying: the table of numbers ('.._ren') and one theorem, a field a fact of the dump's own or the kernel's comparison; each contract: ONE APPLICATION.
-/
namespace Go.Proofs
set_option linter.unusedVariables false
set_option linter.unusedSimpArgs false
open Go.Shelf
def Tryz.sorted30_ren:Go.Shelf.Ren:=⟨fun|6=>30|8=>53|9=>54|11=>89|13=>91|12=>90|23=>132|24=>63|14=>123|15=>124|16=>125|17=>126|18=>127|19=>128|20=>129|21=>130|22=>131|25=>160|26=>161|27=>162|28=>163|29=>164|30=>165|31=>176|n=>n,fun|26=>3|28=>71|24=>68|0=>0|3=>3|37=>126|48=>216|50=>76|4=>4|40=>209|39=>208|45=>188|5=>5|9=>9|51=>240|55=>244|57=>250|58=>237|33=>73|n=>n,fun|n=>n⟩
theorem Tryz.sorted30:Go.Proofs.SlLaysZI.n6 Tryz.prog Tryz.sorted30_ren:={
  mixed:=by kernel_rfl
  f6:=⟨Tryz.f30.name,by decide,Tryz.func30.trans (congrArg some (by kernel_rfl))⟩
  f8:=⟨Tryz.f53.name,by decide,Tryz.func53.trans (congrArg some (by kernel_rfl))⟩
  f11:=⟨Tryz.f89.name,by decide,Tryz.func89.trans (congrArg some (by kernel_rfl))⟩
  t0:=Tryz.underlying0
  a0:=Tryz.isAgg0
  z0:=Tryz.sizeOf0
  v0:=Tryz.zeroValue0
  t24:=Tryz.underlying68
  a24:=Tryz.isAgg68
  z24:=Tryz.sizeOf68
  v24:=Tryz.zeroValue68
  t26:=Tryz.underlying3
  a26:=Tryz.isAgg3
  z26:=Tryz.sizeOf3
  v26:=Tryz.zeroValue3
  t28:=Tryz.underlying71
  a28:=Tryz.isAgg71
  z28:=Tryz.sizeOf71
  v28:=Tryz.zeroValue71
  i26:=by kernel_rfl }
def Tryz.sort54_ren:Go.Shelf.Ren:=⟨fun|5=>54|8=>91|7=>90|19=>132|20=>63|10=>123|11=>124|12=>125|13=>126|14=>127|15=>128|16=>129|17=>130|18=>131|30=>160|31=>161|32=>162|33=>163|34=>164|35=>165|40=>176|n=>n,fun|23=>68|25=>3|3=>3|32=>126|22=>68|0=>0|44=>216|46=>76|4=>4|36=>209|35=>208|41=>188|5=>5|9=>9|53=>240|57=>244|63=>250|64=>237|n=>n,fun|n=>n⟩
theorem Tryz.sort54:Go.Proofs.SlLaysM.n5 Tryz.prog Tryz.sort54_ren:={
  mixed:=by kernel_rfl
  f5:=⟨Tryz.f54.name,by decide,Tryz.func54.trans (congrArg some (by kernel_rfl))⟩
  f7:=⟨Tryz.f90.name,by decide,Tryz.func90.trans (congrArg some (by kernel_rfl))⟩
  f8:=Tryz.func91.trans (congrArg some (by kernel_rfl))
  f10:=⟨Tryz.f123.name,by decide,Tryz.func123.trans (congrArg some (by kernel_rfl))⟩
  f11:=⟨Tryz.f124.name,by decide,Tryz.func124.trans (congrArg some (by kernel_rfl))⟩
  f12:=⟨Tryz.f125.name,by decide,Tryz.func125.trans (congrArg some (by kernel_rfl))⟩
  f13:=⟨Tryz.f126.name,by decide,Tryz.func126.trans (congrArg some (by kernel_rfl))⟩
  f14:=⟨Tryz.f127.name,by decide,Tryz.func127.trans (congrArg some (by kernel_rfl))⟩
  f15:=⟨Tryz.f128.name,by decide,Tryz.func128.trans (congrArg some (by kernel_rfl))⟩
  f16:=⟨Tryz.f129.name,by decide,Tryz.func129.trans (congrArg some (by kernel_rfl))⟩
  f17:=⟨Tryz.f130.name,by decide,Tryz.func130.trans (congrArg some (by kernel_rfl))⟩
  f18:=⟨Tryz.f131.name,by decide,Tryz.func131.trans (congrArg some (by kernel_rfl))⟩
  f19:=Tryz.func132.trans (congrArg some (by kernel_rfl))
  f20:=Tryz.func63.trans (congrArg some (by kernel_rfl))
  f30:=⟨Tryz.f160.name,by decide,Tryz.func160.trans (congrArg some (by kernel_rfl))⟩
  f31:=Tryz.func161.trans (congrArg some (by kernel_rfl))
  f32:=Tryz.func162.trans (congrArg some (by kernel_rfl))
  f33:=⟨Tryz.f163.name,by decide,Tryz.func163.trans (congrArg some (by kernel_rfl))⟩
  f34:=⟨Tryz.f164.name,by decide,Tryz.func164.trans (congrArg some (by kernel_rfl))⟩
  f35:=⟨Tryz.f165.name,by decide,Tryz.func165.trans (congrArg some (by kernel_rfl))⟩
  f40:=⟨Tryz.f176.name,by decide,Tryz.func176.trans (congrArg some (by kernel_rfl))⟩
  t0:=Tryz.underlying0
  a0:=Tryz.isAgg0
  z0:=Tryz.sizeOf0
  v0:=Tryz.zeroValue0
  t3:=Tryz.underlying3
  a3:=Tryz.isAgg3
  z3:=Tryz.sizeOf3
  v3:=Tryz.zeroValue3
  t4:=Tryz.underlying4
  a4:=Tryz.isAgg4
  z4:=Tryz.sizeOf4
  v4:=Tryz.zeroValue4
  t5:=Tryz.underlying5
  a5:=Tryz.isAgg5
  z5:=Tryz.sizeOf5
  v5:=Tryz.zeroValue5
  t9:=Tryz.underlying9
  a9:=Tryz.isAgg9
  z9:=Tryz.sizeOf9
  v9:=Tryz.zeroValue9
  t22:=Tryz.underlying68
  a22:=Tryz.isAgg68
  z22:=Tryz.sizeOf68
  v22:=Tryz.zeroValue68
  t23:=Tryz.underlying68
  a23:=Tryz.isAgg68
  z23:=Tryz.sizeOf68
  v23:=Tryz.zeroValue68
  t25:=Tryz.underlying3
  a25:=Tryz.isAgg3
  z25:=Tryz.sizeOf3
  v25:=Tryz.zeroValue3
  t32:=Tryz.underlying126
  a32:=Tryz.isAgg126
  z32:=Tryz.sizeOf126
  v32:=Tryz.zeroValue126
  t35:=Tryz.underlying208
  a35:=Tryz.isAgg208
  z35:=Tryz.sizeOf208
  v35:=Tryz.zeroValue208
  t36:=Tryz.underlying209
  a36:=Tryz.isAgg209
  z36:=Tryz.sizeOf209
  v36:=Tryz.zeroValue209
  t41:=Tryz.underlying188
  a41:=Tryz.isAgg188
  z41:=Tryz.sizeOf188
  v41:=Tryz.zeroValue188
  t44:=Tryz.underlying216
  a44:=Tryz.isAgg216
  z44:=Tryz.sizeOf216
  v44:=Tryz.zeroValue216
  t46:=Tryz.underlying76
  a46:=Tryz.isAgg76
  z46:=Tryz.sizeOf76
  v46:=Tryz.zeroValue76
  t53:=Tryz.underlying240
  a53:=Tryz.isAgg240
  z53:=Tryz.sizeOf240
  v53:=Tryz.zeroValue240
  t57:=Tryz.underlying244
  a57:=Tryz.isAgg244
  z57:=Tryz.sizeOf244
  v57:=Tryz.zeroValue244
  t63:=Tryz.underlying250
  a63:=Tryz.isAgg250
  z63:=Tryz.sizeOf250
  v63:=Tryz.zeroValue250
  t64:=Tryz.underlying237
  a64:=Tryz.isAgg237
  z64:=Tryz.sizeOf237
  v64:=Tryz.zeroValue237 }
open Go.RowKit Go.Maps Go.Sort Go.Shelf in
theorem Tryz.sorts30 (m:Nat):AnyZI.SortsIn Tryz.prog Tryz.sorted30_ren Fence.wide m:=
  ⟨fun blk off cap ss W hH hblk hsz=>callsIn_wide.2 (AnyM.slices_Sort_int Tryz.sort54 blk off cap ss W hH hblk hsz),
   fun p cap W=>callsIn_wide.2 (AnyM.slices_Sort_int_none Tryz.sort54 p cap W)⟩
def Tryz.collect53_ren:Go.Shelf.Ren:=⟨fun|8=>53|11=>89|n=>n,fun|26=>3|28=>71|24=>68|0=>0|33=>73|4=>4|n=>n,fun|n=>n⟩
theorem Tryz.collect53:Go.Proofs.SlLaysZI.n8 Tryz.prog Tryz.collect53_ren:={
  mixed:=by kernel_rfl
  f8:=⟨Tryz.f53.name,by decide,Tryz.func53.trans (congrArg some (by kernel_rfl))⟩
  f11:=⟨Tryz.f89.name,by decide,Tryz.func89.trans (congrArg some (by kernel_rfl))⟩
  t0:=Tryz.underlying0
  a0:=Tryz.isAgg0
  z0:=Tryz.sizeOf0
  v0:=Tryz.zeroValue0
  t24:=Tryz.underlying68
  a24:=Tryz.isAgg68
  z24:=Tryz.sizeOf68
  v24:=Tryz.zeroValue68
  t26:=Tryz.underlying3
  a26:=Tryz.isAgg3
  z26:=Tryz.sizeOf3
  v26:=Tryz.zeroValue3
  t28:=Tryz.underlying71
  a28:=Tryz.isAgg71
  z28:=Tryz.sizeOf71
  v28:=Tryz.zeroValue71
  i26:=by kernel_rfl }
def Tryz.keys133_ren:Go.Shelf.Ren:=⟨fun|7=>133|10=>166|n=>n,fun|23=>162|26=>3|3=>185|28=>71|0=>0|27=>70|33=>73|4=>4|n=>n,fun|n=>n⟩
theorem Tryz.keys133:Go.Proofs.SlLaysZI.n7 Tryz.prog Tryz.keys133_ren:={
  mixed:=by kernel_rfl
  f7:=⟨Tryz.f133.name,by decide,Tryz.func133.trans (congrArg some (by kernel_rfl))⟩
  f10:=⟨Tryz.f166.name,by decide,Tryz.func166.trans (congrArg some (by kernel_rfl))⟩
  t0:=Tryz.underlying0
  a0:=Tryz.isAgg0
  z0:=Tryz.sizeOf0
  v0:=Tryz.zeroValue0
  t4:=Tryz.underlying4
  a4:=Tryz.isAgg4
  z4:=Tryz.sizeOf4
  v4:=Tryz.zeroValue4
  t23:=Tryz.underlying162
  a23:=Tryz.isAgg162
  z23:=Tryz.sizeOf162
  v23:=Tryz.zeroValue162
  t26:=Tryz.underlying3
  a26:=Tryz.isAgg3
  z26:=Tryz.sizeOf3
  v26:=Tryz.zeroValue3
  t27:=Tryz.underlying70
  a27:=Tryz.isAgg70
  z27:=Tryz.sizeOf70
  v27:=Tryz.zeroValue70
  t28:=Tryz.underlying71
  a28:=Tryz.isAgg71
  z28:=Tryz.sizeOf71
  v28:=Tryz.zeroValue71
  t33:=Tryz.underlying73
  a33:=Tryz.isAgg73
  z33:=Tryz.sizeOf73
  v33:=Tryz.zeroValue73 }
open Go.RowKit Go.Maps Go.Sort Go.Shelf in
theorem Tryz.maps_Keys_133 (mb:Option Nat) (W:World):CallsIn Fence.wide 5 Tryz.prog 133 #[.map mb] W fun e w'=>e=.returned (.func (.func 166) #[] #[.pointer (some ⟨W.heap.size,0,none⟩)])∧w'=W.alloc (.cells #[.map mb] 162):=
  AnyZI.keys_in Tryz.keys133 Fence.wide 5 trivial rfl mb W
open Go.RowKit Go.Maps Go.Sort Go.Shelf in
theorem Tryz.slices_Sorted_keys_30_133 {H:Type} (b nn:Nat) (D0:DataW H) (R:Value→Option (DataW H × List MemPlace)) (w:World) (hown:w.ownsMap Tryz.prog 3 R b nn D0) (hmax:Maps.size D0≤maxLen) (hbytes:Maps.size D0 * 8≤140737488355328):
    CallsIn Fence.wide 5 Tryz.prog 30 #[.func (.func 166) #[] #[.pointer (some ⟨w.heap.size,0,none⟩)]] (w.alloc (.cells #[.map (some b)] 162)) fun e w'=>∃ (v:Value) (ss:List Int),e=.returned v∧ss.Perm (intKeys D0)∧
      w'.ownsRow (w.alloc (.cells #[.map (some b)] 162)).heap.size 3 1 v ss.length ((ss.mergeSort (fun x y=>decide (x≤y))).map encZ)∧(v=.slice none 0 0↔ss=[])∧Below (w.alloc (.cells #[.map (some b)] 162)).heap.size (w.alloc (.cells #[.map (some b)] 162)) w':=by
  have hbl:=hown.lt
  have hseq:SeqGives Fence.wide 2 Tryz.prog 166 #[.pointer (some ⟨w.heap.size,0,none⟩)] encZ (fun ss=>ss.Perm (intKeys D0)) (Maps.size D0) (w.alloc (.cells #[.map (some b)] 162)):=
    AnyZI.keys_gives (ρ:=Tryz.keys133_ren) { Tryz.keys133 with } Fence.wide _ trivial rfl (by omega) w.heap.size b nn D0 _ (by simp) (by simp) (by
      obtain ⟨es,clock,hb,Ft,hs,hD⟩:=hown
      exact ⟨es,clock,(Below.heap_alloc _ _ b hbl).trans hb,Ft,hs,hD⟩)
  exact AnyZI.sorted_in Tryz.sorted30 Fence.wide 5 trivial trivial trivial trivial rfl (by omega) (Tryz.sorts30 _) (enters_of Tryz.func54 (by kernel_rfl) rfl) 166 #[.pointer (some ⟨w.heap.size,0,none⟩)] trivial (enters_of Tryz.func166 (by kernel_rfl) rfl) _ _ hmax hbytes _ hseq
def Tryz.keys61_ren:Go.Shelf.Ren:=⟨fun|7=>61|10=>97|n=>n,fun|23=>88|26=>3|3=>108|28=>71|0=>0|27=>70|33=>73|4=>4|n=>n,fun|n=>n⟩
theorem Tryz.keys61:Go.Proofs.SlLaysZI.n7 Tryz.prog Tryz.keys61_ren:={
  mixed:=by kernel_rfl
  f7:=⟨Tryz.f61.name,by decide,Tryz.func61.trans (congrArg some (by kernel_rfl))⟩
  f10:=⟨Tryz.f97.name,by decide,Tryz.func97.trans (congrArg some (by kernel_rfl))⟩
  t0:=Tryz.underlying0
  a0:=Tryz.isAgg0
  z0:=Tryz.sizeOf0
  v0:=Tryz.zeroValue0
  t4:=Tryz.underlying4
  a4:=Tryz.isAgg4
  z4:=Tryz.sizeOf4
  v4:=Tryz.zeroValue4
  t23:=Tryz.underlying88
  a23:=Tryz.isAgg88
  z23:=Tryz.sizeOf88
  v23:=Tryz.zeroValue88
  t26:=Tryz.underlying3
  a26:=Tryz.isAgg3
  z26:=Tryz.sizeOf3
  v26:=Tryz.zeroValue3
  t27:=Tryz.underlying70
  a27:=Tryz.isAgg70
  z27:=Tryz.sizeOf70
  v27:=Tryz.zeroValue70
  t28:=Tryz.underlying71
  a28:=Tryz.isAgg71
  z28:=Tryz.sizeOf71
  v28:=Tryz.zeroValue71
  t33:=Tryz.underlying73
  a33:=Tryz.isAgg73
  z33:=Tryz.sizeOf73
  v33:=Tryz.zeroValue73 }
open Go.RowKit Go.Maps Go.Sort Go.Shelf in
theorem Tryz.maps_Keys_61 (mb:Option Nat) (W:World):CallsIn Fence.wide 5 Tryz.prog 61 #[.map mb] W fun e w'=>e=.returned (.func (.func 97) #[] #[.pointer (some ⟨W.heap.size,0,none⟩)])∧w'=W.alloc (.cells #[.map mb] 88):=
  AnyZI.keys_in Tryz.keys61 Fence.wide 5 trivial rfl mb W
open Go.RowKit Go.Maps Go.Sort Go.Shelf in
theorem Tryz.slices_Sorted_keys_30_61 {H:Type} (b nn:Nat) (D0:DataW H) (R:Value→Option (DataW H × List MemPlace)) (w:World) (hown:w.ownsMap Tryz.prog 3 R b nn D0) (hmax:Maps.size D0≤maxLen) (hbytes:Maps.size D0 * 8≤140737488355328):
    CallsIn Fence.wide 5 Tryz.prog 30 #[.func (.func 97) #[] #[.pointer (some ⟨w.heap.size,0,none⟩)]] (w.alloc (.cells #[.map (some b)] 88)) fun e w'=>∃ (v:Value) (ss:List Int),e=.returned v∧ss.Perm (intKeys D0)∧
      w'.ownsRow (w.alloc (.cells #[.map (some b)] 88)).heap.size 3 1 v ss.length ((ss.mergeSort (fun x y=>decide (x≤y))).map encZ)∧(v=.slice none 0 0↔ss=[])∧Below (w.alloc (.cells #[.map (some b)] 88)).heap.size (w.alloc (.cells #[.map (some b)] 88)) w':=by
  have hbl:=hown.lt
  have hseq:SeqGives Fence.wide 2 Tryz.prog 97 #[.pointer (some ⟨w.heap.size,0,none⟩)] encZ (fun ss=>ss.Perm (intKeys D0)) (Maps.size D0) (w.alloc (.cells #[.map (some b)] 88)):=
    AnyZI.keys_gives (ρ:=Tryz.keys61_ren) { Tryz.keys61 with } Fence.wide _ trivial rfl (by omega) w.heap.size b nn D0 _ (by simp) (by simp) (by
      obtain ⟨es,clock,hb,Ft,hs,hD⟩:=hown
      exact ⟨es,clock,(Below.heap_alloc _ _ b hbl).trans hb,Ft,hs,hD⟩)
  exact AnyZI.sorted_in Tryz.sorted30 Fence.wide 5 trivial trivial trivial trivial rfl (by omega) (Tryz.sorts30 _) (enters_of Tryz.func54 (by kernel_rfl) rfl) 97 #[.pointer (some ⟨w.heap.size,0,none⟩)] trivial (enters_of Tryz.func97 (by kernel_rfl) rfl) _ _ hmax hbytes _ hseq
def Tryz.keys31_ren:Go.Shelf.Ren:=⟨fun|7=>31|10=>55|n=>n,fun|23=>57|26=>3|3=>62|28=>71|0=>0|27=>70|33=>73|4=>4|n=>n,fun|n=>n⟩
theorem Tryz.keys31:Go.Proofs.SlLaysZI.n7 Tryz.prog Tryz.keys31_ren:={
  mixed:=by kernel_rfl
  f7:=⟨Tryz.f31.name,by decide,Tryz.func31.trans (congrArg some (by kernel_rfl))⟩
  f10:=⟨Tryz.f55.name,by decide,Tryz.func55.trans (congrArg some (by kernel_rfl))⟩
  t0:=Tryz.underlying0
  a0:=Tryz.isAgg0
  z0:=Tryz.sizeOf0
  v0:=Tryz.zeroValue0
  t4:=Tryz.underlying4
  a4:=Tryz.isAgg4
  z4:=Tryz.sizeOf4
  v4:=Tryz.zeroValue4
  t23:=Tryz.underlying57
  a23:=Tryz.isAgg57
  z23:=Tryz.sizeOf57
  v23:=Tryz.zeroValue57
  t26:=Tryz.underlying3
  a26:=Tryz.isAgg3
  z26:=Tryz.sizeOf3
  v26:=Tryz.zeroValue3
  t27:=Tryz.underlying70
  a27:=Tryz.isAgg70
  z27:=Tryz.sizeOf70
  v27:=Tryz.zeroValue70
  t28:=Tryz.underlying71
  a28:=Tryz.isAgg71
  z28:=Tryz.sizeOf71
  v28:=Tryz.zeroValue71
  t33:=Tryz.underlying73
  a33:=Tryz.isAgg73
  z33:=Tryz.sizeOf73
  v33:=Tryz.zeroValue73 }
open Go.RowKit Go.Maps Go.Sort Go.Shelf in
theorem Tryz.maps_Keys_31 (mb:Option Nat) (W:World):CallsIn Fence.wide 5 Tryz.prog 31 #[.map mb] W fun e w'=>e=.returned (.func (.func 55) #[] #[.pointer (some ⟨W.heap.size,0,none⟩)])∧w'=W.alloc (.cells #[.map mb] 57):=
  AnyZI.keys_in Tryz.keys31 Fence.wide 5 trivial rfl mb W
open Go.RowKit Go.Maps Go.Sort Go.Shelf in
theorem Tryz.slices_Sorted_keys_30_31 {H:Type} (b nn:Nat) (D0:DataW H) (R:Value→Option (DataW H × List MemPlace)) (w:World) (hown:w.ownsMap Tryz.prog 3 R b nn D0) (hmax:Maps.size D0≤maxLen) (hbytes:Maps.size D0 * 8≤140737488355328):
    CallsIn Fence.wide 5 Tryz.prog 30 #[.func (.func 55) #[] #[.pointer (some ⟨w.heap.size,0,none⟩)]] (w.alloc (.cells #[.map (some b)] 57)) fun e w'=>∃ (v:Value) (ss:List Int),e=.returned v∧ss.Perm (intKeys D0)∧
      w'.ownsRow (w.alloc (.cells #[.map (some b)] 57)).heap.size 3 1 v ss.length ((ss.mergeSort (fun x y=>decide (x≤y))).map encZ)∧(v=.slice none 0 0↔ss=[])∧Below (w.alloc (.cells #[.map (some b)] 57)).heap.size (w.alloc (.cells #[.map (some b)] 57)) w':=by
  have hbl:=hown.lt
  have hseq:SeqGives Fence.wide 2 Tryz.prog 55 #[.pointer (some ⟨w.heap.size,0,none⟩)] encZ (fun ss=>ss.Perm (intKeys D0)) (Maps.size D0) (w.alloc (.cells #[.map (some b)] 57)):=
    AnyZI.keys_gives (ρ:=Tryz.keys31_ren) { Tryz.keys31 with } Fence.wide _ trivial rfl (by omega) w.heap.size b nn D0 _ (by simp) (by simp) (by
      obtain ⟨es,clock,hb,Ft,hs,hD⟩:=hown
      exact ⟨es,clock,(Below.heap_alloc _ _ b hbl).trans hb,Ft,hs,hD⟩)
  exact AnyZI.sorted_in Tryz.sorted30 Fence.wide 5 trivial trivial trivial trivial rfl (by omega) (Tryz.sorts30 _) (enters_of Tryz.func54 (by kernel_rfl) rfl) 55 #[.pointer (some ⟨w.heap.size,0,none⟩)] trivial (enters_of Tryz.func55 (by kernel_rfl) rfl) _ _ hmax hbytes _ hseq
def Tryz.keys119_ren:Go.Shelf.Ren:=⟨fun|7=>119|10=>156|n=>n,fun|23=>163|26=>3|3=>3|28=>71|0=>0|27=>70|33=>73|4=>4|n=>n,fun|n=>n⟩
theorem Tryz.keys119:Go.Proofs.SlLaysZI.n7 Tryz.prog Tryz.keys119_ren:={
  mixed:=by kernel_rfl
  f7:=⟨Tryz.f119.name,by decide,Tryz.func119.trans (congrArg some (by kernel_rfl))⟩
  f10:=⟨Tryz.f156.name,by decide,Tryz.func156.trans (congrArg some (by kernel_rfl))⟩
  t0:=Tryz.underlying0
  a0:=Tryz.isAgg0
  z0:=Tryz.sizeOf0
  v0:=Tryz.zeroValue0
  t4:=Tryz.underlying4
  a4:=Tryz.isAgg4
  z4:=Tryz.sizeOf4
  v4:=Tryz.zeroValue4
  t23:=Tryz.underlying163
  a23:=Tryz.isAgg163
  z23:=Tryz.sizeOf163
  v23:=Tryz.zeroValue163
  t26:=Tryz.underlying3
  a26:=Tryz.isAgg3
  z26:=Tryz.sizeOf3
  v26:=Tryz.zeroValue3
  t27:=Tryz.underlying70
  a27:=Tryz.isAgg70
  z27:=Tryz.sizeOf70
  v27:=Tryz.zeroValue70
  t28:=Tryz.underlying71
  a28:=Tryz.isAgg71
  z28:=Tryz.sizeOf71
  v28:=Tryz.zeroValue71
  t33:=Tryz.underlying73
  a33:=Tryz.isAgg73
  z33:=Tryz.sizeOf73
  v33:=Tryz.zeroValue73 }
open Go.RowKit Go.Maps Go.Sort Go.Shelf in
theorem Tryz.maps_Keys_119 (mb:Option Nat) (W:World):CallsIn Fence.wide 5 Tryz.prog 119 #[.map mb] W fun e w'=>e=.returned (.func (.func 156) #[] #[.pointer (some ⟨W.heap.size,0,none⟩)])∧w'=W.alloc (.cells #[.map mb] 163):=
  AnyZI.keys_in Tryz.keys119 Fence.wide 5 trivial rfl mb W
open Go.RowKit Go.Maps Go.Sort Go.Shelf in
theorem Tryz.slices_Collect_keys_53_119 {H:Type} (b nn:Nat) (D0:DataW H) (R:Value→Option (DataW H × List MemPlace)) (w:World) (hown:w.ownsMap Tryz.prog 3 R b nn D0) (hmax:Maps.size D0≤maxLen) (hbytes:Maps.size D0 * 8≤140737488355328):
    CallsIn Fence.wide 4 Tryz.prog 53 #[.func (.func 156) #[] #[.pointer (some ⟨w.heap.size,0,none⟩)]] (w.alloc (.cells #[.map (some b)] 163)) fun e w'=>∃ (v:Value) (ss:List Int),e=.returned v∧ss.Perm (intKeys D0)∧
      w'.ownsRow (w.alloc (.cells #[.map (some b)] 163)).heap.size 3 1 v ss.length (ss.map encZ)∧(v=.slice none 0 0↔ss=[])∧Below (w.alloc (.cells #[.map (some b)] 163)).heap.size (w.alloc (.cells #[.map (some b)] 163)) w':=by
  have hbl:=hown.lt
  have hseq:SeqGives Fence.wide 2 Tryz.prog 156 #[.pointer (some ⟨w.heap.size,0,none⟩)] encZ (fun ss=>ss.Perm (intKeys D0)) (Maps.size D0) (w.alloc (.cells #[.map (some b)] 163)):=
    AnyZI.keys_gives (ρ:=Tryz.keys119_ren) { Tryz.keys119 with } Fence.wide _ trivial rfl (by omega) w.heap.size b nn D0 _ (by simp) (by simp) (by
      obtain ⟨es,clock,hb,Ft,hs,hD⟩:=hown
      exact ⟨es,clock,(Below.heap_alloc _ _ b hbl).trans hb,Ft,hs,hD⟩)
  exact AnyZI.collect_in Tryz.collect53 Fence.wide 4 trivial trivial rfl (by omega) 156 #[.pointer (some ⟨w.heap.size,0,none⟩)] trivial (enters_of Tryz.func156 (by kernel_rfl) rfl) _ _ hmax hbytes _ hseq
def Tryz.keys57_ren:Go.Shelf.Ren:=⟨fun|7=>57|10=>92|n=>n,fun|23=>87|26=>3|3=>119|28=>71|0=>0|27=>70|33=>73|4=>4|n=>n,fun|n=>n⟩
theorem Tryz.keys57:Go.Proofs.SlLaysZI.n7 Tryz.prog Tryz.keys57_ren:={
  mixed:=by kernel_rfl
  f7:=⟨Tryz.f57.name,by decide,Tryz.func57.trans (congrArg some (by kernel_rfl))⟩
  f10:=⟨Tryz.f92.name,by decide,Tryz.func92.trans (congrArg some (by kernel_rfl))⟩
  t0:=Tryz.underlying0
  a0:=Tryz.isAgg0
  z0:=Tryz.sizeOf0
  v0:=Tryz.zeroValue0
  t4:=Tryz.underlying4
  a4:=Tryz.isAgg4
  z4:=Tryz.sizeOf4
  v4:=Tryz.zeroValue4
  t23:=Tryz.underlying87
  a23:=Tryz.isAgg87
  z23:=Tryz.sizeOf87
  v23:=Tryz.zeroValue87
  t26:=Tryz.underlying3
  a26:=Tryz.isAgg3
  z26:=Tryz.sizeOf3
  v26:=Tryz.zeroValue3
  t27:=Tryz.underlying70
  a27:=Tryz.isAgg70
  z27:=Tryz.sizeOf70
  v27:=Tryz.zeroValue70
  t28:=Tryz.underlying71
  a28:=Tryz.isAgg71
  z28:=Tryz.sizeOf71
  v28:=Tryz.zeroValue71
  t33:=Tryz.underlying73
  a33:=Tryz.isAgg73
  z33:=Tryz.sizeOf73
  v33:=Tryz.zeroValue73 }
open Go.RowKit Go.Maps Go.Sort Go.Shelf in
theorem Tryz.maps_Keys_57 (mb:Option Nat) (W:World):CallsIn Fence.wide 5 Tryz.prog 57 #[.map mb] W fun e w'=>e=.returned (.func (.func 92) #[] #[.pointer (some ⟨W.heap.size,0,none⟩)])∧w'=W.alloc (.cells #[.map mb] 87):=
  AnyZI.keys_in Tryz.keys57 Fence.wide 5 trivial rfl mb W
open Go.RowKit Go.Maps Go.Sort Go.Shelf in
theorem Tryz.slices_Sorted_keys_30_57 {H:Type} (b nn:Nat) (D0:DataW H) (R:Value→Option (DataW H × List MemPlace)) (w:World) (hown:w.ownsMap Tryz.prog 3 R b nn D0) (hmax:Maps.size D0≤maxLen) (hbytes:Maps.size D0 * 8≤140737488355328):
    CallsIn Fence.wide 5 Tryz.prog 30 #[.func (.func 92) #[] #[.pointer (some ⟨w.heap.size,0,none⟩)]] (w.alloc (.cells #[.map (some b)] 87)) fun e w'=>∃ (v:Value) (ss:List Int),e=.returned v∧ss.Perm (intKeys D0)∧
      w'.ownsRow (w.alloc (.cells #[.map (some b)] 87)).heap.size 3 1 v ss.length ((ss.mergeSort (fun x y=>decide (x≤y))).map encZ)∧(v=.slice none 0 0↔ss=[])∧Below (w.alloc (.cells #[.map (some b)] 87)).heap.size (w.alloc (.cells #[.map (some b)] 87)) w':=by
  have hbl:=hown.lt
  have hseq:SeqGives Fence.wide 2 Tryz.prog 92 #[.pointer (some ⟨w.heap.size,0,none⟩)] encZ (fun ss=>ss.Perm (intKeys D0)) (Maps.size D0) (w.alloc (.cells #[.map (some b)] 87)):=
    AnyZI.keys_gives (ρ:=Tryz.keys57_ren) { Tryz.keys57 with } Fence.wide _ trivial rfl (by omega) w.heap.size b nn D0 _ (by simp) (by simp) (by
      obtain ⟨es,clock,hb,Ft,hs,hD⟩:=hown
      exact ⟨es,clock,(Below.heap_alloc _ _ b hbl).trans hb,Ft,hs,hD⟩)
  exact AnyZI.sorted_in Tryz.sorted30 Fence.wide 5 trivial trivial trivial trivial rfl (by omega) (Tryz.sorts30 _) (enters_of Tryz.func54 (by kernel_rfl) rfl) 92 #[.pointer (some ⟨w.heap.size,0,none⟩)] trivial (enters_of Tryz.func92 (by kernel_rfl) rfl) _ _ hmax hbytes _ hseq
end Go.Proofs
/- The keys of a map of ints: in any order, and sorted. Condition: bounds. -/
namespace Go.Proofs.YtflgboncpbmikaaGreatDoor
set_option linter.unusedVariables false
set_option linter.unusedSimpArgs false
open Go Go.VC
variable {R:Cx} {Hs Rest:List HP} {w:World}
theorem keysI_map {m c:Nat} {l:List (En Int)} {es:List (Int × Value)} (hs:strip l=es) (hst:StampsOk l c) (hu:(es.map (·.1)).Nodup) (hn:∀ k∈es.map (·.1),-1000000000≤k∧k≤1000000000) (hlen:es.length≤1000000)
  (hm:w.heap[m]? =some (.map (l.map mkE).toArray c)):
  ∃ D0:DataW Unit,w.ownsMap Tryz.prog 3 (fun _=>some (.nil,[])) m 1000000 D0∧Maps.size D0≤1000000∧∀ ss:List Int,ss.Perm (intKeys D0)→ss.Perm (es.map (·.1)):=by
 have hkeys:l.map (·.1)=es.map (·.1):=by rw [←hs];simp [strip,Function.comp_def]
 have hlen2:l.length=es.length:=by have:=congrArg List.length hkeys;simpa using this
 have hkey:∀ e∈l,keyOf Tryz.prog 3 (mkE e).key=some (.int .i64 e.1):=fun e he=>by
  have hm:e.1∈es.map (·.1):=by rw [←hkeys];exact List.mem_map_of_mem he
  have hsz:=hn _ hm
  have hwf:(Lit.int .i64 e.1).wf=true:=by
   have h1:IntKind.i64.min=-9223372036854775808:=by decide
   have h2:IntKind.i64.max=9223372036854775807:=by decide
   simp only [Lit.wf,Bool.and_eq_true,decide_eq_true_eq];omega
  simp only [keyOf,Tryz.underlying3,mkE,mapKey,KeyK.enc]
  rw [if_pos ⟨trivial,hwf⟩]
 have hrd:∀ e∈l,WideElems.rd Tryz.prog 3 (fun _=>some ((.nil:DataW Unit),[])) (mkE e)=some (.int .i64 e.1,.nil):=fun e he=>by
  unfold WideElems.rd
  rw [hkey e he];rfl
 have hrg:((l.map mkE).map (WideElems.rg Tryz.prog 3 (fun _=>some ((.nil:DataW Unit),[]))))=l.map fun e=>(.int .i64 e.1,.nil):=by
  rw [List.map_map]
  apply List.map_congr_left
  intro e he
  simp only [Function.comp,WideElems.rg,hrd e he,Option.getD_some]
 refine ⟨_,⟨(l.map mkE).toArray,c,hm,⟨by simp [maxLen];omega,?_,?_⟩,by simp;omega,rfl⟩,?_,?_⟩
 ·refine ⟨fun x hx=>?_,?_,?_⟩
  ·simp only [List.mem_map] at hx
   obtain ⟨e,he,rfl⟩:=hx
   exact hst.1 e he
  ·have:=hst.2;simpa [mkE,Function.comp_def] using this
  ·have h2:(l.map (·.1)).Nodup:=by rw [hkeys];exact hu
   have e1:((l.map mkE).toArray.toList.map (·.key))=(l.map (·.1)).map (Value.int .i64):=by simp [mkE,Function.comp_def,KeyK.enc]
   rw [e1]
   exact List.Pairwise.map _ (fun a b hab h=>hab (by injection h)) h2
 ·intro x hx
  simp only [List.mem_map] at hx
  obtain ⟨e,he,rfl⟩:=hx
  exact ⟨_,hrd e he⟩
 ·simp only [Maps.size,hrg]
  rw [(WideShapes.sorted_perm _).length_eq];simp;omega
 ·intro ss hss
  refine hss.trans ?_
  simp only [intKeys,hrg]
  refine ((WideShapes.sorted_perm _).map _).trans ?_
  rw [List.map_map,←hkeys]
  exact List.Perm.of_eq (List.map_congr_left fun e _=>rfl)
end Go.Proofs.YtflgboncpbmikaaGreatDoor
/- The keys of a map of ints, by the library's calls. Condition: bounds. -/
namespace Go.Proofs.YtflgboncpbmikaaGreatDoor
set_option linter.unusedVariables false
set_option linter.unusedSimpArgs false
open Go Go.VC
variable {R:Cx} {Hs Rest:List HP} {w:World}
def sortI (l:List Int):List Int:=l.mergeSort fun x y=>decide (x≤y)
theorem sortI_perm {a b:List Int} (h:a.Perm b):sortI a=sortI b:=by
 have tr:∀ a b c:Int,decide (a≤b)=true→decide (b≤c)=true→decide (a≤c)=true:=fun a b c h1 h2=>by simp only [decide_eq_true_eq] at *;omega
 have to:∀ a b:Int,(decide (a≤b)||decide (b≤a))=true:=fun a b=>by simp only [Bool.or_eq_true,decide_eq_true_eq];omega
 have s1:=List.pairwise_mergeSort tr to a
 have s2:=List.pairwise_mergeSort tr to b
 have p:(a.mergeSort fun x y=>decide (x≤y)).Perm (b.mergeSort fun x y=>decide (x≤y)):=(List.mergeSort_perm a _).trans (h.trans (List.mergeSort_perm b _).symm)
 exact List.Perm.eq_of_pairwise (fun a b _ _ h1 h2=>by simp only [decide_eq_true_eq] at h1 h2;omega) s1 s2 p
theorem sortedH_rule {m:Nat} {es:List (Int × Value)} {K:Sl→World→Prop} (hu:(es.map (·.1)).Nodup) (hn:∀ k∈es.map (·.1),-1000000000≤k∧k≤1000000000) (hlen:es.length≤1000000) (hw:Sat R (MapAt m es::Hs) w)
  (k:∀ s w',Sat R (Own s 3 (intsI (sortI (es.map (·.1))))::MapAt m es::Hs) w'→K s w'):
  Calls Tryz.prog 133 #[.map (some m)] w fun e w1=>∃ t:Value,e=.returned t∧Calls Tryz.prog 30 #[t] w1 fun e w2=>∃ t:Sl,e=.returned (.slice t.a t.len t.cap)∧K t w2:=by
 obtain ⟨l,c,hs,hst,hp⟩:=MapAt.iff.1 hw
 obtain ⟨D0,hown,hsz,hperm⟩:=keysI_map hs hst hu hn hlen hp.at
 refine (callsIn_wide.1 (Tryz.maps_Keys_133 (some m) w)).mono ?_
 rintro _ _ ⟨rfl,rfl⟩
 refine ⟨_,rfl,?_⟩
 refine (callsIn_wide.1 (Tryz.slices_Sorted_keys_30_133 m _ D0 _ w hown (by unfold maxLen;omega) (by omega))).mono ?_
 rintro _ w' ⟨v,ss,rfl,hS,hrow,hnil,hb⟩
 have hw1:Sat R (MapAt m es::Hs) (w.alloc (.cells #[.map (some m)] 162)):=(Sat.alloc _ hw).drop
 obtain ⟨s,rfl,h3⟩:=Sat.ownsRow hw1 hb hrow
 refine ⟨s,rfl,k s _ ?_⟩
 rw [←sortI_perm (hperm ss hS)]
 exact h3
theorem collectO_rule {m:Nat} {es:List (Int × Value)} {S:World→Prop} {K:Sl→World→Prop} (hu:(es.map (·.1)).Nodup) (hn:∀ k∈es.map (·.1),-1000000000≤k∧k≤1000000000) (hlen:es.length≤1000000) (hw:Sat R (MapAt m es::Hs) w)
  (hS:∀ w',Sat R (MapAt m es::Hs) w'→S w')
  (k:∀ s ks w',ks.Perm (es.map (·.1))→Sat R (Own s 3 (intsI ks)::MapAt m es::Hs) w'→K s w'):
  Calls Tryz.prog 119 #[.map (some m)] w fun e w1=>∃ t:Value,e=.returned t∧S w1∧Calls Tryz.prog 53 #[t] w1 fun e w2=>∃ t:Sl,e=.returned (.slice t.a t.len t.cap)∧S w2∧K t w2:=by
 obtain ⟨l,c,hs,hst,hp⟩:=MapAt.iff.1 hw
 obtain ⟨D0,hown,hsz,hperm⟩:=keysI_map hs hst hu hn hlen hp.at
 refine (callsIn_wide.1 (Tryz.maps_Keys_119 (some m) w)).mono ?_
 rintro _ _ ⟨rfl,rfl⟩
 have hw1:Sat R (MapAt m es::Hs) (w.alloc (.cells #[.map (some m)] 163)):=(Sat.alloc _ hw).drop
 refine ⟨_,rfl,hS _ hw1,?_⟩
 refine (callsIn_wide.1 (Tryz.slices_Collect_keys_53_119 m _ D0 _ w hown (by unfold maxLen;omega) (by omega))).mono ?_
 rintro _ w' ⟨v,ss,rfl,hS2,hrow,hnil,hb⟩
 obtain ⟨s,rfl,h3⟩:=Sat.ownsRow hw1 hb hrow
 exact ⟨s,rfl,hS _ h3.drop,k s ss _ (hperm ss hS2) h3⟩
end Go.Proofs.YtflgboncpbmikaaGreatDoor
/- A flight: Auto. Condition: bounds on lengths. -/
namespace Go.Proofs.YtflgboncpbmikaaGreatDoor
set_option linter.unusedVariables false
set_option linter.unusedSimpArgs false
open Go Go.VC
variable {R:Cx} {Hs Rest:List HP} {w:World}
theorem bestT_perm {n:Int} {g a b:List Int} {many:Int} (h:a.Perm b):bestT n g a many=bestT n g b many:=by
 have:usedF a=usedF b:=by
  funext j
  unfold usedF
  rw [decide_eq_decide]
  exact h.mem_iff
 unfold bestT
 rw [this]
theorem freeL_rise {u:Nat→Bool} {N i j:Nat} (hj:j<(freeL u N).length) (hij:i<j):(freeL u N)[i]<(freeL u N)[j]:=by
 have h1:=free_of (List.getElem?_eq_getElem (show i<(freeL u N).length by omega))
 have h2:=free_of (List.getElem?_eq_getElem hj)
 by_cases h:(freeL u N)[i]<(freeL u N)[j]
 ·exact h
 ·exfalso
  have h3:=free_ge (u:=u) (j:=(freeL u N)[j]) ((freeL u N)[i] - (freeL u N)[j])
  rw [show (freeL u N)[j] + ((freeL u N)[i] - (freeL u N)[j])=(freeL u N)[i] by omega,h1.2.2,h2.2.2] at h3
  omega
theorem bestF_cases (u z:Nat→Bool) (N many:Nat):(∃ k,(bestF u z N many).1=upTo k many)∨(bestF u z N many).1=[]∨(bestF u z N many).1=(freeL u N).take many:=by
 unfold bestF
 split
 ·exact .inl ⟨_,rfl⟩
 ·split
  ·exact .inr (.inl rfl)
  ·exact .inr (.inr rfl)
theorem rise_cast {l:List Nat} (h:∀ i j (hj:j<l.length) (hij:i<j),l[i]<l[j]):Rise (l.map fun (j:Nat)=>(j:Int)):=fun i j hj hij=>by
 rw [List.length_map] at hj
 simp only [List.getElem_map]
 have:=h i j hj hij
 omega
theorem best_rise {n:Int} {g taken:List Int} {many:Int}:Rise (bestT n g taken many).1:=by
 unfold bestT
 split
 ·intro i j hj hij;simp at hj
 ·dsimp only
  rcases bestF_cases (usedF taken) (zF g) (layN n g).toNat many.toNat with ⟨k,h⟩|h|h
  ·rw [h]
   exact rise_cast fun i j hj hij=>by simp only [upTo,List.getElem_map,List.getElem_range];omega
  ·rw [h];intro i j hj hij;simp at hj
  ·rw [h]
   exact rise_cast fun i j hj hij=>by
    rw [List.length_take] at hj
    simp only [List.getElem_take]
    exact freeL_rise (by omega) hij
theorem best_len {n:Int} {g taken:List Int} {many:Int}:(bestT n g taken many).1.length≤600:=by
 have hb:=layN_bd n g
 unfold bestT
 split
 ·simp
 rename_i hm
 simp only [List.length_map]
 unfold bestF
 split
 ·rw [upTo_len];omega
 ·split
  ·simp
  ·simp only [List.length_take];omega
theorem insS_end {n:Int}:∀ {l:List Int},(∀ x∈l,x<n)→insS n l=l++[n]
 |[],_=>rfl
 |x::l,h=>by
  unfold insS
  rw [if_pos (h x List.mem_cons_self),insS_end fun y hy=>h y (List.mem_cons_of_mem _ hy)];rfl
theorem rise_take {l:List Int} (h:Rise l) (j:Nat):Rise (l.take j):=fun i k hk hik=>by
 rw [List.length_take] at hk
 simp only [List.getElem_take]
 exact h i k (by omega) hik
theorem rise_ins {l:List Int} (h:Rise l) {j:Nat} (hj:j<l.length):insS l[j] (l.take j)=l.take (j + 1):=by
 rw [insS_end,List.take_add_one,List.getElem?_eq_getElem hj,Option.toList_some]
 intro x hx
 obtain ⟨i,hi,rfl⟩:=List.getElem_of_mem hx
 rw [List.length_take] at hi
 rw [List.getElem_take]
 exact h i j hj (by omega)
def putAll (o:Int) (l:List Int) (own:List (Int × Int)):List (Int × Int):=l.foldl (fun p n=>putM n o p) own
def autoF (f:PF) (owner:Int):PF × List ByteArray × Int:=
 match getM owner f.hs with
 |none=>(f,[],2)
 |some h=>if h.seats.length>0 then (f,[],7)
  else ({ f with hs:=setM owner { h with seats:=(bestT f.rows f.grps (f.own.map (·.1)) h.many).1 } f.hs,own:=putAll h.owner (bestT f.rows f.grps (f.own.map (·.1)) h.many).1 f.own },
   labsF f.rows f.grps (bestT f.rows f.grps (f.own.map (·.1)) h.many).1,(bestT f.rows f.grps (f.own.map (·.1)) h.many).2)
theorem auto_fspec {p:Nat} {f:PF} {owner:Int} (hgl:f.grps.length≤1000) (hu:(f.own.map (·.1)).Nodup) (hk:∀ k∈f.own.map (·.1),-1000000000≤k∧k≤1000000000) (hol:f.own.length≤1000000) (hw:Sat R (FlightAt p f::Hs) w):
  Gets Tryz.prog 87 #[.pointer (some ⟨p,0,none⟩),.int .i64 owner] w fun v w'=>∃ t:Sl,v=.tuple #[.slice t.a t.len t.cap,.int .i64 (autoF f owner).2.2]∧Sat R (Own t 9 ((autoF f owner).2.1.map Value.string)::FlightAt p (autoF f owner).1::Hs) w':=by
 obtain ⟨hm,om,sg,sl,ss,E,R',hE,_,rg,_,_,hw,back⟩:=Sat.flightO hw
 have rgo:RoI R' sg f.grps:=rg.ro (by rw [List.length_map];omega)
 apply call87
 refine NilP.mk rfl ⟨some hm,At.own (eqS hw) (by exact ⟨rfl,trivial⟩),(getM owner E).map (fun x=>⟨x.1,0,none⟩),(getM owner E).isSome,fun w' e=>by rw [show w'=w from e];exact hold_look (hw.take (MapAt hm (hPtrs E))) owner true,?_⟩
 cases hget:getM owner E with
 |none=>
  have e:autoF f owner=(f,[],2):=by unfold autoF;rw [←hE,hEr_get,hget];rfl
  rw [e]
  exact Br.t rfl ⟨⟨none,0,0⟩,rfl,Own.nil (Sat.flightC hE (back _ _ hw))⟩
 |some x=>
  obtain ⟨b,h⟩:=x
  have hgf:getM owner f.hs=some h:=by rw [←hE,hEr_get,hget];rfl
  obtain ⟨a,c,rfl,hna⟩:=getM_split hget
  refine Br.f rfl (NilP.mk rfl ?_)
  obtain ⟨s,hw⟩:=FO.open hw
  have hsl:=Own.len (hw.take (Own s 3 (intsI h.seats)))
  rw [List.length_map] at hsl
  refine ⟨s,At.own (eqS hw) (by exact ⟨rfl,trivial⟩),Br.d (fun h1=>?_) (fun h1=>?_)⟩
  ·have e:autoF f owner=(f,[],7):=by unfold autoF;rw [hgf];dsimp only;rw [if_pos (by omega)]
   rw [e]
   exact ⟨⟨none,0,0⟩,rfl,Own.nil (Sat.flightC hE (back _ _ (FO.close hw)))⟩
  have hse:h.seats=[]:=List.length_eq_zero_iff.1 (by omega)
  have e:autoF f owner=({ f with hs:=setM owner { h with seats:=(bestT f.rows f.grps (f.own.map (·.1)) h.many).1 } f.hs,own:=putAll h.owner (bestT f.rows f.grps (f.own.map (·.1)) h.many).1 f.own },
   labsF f.rows f.grps (bestT f.rows f.grps (f.own.map (·.1)) h.many).1,(bestT f.rows f.grps (f.own.map (·.1)) h.many).2):=by unfold autoF;rw [hgf];dsimp only;rw [if_neg (by omega)]
  rw [e]
  refine drw_rule hw fun w hw=>?_
  refine NilP.mk rfl ⟨f.rows,sg,At.own selfS (by exact ⟨rfl,rfl,trivial⟩),NilP.mk rfl ⟨some om,At.own selfS (by exact ⟨rfl,trivial⟩),NilP.mk rfl ⟨h.many,At.own selfS (by exact ⟨rfl,trivial⟩),?_⟩⟩⟩
  have hown:(oVals f.own).map (·.1)=f.own.map (·.1):=by simp [oVals,Function.comp_def]
  refine collectO_rule (es:=oVals f.own) (by rw [hown];exact hu) (by rw [hown];exact hk) (by rw [List.length_map];exact hol) (hw.take (MapAt om (oVals f.own)))
   (fun w' h5=>((((h5.take (MapAt hm (hPtrs (a++(owner,b,h)::c)))).take (pts p (fCells f sg sl ss hm om))).take (HoldsAt (a++c))).take (Own s 3 (intsI h.seats))).take (pts b (hCells h s))|>.perm (by
    refine List.Perm.cons _ (List.Perm.cons _ (List.Perm.cons _ (List.Perm.cons _ (List.Perm.refl _))))))
   fun tk ks w hks hw=>?_
  rw [hown] at hks
  obtain ⟨R2,hro,hmono,hw2,back2⟩:=Own.lend hw (by rw [List.length_map];have:=hks.length_eq;rw [List.length_map] at this;omega)
  refine (best_spec (taken:=ks) (hmono _ _ rgo) hro hw2).use ?_
  clear hw hw2
  rintro _ w ⟨t,rfl,hw⟩
  have hw:=(back2 hw).drop
  rw [bestT_perm hks] at hw ⊢
  have hri:=best_rise (n:=f.rows) (g:=f.grps) (taken:=f.own.map (·.1)) (many:=h.many)
  have hln:=best_len (n:=f.rows) (g:=f.grps) (taken:=f.own.map (·.1)) (many:=h.many)
  generalize bestT f.rows f.grps (f.own.map (·.1)) h.many=r at *
  refine ⟨_,_,rfl,?_,?_⟩
  ·exact ((((hw.drop.take (MapAt hm (hPtrs (a++(owner,b,h)::c)))).take (pts p (fCells f sg sl ss hm om))).take (HoldsAt (a++c))).take (Own s 3 (intsI h.seats))).take (pts b (hCells h s))|>.perm (by
    refine List.Perm.cons _ (List.Perm.cons _ (List.Perm.cons _ (List.Perm.cons _ (List.Perm.refl _)))))
  obtain ⟨R3,e3,ht,hw,back3⟩:=Reads.out hw
  have hto:RoI R3 t r.1:=ht.ro (by rw [List.length_map];omega)
  have htl:=hto.len
  have hw:Sat R3 (FO p hm om sg sl ss (a++(owner,b,h)::c) f Hs) w:=FO.close (((((hw.take (MapAt hm (hPtrs (a++(owner,b,h)::c)))).take (pts p (fCells f sg sl ss hm om))).take (HoldsAt (a++c))).take (Own s 3 (intsI h.seats))).take (pts b (hCells h s))|>.perm (by
    refine List.Perm.cons _ (List.Perm.cons _ (List.Perm.cons _ (List.Perm.cons _ (List.Perm.refl _))))))
  refine ⟨fun i w=>∃ j:Nat,i=j∧j≤r.1.length∧Sat R3 (FO p hm om sg sl ss (a++(owner,b,{ h with seats:=r.1.take j })::c) { f with own:=putAll h.owner (r.1.take j) f.own } Hs) w,fun i _=>r.1.length - i.toNat,⟨0,rfl,by omega,?_⟩,?_⟩
  ·have eh:({ h with seats:=r.1.take 0 }:Hold)=h:=by rw [List.take_zero,←hse]
   rw [eh];exact hw
  clear hw
  rintro _ _ w ⟨j,rfl,hj,hw⟩
  refine Br.d (fun h2=>?_) (fun h2=>?_)
  ·have hj2:j<r.1.length:=by omega
   refine Ro.ix hto (eqS hw) j rfl hj2 ?_
   refine (tell_spec (h:={ h with seats:=r.1.take j }) (rise_take hri j) (by simp only [List.length_take];omega) hw).use ?_
   rintro _ w ⟨rfl,hw⟩
   rw [wrap64 (by omega) (by omega)]
   refine ⟨rfl,⟨j + 1,by omega,by omega,?_⟩,by dsimp only;omega⟩
   have eh:Hold.put { h with seats:=r.1.take j } r.1[j]={ h with seats:=r.1.take (j + 1) }:=by unfold Hold.put;rw [rise_ins hri hj2]
   have eo:putM r.1[j] h.owner (putAll h.owner (r.1.take j) f.own)=putAll h.owner (r.1.take (j + 1)) f.own:=by
    unfold putAll
    rw [List.take_add_one,List.getElem?_eq_getElem hj2,Option.toList_some,List.foldl_append];rfl
   rw [eh] at hw
   rw [←eo]
   exact hw
  ·rw [List.take_of_length_le (by omega)] at hw
   refine (labels_spec (f:=f) (hm:=hm) (om:=om) (sg:=sg) (sl:=sl) (ss:=ss) (e3.ro rgo) hto (by omega) hw).use ?_
   rintro _ w ⟨t2,rfl,hw⟩
   refine ⟨t2,rfl,t2,rfl,?_⟩
   have hw:=(back3 _ _ hw).drop
   have hw:=back _ _ hw
   refine Sat.cons (fun R5 h5=>?_) (hw.take (Own t2 9 ((labsF f.rows f.grps r.1).map Value.string)))
   refine Sat.flight.2 ⟨hm,om,sg,sl,ss,a++(owner,b,{ h with seats:=r.1 })::c,?_,h5⟩
   show _=setM owner _ f.hs
   rw [←hE,hEr_app,hEr_app,setM_app (by rw [hEr_get,hna];rfl) (int_rfl owner)]
end Go.Proofs.YtflgboncpbmikaaGreatDoor
/- Reference 15: putting a seat; whether two answers are the same. Condition: bounds. -/
namespace Go.Proofs.YtflgboncpbmikaaGreatDoor
set_option linter.unusedVariables false
set_option linter.unusedSimpArgs false
open Go Go.VC
variable {R:Cx} {Hs Rest:List HP} {w:World}
theorem insS_len (n:Int):∀ l:List Int,(insS n l).length=l.length + 1
 |[]=>rfl
 |x::l=>by
  unfold insS
  split
  ·simp only [List.length_cons,insS_len n l]
  ·rfl
end Go.Proofs.YtflgboncpbmikaaGreatDoor

/- Numbers, one behind the other: Encode's inner function; reference 15's numbers. Condition: bounds on lengths. -/
namespace Go.Proofs.YtflgboncpbmikaaGreatDoor
set_option linter.unusedVariables false
set_option linter.unusedSimpArgs false
open Go Go.VC
variable {R:Cx} {Hs Rest:List HP} {w:World}
def numsB (l:List Int):List Int:=(l.map fun x=>numB x.toNat).flatten
theorem numsB_take {l:List Int} {k:Nat} (hk:k<l.length):numsB (l.take (k + 1))=numsB (l.take k)++numB l[k].toNat:=by
 unfold numsB
 rw [List.take_add_one,List.getElem?_eq_getElem hk,List.map_append,List.flatten_append]
 simp only [Option.toList_some,List.map_cons,List.map_nil,List.flatten_cons,List.flatten_nil,List.append_nil]
theorem numsB_len:∀ {l:List Int},(∀ x∈l,0≤x∧x<18446744073709551616)→(numsB l).length≤9 * l.length
 |[],_=>by simp [numsB]
 |x::l,h=>by
  have h1:=h x (List.mem_cons_self ..)
  have:=numB_len (n:=x.toNat) (by omega)
  have h2:=numsB_len (l:=l) fun y hy=>h y (List.mem_cons_of_mem _ hy)
  unfold numsB at h2 ⊢
  rw [List.map_cons,List.flatten_cons,List.length_append,List.length_cons]
  omega
theorem numsB_bd:∀ {l:List Int},(∀ x∈l,0≤x∧x<18446744073709551616)→∀ y∈numsB l,0≤y∧y<256
 |[],_=>by simp [numsB]
 |x::l,h=>fun y hy=>by
  have h1:=h x (List.mem_cons_self ..)
  unfold numsB at hy
  rw [List.map_cons,List.flatten_cons,List.mem_append] at hy
  rcases hy with hy|hy
  ·exact numB_bd (n:=x.toNat) (by omega) y hy
  ·exact numsB_bd (fun y hy=>h y (List.mem_cons_of_mem _ hy)) y hy
theorem numsB_app (a b:List Int):numsB (a++b)=numsB a++numsB b:=by simp [numsB]
def OutB (p:Nat) (bs:List Int):HP:=exs fun s:Sl=>Star [lp p s,Own s 5 (b8 bs)]
theorem Sat.outB {p:Nat} {bs:List Int}:Sat R (OutB p bs::Hs) w↔∃ s:Sl,Sat R (lp p s::Own s 5 (b8 bs)::Hs) w:=by
 unfold OutB
 rw [Sat.exs]
 exact ⟨fun ⟨s,h⟩=>⟨s,Sat.star.1 h⟩,fun ⟨s,h⟩=>⟨s,Sat.star.2 h⟩⟩
theorem put_law {f:FuncId} {p:Nat} {s:Sl} {xs bs:List Int} (hxs:∀ x∈xs,0≤x∧x<9223372036854775808) (hl:bs.length + 9 * xs.length≤1099511627776) (hs:RoI R s xs) (hw:Sat R (OutB p bs::Hs) w)
  (hf:∀ {K:Value→World→Prop} {w:World},B93 s (some ⟨p,0,none⟩) K w→Gets Tryz.prog f #[.slice s.a s.len s.cap,.pointer (some ⟨p,0,none⟩)] w K):
  Gets Tryz.prog f #[.slice s.a s.len s.cap,.pointer (some ⟨p,0,none⟩)] w fun v w'=>v=.tuple #[]∧Sat R (OutB p (bs++numsB xs)::Hs) w':=by
 have hlen:=hs.len
 apply hf
 refine ⟨fun i w=>∃ k:Nat,i=k∧k≤xs.length∧Sat R (OutB p (bs++numsB (xs.take k))::Hs) w,fun i _=>xs.length - i.toNat,⟨0,rfl,by omega,by simpa [numsB] using hw⟩,?_⟩
 clear hw
 rintro _ _ w ⟨k,rfl,hk,hw⟩
 refine Br.d (fun h=>?_) (fun h=>?_)
 ·have hkx:k<xs.length:=by omega
  have hx:=hxs xs[k] (List.getElem_mem _)
  have hxt:∀ x∈xs.take k,0≤x∧x<18446744073709551616:=fun x hx=>by have:=hxs x (List.mem_of_mem_take hx);omega
  have hnl:=numsB_len hxt
  rw [List.length_take] at hnl
  refine hs.idx (eqS hw) hkx ?_
  obtain ⟨s0,hw⟩:=Sat.outB.1 hw
  refine drw_ruleT hw fun w hw=>?_
  refine NilP.mk rfl ⟨s0,At.own selfS (by exact ⟨rfl,trivial⟩),?_⟩
  obtain ⟨n,hn⟩:=Int.eq_ofNat_of_zero_le hx.1
  rw [hn,wrapU64 (by omega) (by omega)]
  refine (number_spec (by omega) hw).use ?_
  rintro _ w ⟨t,rfl,hw⟩
  refine ⟨t,rfl,hw.absorb,?_⟩
  have hw:Sat R (Own s0 5 (b8 (bs++numsB (xs.take k)))::Own t 5 (b8 (numB n))::lp p s0::VC.tru::Hs) w:=hw.arr
  have hnb:=numB_len (n:=n) (by omega)
  refine appendOO elB8 (s:=s0) (n:=1099511627790) Tryz.underlying22 hw (by rw [List.length_append];omega) (by omega) (by omega) fun s2 w hw=>?_
  have hw:Sat R (lp p s0::Own s2 5 (b8 (bs++numsB (xs.take k)++numB n))::Hs) w:=by
   have h:Sat R (Own t 5 (b8 (numB n))::VC.tru::lp p s0::Own s2 5 (b8 (bs++numsB (xs.take k)++numB n))::Hs) w:=hw.arr
   exact h.drop.drop
  refine store_rule hw (by kernel_rfl) rfl (by simp [Value.cells]) fun w hw=>?_
  have hw:=hw.re (lp p s2)
  rw [wrap64 (by omega) (by omega)]
  refine ⟨⟨k + 1,by omega,by omega,Sat.outB.2 ⟨s2,?_⟩⟩,by dsimp only;omega⟩
  rw [numsB_take hkx,hn,Int.toNat_natCast,←List.append_assoc]
  exact hw
 ·have:k=xs.length:=by omega
  subst this
  rw [List.take_length] at hw
  exact ⟨rfl,hw⟩
theorem eput_spec {p:Nat} {s:Sl} {xs bs:List Int} (hxs:∀ x∈xs,0≤x∧x<9223372036854775808) (hl:bs.length + 9 * xs.length≤1099511627776) (hs:RoI R s xs) (hw:Sat R (OutB p bs::Hs) w):
  Gets Tryz.prog 93 #[.slice s.a s.len s.cap,.pointer (some ⟨p,0,none⟩)] w fun v w'=>v=.tuple #[]∧Sat R (OutB p (bs++numsB xs)::Hs) w':=
 put_law hxs hl hs hw fun h=>call93 _ _ _ _ h
end Go.Proofs.YtflgboncpbmikaaGreatDoor
/- Lists of holds in memory. Condition: none. -/
namespace Go.Proofs.YtflgboncpbmikaaGreatDoor
set_option linter.unusedVariables false
set_option linter.unusedSimpArgs false
open Go Go.VC
variable {R:Cx} {Hs Rest:List HP} {w:World}
def rowH (h:Hold) (t:Sl):List Value:=[.int .i64 h.owner,.int .i64 h.cls,.int .i64 h.many,.slice t.a t.len t.cap]
def rowsH (L:List Hold) (ts:List Sl):List (List Value):=(L.zip ts).map fun x=>rowH x.1 x.2
def seatsH (L:List Hold) (ts:List Sl):List HP:=(L.zip ts).map fun x=>Reads x.2 (intsI x.1.seats)
def HoldsL (s:Sl) (L:List Hold):HP:=exs fun ts:List Sl=>Star (pur (ts.length=L.length)::OwnN 4 s 169 (rowsH L ts)::seatsH L ts)
theorem Sat.holdsL {s:Sl} {L:List Hold}:Sat R (HoldsL s L::Hs) w↔∃ ts:List Sl,ts.length=L.length∧Sat R (OwnN 4 s 169 (rowsH L ts)::(seatsH L ts++Hs)) w:=by
 unfold HoldsL
 rw [Sat.exs]
 constructor
 ·rintro ⟨ts,h⟩
  obtain ⟨h1,h2⟩:=Sat.pur.1 (Sat.star.1 h)
  exact ⟨ts,h1,h2⟩
 ·rintro ⟨ts,h1,h2⟩
  exact ⟨ts,Sat.star.2 (Sat.pur.2 ⟨h1,h2⟩)⟩
structure HsR (R:Cx) (s:Sl) (L:List Hold) (ts:List Sl):Prop where
 len:ts.length=L.length
 rows:RoN 4 R s (rowsH L ts)
 seats:∀ i (h:i<L.length) (h':i<ts.length),SlR R.m ts[i] (intsI L[i].seats)
theorem seats_leak:∀ {L:List Hold} {ts:List Sl} {R:Cx},ts.length=L.length→Sat R (seatsH L ts++Hs) w→∃ R':Cx,R.Ext R'∧(∀ i (h:i<L.length) (h':i<ts.length),SlR R'.m ts[i] (intsI L[i].seats))∧Sat R' Hs w
 |[],_,R,_,hw=>⟨R,Cx.Ext.refl,fun i h=>by simp at h,by simpa [seatsH] using hw⟩
 |h::L,[],R,hl,_=>by simp at hl
 |h::L,t::ts,R,hl,hw=>by
  have hw:Sat R (Reads t (intsI h.seats)::(seatsH L ts++Hs)) w:=hw
  obtain ⟨R1,e1,s1,hw⟩:=Reads.leak hw
  obtain ⟨R2,e2,s2,hw⟩:=seats_leak (by simpa using hl) hw
  refine ⟨R2,e1.trans e2,fun i h h'=>?_,hw⟩
  rcases i with _|i
  ·exact e2.slR s1
  ·exact s2 i (by simpa using h) (by simpa using h')
theorem HoldsL.leak {s:Sl} {L:List Hold} (hw:Sat R (HoldsL s L::Hs) w):∃ (R':Cx) (ts:List Sl),R.Ext R'∧HsR R' s L ts∧Sat R' Hs w:=by
 obtain ⟨ts,hl,hw⟩:=Sat.holdsL.1 hw
 obtain ⟨R1,e1,hr,hw⟩:=OwnN.leak hw
 obtain ⟨R2,e2,hs,hw⟩:=seats_leak hl hw
 exact ⟨R2,ts,e1.trans e2,⟨hl,e2.roN hr,hs⟩,hw⟩
end Go.Proofs.YtflgboncpbmikaaGreatDoor
/- Whether two lists of holds are the same: reference 15. Condition: none. -/
namespace Go.Proofs.YtflgboncpbmikaaGreatDoor
set_option linter.unusedVariables false
set_option linter.unusedSimpArgs false
open Go Go.VC
variable {R:Cx} {Hs Rest:List HP} {w:World}
theorem rowsH_len {L:List Hold} {ts:List Sl} (h:ts.length=L.length):(rowsH L ts).length=L.length:=by simp [rowsH,h]
theorem rowsH_at {L:List Hold} {ts:List Sl} {k:Nat} (h:k<L.length) (h':k<ts.length) (h2:k<(rowsH L ts).length):(rowsH L ts)[k]=rowH L[k] ts[k]:=by simp [rowsH]
def holdEq (a b:Hold):Prop:=a.owner=b.owner∧a.cls=b.cls∧a.many=b.many∧a.seats=b.seats
theorem hold_ext {a b:Hold} (h:holdEq a b):a=b:=by
 obtain ⟨h1,h2,h3,h4⟩:=h
 cases a;cases b;simp_all
instance:DecidableEq Hold:=fun a b=>decidable_of_iff (a.owner=b.owner∧a.cls=b.cls∧a.many=b.many∧a.seats=b.seats) ⟨hold_ext,fun h=>by subst h;exact ⟨rfl,rfl,rfl,rfl⟩⟩
end Go.Proofs.YtflgboncpbmikaaGreatDoor
/- Reference 15's flight in memory; place. Condition: none. -/
namespace Go.Proofs.YtflgboncpbmikaaGreatDoor
set_option linter.unusedVariables false
set_option linter.unusedSimpArgs false
open Go Go.VC
variable {R:Cx} {Hs Rest:List HP} {w:World}
structure RF where
 num:Int
 rows:Int
 grps:List Int
 lims:List Int
 L:List Hold
end Go.Proofs.YtflgboncpbmikaaGreatDoor
/- A flight, plain: the document's steps; how the program's go with them. No program in sight. Condition: none. -/
namespace Go.Proofs.YtflgboncpbmikaaGreatDoor
set_option linter.unusedVariables false
set_option linter.unusedSimpArgs false
open Go Go.VC
def cntL (k:Int):List Hold→Int
 |[]=>0
 |h::L=>(if h.cls=k then h.many else 0) + cntL k L
def soldL (n:Nat) (L:List Hold):List Int:=(List.range n).map fun (k:Nat)=>cntL (k:Int) L
def takenL (L:List Hold):List Int:=L.flatMap Hold.seats
theorem cntL_cons (k:Int) (h:Hold) (L:List Hold):cntL k (h::L)=(if h.cls=k then h.many else 0) + cntL k L:=rfl
theorem cntL_app (k:Int):∀ A B:List Hold,cntL k (A++B)=cntL k A + cntL k B
 |[],B=>by simp [cntL]
 |h::A,B=>by simp only [List.cons_append,cntL,cntL_app k A B];omega
theorem cntL_perm {k:Int} {A B:List Hold} (h:A.Perm B):cntL k A=cntL k B:=by
 induction h with
 |nil=>rfl
 |cons x _ ih=>simp only [cntL,ih]
 |swap x y l=>simp only [cntL];exact Int.add_left_comm _ _ _
 |trans _ _ a b=>exact a.trans b
theorem soldL_len (n:Nat) (L:List Hold):(soldL n L).length=n:=by simp [soldL]
theorem soldL_get {n k:Nat} {L:List Hold} (h:k<(soldL n L).length):(soldL n L)[k]=cntL (k:Int) L:=by simp [soldL]
theorem soldL_getD {n k:Nat} {L:List Hold} (h:k<n):(soldL n L).getD k 0=cntL (k:Int) L:=by
 rw [List.getD_eq_getElem?_getD,List.getElem?_eq_getElem (by rw [soldL_len];exact h),soldL_get];rfl
theorem soldL_set {n:Nat} {L L':List Hold} {c:Int} {x:Int} (h0:0≤c) (h1:c<n) (hc:cntL c L'=x) (ho:∀ k:Nat,(k:Int)≠c→cntL (k:Int) L'=cntL (k:Int) L):(soldL n L).set c.toNat x=soldL n L':=by
 apply List.ext_getElem
 ·simp [soldL]
 ·intro i h2 h3
  rw [List.getElem_set]
  split
  ·rename_i e
   rw [soldL_get]
   rw [←hc]
   congr 1
   omega
  ·rename_i e
   rw [soldL_get,soldL_get]
   exact (ho i (by omega)).symm
theorem soldL_put {n:Nat} {h:Hold} {L L':List Hold} (p:L'.Perm (h::L)) (h0:0≤h.cls) (h1:h.cls<n):(soldL n L).set h.cls.toNat ((soldL n L).getD h.cls.toNat 0 + h.many)=soldL n L':=by
 refine soldL_set h0 h1 ?_ fun k hk=>?_
 ·rw [soldL_getD (by omega),cntL_perm p,show ((h.cls.toNat:Nat):Int)=h.cls by omega]
  rw [cntL_cons,if_pos rfl];omega
 ·rw [cntL_perm p]
  show (if h.cls=(k:Int) then h.many else 0) + cntL (k:Int) L=_
  rw [if_neg (fun e=>hk e.symm)];omega
theorem soldL_out {n:Nat} {h:Hold} {L L':List Hold} (p:L'.Perm (h::L)) (h0:0≤h.cls) (h1:h.cls<n):(soldL n L').set h.cls.toNat ((soldL n L').getD h.cls.toNat 0 - h.many)=soldL n L:=by
 refine soldL_set h0 h1 ?_ fun k hk=>?_
 ·rw [soldL_getD (by omega),cntL_perm p,show ((h.cls.toNat:Nat):Int)=h.cls by omega]
  show _=(if h.cls=h.cls then h.many else 0) + cntL h.cls L - h.many
  rw [if_pos rfl];omega
 ·rw [cntL_perm p]
  show _=(if h.cls=(k:Int) then h.many else 0) + cntL (k:Int) L
  rw [if_neg (fun e=>hk e.symm)];omega
def getO (o:Int):List Hold→Option Hold
 |[]=>none
 |h::L=>if h.owner=o then some h else getO o L
def setO (o:Int) (h':Hold):List Hold→List Hold
 |[]=>[]
 |h::L=>if h.owner=o then h'::L else h::setO o h' L
def delO (o:Int):List Hold→List Hold
 |[]=>[]
 |h::L=>if h.owner=o then L else h::delO o L
def insH (h:Hold):List Hold→List Hold
 |[]=>[h]
 |x::L=>if x.owner<h.owner then x::insH h L else h::x::L
theorem getO_cons (o:Int) (h:Hold) (L:List Hold):getO o (h::L)=if h.owner=o then some h else getO o L:=rfl
theorem getO_none {o:Int}:∀ {L:List Hold},getO o L=none↔∀ h∈L,h.owner≠o
 |[]=>by simp [getO]
 |h::L=>by
  rw [getO_cons]
  constructor
  ·intro e x hx
   split at e
   ·cases e
   ·rename_i hne
    rcases List.mem_cons.1 hx with rfl|hx
    ·exact hne
    ·exact getO_none.1 e x hx
  ·intro e
   rw [if_neg (e h List.mem_cons_self)]
   exact getO_none.2 fun x hx=>e x (List.mem_cons_of_mem _ hx)
theorem getO_split {o:Int} {h:Hold}:∀ {L:List Hold},getO o L=some h→∃ A C,L=A++h::C∧getO o A=none∧h.owner=o
 |[],e=>by cases e
 |x::L,e=>by
  rw [getO_cons] at e
  split at e
  ·rename_i hx;cases e;exact ⟨[],L,rfl,rfl,hx⟩
  ·rename_i hx
   obtain ⟨A,C,rfl,hA,ho⟩:=getO_split e
   exact ⟨x::A,C,rfl,by rw [getO_cons,if_neg hx];exact hA,ho⟩
theorem getO_app {o:Int} {h:Hold} {C:List Hold} (ho:h.owner=o):∀ {A:List Hold},getO o A=none→getO o (A++h::C)=some h
 |[],_=>by show getO o (h::C)=_;rw [getO_cons,if_pos ho]
 |x::A,e=>by
  rw [getO_cons] at e
  split at e
  ·cases e
  ·rename_i hx
   show getO o (x::(A++h::C))=_
   rw [getO_cons,if_neg hx];exact getO_app ho e
theorem setO_app {o:Int} {h h':Hold} {C:List Hold} (ho:h.owner=o):∀ {A:List Hold},getO o A=none→setO o h' (A++h::C)=A++h'::C
 |[],_=>by show setO o h' (h::C)=_;unfold setO;rw [if_pos ho];rfl
 |x::A,e=>by
  rw [getO_cons] at e
  split at e
  ·cases e
  ·rename_i hx
   show setO o h' (x::(A++h::C))=_
   unfold setO
   rw [if_neg hx,setO_app ho e];rfl
theorem delO_app {o:Int} {h:Hold} {C:List Hold} (ho:h.owner=o):∀ {A:List Hold},getO o A=none→delO o (A++h::C)=A++C
 |[],_=>by show delO o (h::C)=_;unfold delO;rw [if_pos ho];rfl
 |x::A,e=>by
  rw [getO_cons] at e
  split at e
  ·cases e
  ·rename_i hx
   show delO o (x::(A++h::C))=_
   unfold delO
   rw [if_neg hx,delO_app ho e];rfl
theorem insH_perm (h:Hold):∀ L:List Hold,(insH h L).Perm (h::L)
 |[]=>List.Perm.refl _
 |x::L=>by
  unfold insH
  split
  ·exact ((insH_perm h L).cons x).trans (List.Perm.swap _ _ _)
  ·exact List.Perm.refl _
def OwR (L:List Hold):Prop:=L.Pairwise fun a b=>a.owner<b.owner
theorem OwR.ne {L:List Hold} (h:OwR L):L.Pairwise fun a b=>a.owner≠b.owner:=h.imp fun h e=>by omega
theorem getO_iff {o:Int} {h:Hold}:∀ {L:List Hold},(L.Pairwise fun a b=>a.owner≠b.owner)→(getO o L=some h↔h∈L∧h.owner=o)
 |[],_=>by simp [getO]
 |x::L,hp=>by
  obtain ⟨h1,h2⟩:=List.pairwise_cons.1 hp
  rw [getO_cons]
  split
  ·rename_i hx
   constructor
   ·intro e;cases e;exact ⟨List.mem_cons_self,hx⟩
   ·rintro ⟨hm,ho⟩
    rcases List.mem_cons.1 hm with rfl|hm
    ·rfl
    ·exact absurd (hx.trans ho.symm) (h1 h hm)
  ·rename_i hx
   rw [getO_iff h2]
   constructor
   ·rintro ⟨a,b⟩;exact ⟨List.mem_cons_of_mem _ a,b⟩
   ·rintro ⟨hm,ho⟩
    rcases List.mem_cons.1 hm with rfl|hm
    ·exact absurd ho hx
    ·exact ⟨hm,ho⟩
theorem getO_perm {o:Int} {A B:List Hold} (p:A.Perm B) (h:A.Pairwise fun a b=>a.owner≠b.owner):getO o A=getO o B:=by
 have h':B.Pairwise fun a b=>a.owner≠b.owner:=(p.pairwise_iff fun h=>h.symm).1 h
 apply Option.ext
 intro x
 rw [getO_iff h,getO_iff h',p.mem_iff]
theorem insH_rise {h:Hold}:∀ {L:List Hold},OwR L→getO h.owner L=none→OwR (insH h L)
 |[],_,_=>by simp [OwR,insH]
 |x::L,hp,hn=>by
  obtain ⟨h1,h2⟩:=List.pairwise_cons.1 hp
  rw [getO_cons] at hn
  split at hn
  ·cases hn
  rename_i hx
  unfold insH
  split
  ·rename_i hlt
   refine List.pairwise_cons.2 ⟨fun y hy=>?_,insH_rise h2 hn⟩
   rcases List.mem_cons.1 ((insH_perm h L).mem_iff.1 hy) with rfl|hy
   ·exact hlt
   ·exact h1 y hy
  ·rename_i hlt
   refine List.pairwise_cons.2 ⟨fun y hy=>?_,hp⟩
   rcases List.mem_cons.1 hy with rfl|hy
   ·omega
   ·have:=h1 y hy;omega
theorem owR_mid {A C:List Hold} {h h':Hold} (ho:h'.owner=h.owner) (hp:OwR (A++h::C)):OwR (A++h'::C):=by
 unfold OwR at *
 rw [List.pairwise_append,List.pairwise_cons] at *
 refine ⟨hp.1,⟨fun y hy=>by rw [ho];exact hp.2.1.1 y hy,hp.2.1.2⟩,fun a ha b hb=>?_⟩
 rcases List.mem_cons.1 hb with rfl|hb
 ·rw [ho];exact hp.2.2 a ha h List.mem_cons_self
 ·exact hp.2.2 a ha b (List.mem_cons_of_mem _ hb)
theorem owR_cut {A C:List Hold} {h:Hold} (hp:OwR (A++h::C)):OwR (A++C):=by
 unfold OwR at *
 rw [List.pairwise_append,List.pairwise_cons] at hp
 rw [List.pairwise_append]
 exact ⟨hp.1,hp.2.1.2,fun a ha b hb=>hp.2.2 a ha b (List.mem_cons_of_mem _ hb)⟩
def RF.sold (r:RF):List Int:=soldL r.lims.length r.L
def rtakeF (r:RF) (owner cls many:Int):RF × Int:=
 if owner<1∨owner>28629151 then (r,1) else if (getO owner r.L).isSome then (r,7)
 else if (sellT r.lims r.sold cls many).2=0 then ({ r with L:=insH ⟨owner,cls,many,[]⟩ r.L },0) else (r,(sellT r.lims r.sold cls many).2)
def rgiveF (r:RF) (owner:Int):RF × Int:=
 match getO owner r.L with
 |none=>(r,2)
 |some _=>({ r with L:=delO owner r.L },0)
def rseatF (r:RF) (owner:Int) (lab:ByteArray):RF × Int:=
 match getO owner r.L with
 |none=>(r,2)
 |some h=>if (findT r.rows r.grps lab).2≠0 then (r,2) else if (h.seats.length:Int) ≥ h.many then (r,7)
  else if (findT r.rows r.grps lab).1∈takenL r.L then (r,3)
  else ({ r with L:=setO owner (h.put (findT r.rows r.grps lab).1) r.L },0)
def rautoF (r:RF) (owner:Int):RF × List ByteArray × Int:=
 match getO owner r.L with
 |none=>(r,[],2)
 |some h=>if h.seats.length>0 then (r,[],7)
  else if (bestT r.rows r.grps (takenL r.L) h.many).2=0 then ({ r with L:=setO owner { h with seats:=(bestT r.rows r.grps (takenL r.L) h.many).1 } r.L },labsF r.rows r.grps (bestT r.rows r.grps (takenL r.L) h.many).1,0)
  else (r,[],(bestT r.rows r.grps (takenL r.L) h.many).2)
def rlabelsF (r:RF) (owner:Int):List ByteArray:=match getO owner r.L with|none=>[]|some h=>labsF r.rows r.grps h.seats
def rleftsF (r:RF):List Int:=(List.range r.lims.length).map fun (k:Nat)=>(leftT r.lims r.sold k).1
structure HoldOk (n:Nat) (N:Int) (h:Hold):Prop where
 owner:1≤h.owner∧h.owner≤28629151
 cls:0≤h.cls∧h.cls<n
 many:1≤h.many
 rise:Rise h.seats
 few:(h.seats.length:Int)≤h.many
 seats:∀ x∈h.seats,0≤x∧x<N
structure Good (r:RF):Prop where
 num:1≤r.num∧r.num≤9999
 lay:layOk r.rows r.grps=true
 nest:nestOk r.lims r.sold=true
 l0:r.lims.getD 0 0=layN r.rows r.grps
 rise:OwR r.L
 each:∀ h∈r.L,HoldOk r.lims.length (layN r.rows r.grps) h
 apart:r.L.Pairwise fun a b=>∀ x∈a.seats,x ∉ b.seats
structure Tie (f:PF) (r:RF):Prop where
 num:f.num=r.num
 rows:f.rows=r.rows
 grps:f.grps=r.grps
 lims:f.lims=r.lims
 sold:f.sold=r.sold
 hs:(f.hs.map (·.2)).Perm r.L
 key:∀ e∈f.hs,e.2.owner=e.1
 own:∀ n o,getM n f.own=some o↔∃ h∈r.L,h.owner=o∧n∈h.seats
 nod:(f.own.map (·.1)).Nodup
theorem tie_get1 {o:Int}:∀ {hs:List (Int × Hold)},(∀ e∈hs,e.2.owner=e.1)→getM o hs=getO o (hs.map (·.2))
 |[],_=>rfl
 |e::hs,h=>by
  have h1:=h e List.mem_cons_self
  have ih:=tie_get1 (o:=o) fun x hx=>h x (List.mem_cons_of_mem _ hx)
  rw [List.map_cons,getO_cons,h1,←ih]
  show (if o==e.1 then some e.2 else getM o hs)=_
  by_cases he:e.1=o
  ·rw [if_pos he,if_pos (by rw [he];exact beq_self_eq_true o)]
  ·rw [if_neg he,if_neg (by rw [beq_iff_eq];exact fun e'=>he e'.symm)]
variable {f:PF} {r:RF}
theorem Tie.ne (t:Tie f r) (g:OwR r.L):(f.hs.map (·.2)).Pairwise fun a b=>a.owner≠b.owner:=(t.hs.pairwise_iff fun h=>h.symm).2 g.ne
theorem Tie.get (t:Tie f r) (g:OwR r.L) (o:Int):getM o f.hs=getO o r.L:=by
 rw [tie_get1 t.key,getO_perm t.hs (t.ne g)]
theorem Tie.taken (t:Tie f r) (n:Int):(getM n f.own).isSome=true↔n∈takenL r.L:=by
 unfold takenL
 rw [List.mem_flatMap,Option.isSome_iff_exists]
 constructor
 ·rintro ⟨o,h⟩
  obtain ⟨x,hx,_,hn⟩:=(t.own n o).1 h
  exact ⟨x,hx,hn⟩
 ·rintro ⟨x,hx,hn⟩
  exact ⟨x.owner,(t.own n x.owner).2 ⟨x,hx,rfl,hn⟩⟩
end Go.Proofs.YtflgboncpbmikaaGreatDoor
/- A flight: Holds. Condition: bounds on lengths. -/
namespace Go.Proofs.YtflgboncpbmikaaGreatDoor
set_option linter.unusedVariables false
set_option linter.unusedSimpArgs false
open Go Go.VC
variable {R:Cx} {Hs Rest:List HP} {w:World}
def hold0:Hold:=⟨0,0,0,[]⟩
def holdOf (f:PF) (k:Int):Hold:=(getM k f.hs).getD hold0
def holdsF (f:PF):List Hold:=(sortI (f.hs.map (·.1))).map (holdOf f)
theorem elH:ElN Tryz.prog 166 166 169 4 48:=⟨Tryz.underlying166,⟨_,Tryz.underlying166⟩,by kernel_rfl⟩
theorem HoldsL.nil (hw:Sat R Hs w):Sat R (HoldsL ⟨none,0,0⟩ []::Hs) w:=Sat.holdsL.2 ⟨[],rfl,OwnN.nil hw⟩
theorem rowsH_snoc {L:List Hold} {ts:List Sl} (hl:ts.length=L.length) (h:Hold) (t:Sl):rowsH (L++[h]) (ts++[t])=rowsH L ts++[rowH h t]:=by
 unfold rowsH
 rw [List.zip_append hl.symm,List.map_append];rfl
theorem seatsH_snoc {L:List Hold} {ts:List Sl} (hl:ts.length=L.length) (h:Hold) (t:Sl):seatsH (L++[h]) (ts++[t])=seatsH L ts++[Reads t (intsI h.seats)]:=by
 unfold seatsH
 rw [List.zip_append hl.symm,List.map_append];rfl
theorem HoldsL.snoc {s:Sl} {L:List Hold} {ts:List Sl} {h:Hold} {t:Sl} (hl:ts.length=L.length) (hw:Sat R (OwnN 4 s 169 (rowsH L ts++[rowH h t])::Reads t (intsI h.seats)::(seatsH L ts++Hs)) w):Sat R (HoldsL s (L++[h])::Hs) w:=by
 refine Sat.holdsL.2 ⟨ts++[t],by simp [hl],?_⟩
 rw [rowsH_snoc hl,seatsH_snoc hl,List.append_assoc]
 exact hw.cons fun _ h5=>h5.perm List.perm_middle.symm
theorem holds_fspec {p:Nat} {f:PF} (hu:(f.hs.map (·.1)).Nodup) (hn:∀ k∈f.hs.map (·.1),-1000000000≤k∧k≤1000000000) (hlen:f.hs.length≤100000) (hR:∀ e∈f.hs,e.2.seats.length≤1000000) (hw:Sat R (FlightAt p f::Hs) w):
  Gets Tryz.prog 95 #[.pointer (some ⟨p,0,none⟩)] w fun v w'=>∃ t:Sl,v=.slice t.a t.len t.cap∧Sat R (HoldsL t (holdsF f)::FlightAt p f::Hs) w':=by
 obtain ⟨hm,om,sg,sl,ss,E,R',hE,_,_,_,_,hw,back⟩:=Sat.flightO hw
 have hk1:(hPtrs E).map (·.1)=f.hs.map (·.1):=by rw [←hE];simp [hPtrs,hEr,Function.comp_def]
 have hel:(hPtrs E).length=f.hs.length:=by rw [←hE];simp [hPtrs,hEr]
 apply call95
 refine NilP.mk rfl ⟨some hm,At.own (eqS hw) (by exact ⟨rfl,trivial⟩),?_⟩
 refine sortedH_rule (es:=hPtrs E) (by rw [hk1];exact hu) (by rw [hk1];exact hn) (by omega) (hw.take (MapAt hm (hPtrs E))) fun sk w hw=>?_
 rw [hk1] at hw
 have hksl:(sortI (f.hs.map (·.1))).length=f.hs.length:=by unfold sortI;rw [List.length_mergeSort,List.length_map]
 have hmem:∀ k∈sortI (f.hs.map (·.1)),k∈f.hs.map (·.1):=fun k hk=>List.mem_mergeSort.1 hk
 unfold holdsF
 generalize sortI (f.hs.map (·.1))=ks at *
 obtain ⟨R2,e2,hks,hw⟩:=Own.leak hw
 have hkl:=hks.len
 rw [List.length_map] at hkl
 have hro:RoI R2 sk ks:=hks.ro (by rw [List.length_map];omega)
 have hw:Sat R2 (FO p hm om sg sl ss E f Hs) w:=hw.arr
 refine ⟨fun out i w=>∃ j:Nat,i=j∧j≤ks.length∧Sat R2 (HoldsL out ((ks.take j).map (holdOf f))::FO p hm om sg sl ss E f Hs) w,fun _ i _=>ks.length - i.toNat,⟨0,rfl,by omega,HoldsL.nil hw⟩,?_⟩
 clear hw
 rintro _ out _ w ⟨j,rfl,hj,hw⟩
 refine Br.d (fun h=>?_) (fun h=>?_)
 ·have hj2:j<ks.length:=by omega
  refine Ro.ix hro (eqS hw) j rfl hj2 ?_
  have hkin:(getM ks[j] E).isSome=true:=by
   have h1:=hmem ks[j] (List.getElem_mem _)
   rw [←hE,hEr,List.map_map] at h1
   obtain ⟨e,he,hek⟩:=List.mem_map.1 h1
   have key:∀ (l:List HE),e∈l→(getM ks[j] l).isSome=true:=fun l=>by
    induction l with
    |nil=>intro h;cases h
    |cons x l ih=>
     intro h
     show (if ks[j]==x.1 then some x.2 else getM ks[j] l).isSome=true
     split
     ·rfl
     ·rename_i hx
      rcases List.mem_cons.1 h with rfl|h
      ·exact absurd (beq_iff_eq.2 hek.symm) hx
      ·exact ih h
   exact key E he
  obtain ⟨⟨b,h⟩,hget⟩:=Option.isSome_iff_exists.1 hkin
  have hof:holdOf f ks[j]=h:=by unfold holdOf;rw [←hE,hEr_get,hget];rfl
  have htk:(ks.take (j + 1)).map (holdOf f)=(ks.take j).map (holdOf f)++[h]:=by
   rw [List.take_add_one,List.getElem?_eq_getElem hj2,Option.toList_some,List.map_append,List.map_singleton,hof]
  have hLl:((ks.take j).map (holdOf f)).length=j:=by rw [List.length_map,List.length_take];omega
  generalize (ks.take j).map (holdOf f)=L at *
  generalize ks[j]=k at *
  obtain ⟨a,c,rfl,hna⟩:=getM_split hget
  have hl:h.seats.length≤1000000:=hR (k,h) (by rw [←hE,hEr_app];simp)
  refine NilP.mk rfl ⟨some hm,At.own (eqS hw) (by exact ⟨rfl,trivial⟩),some ⟨b,0,none⟩,fun w' e=>?_,NilP.mk rfl ?_⟩
  ·rw [show w'=w from e,hold_look (hw.take (MapAt hm (hPtrs (a++(k,b,h)::c)))) k false,hget];rfl
  have hw:Sat R2 (FO p hm om sg sl ss (a++(k,b,h)::c) f (HoldsL out L::Hs)) w:=hw.arr
  obtain ⟨s,hw⟩:=FO.open hw
  refine ⟨h.owner,h.cls,h.many,s,At.own (eqS hw) (by exact ⟨rfl,rfl,rfl,rfl,trivial⟩),?_⟩
  refine new_rule hw fun bh w hw=>?_
  have hw:Sat R2 (pts bh (hCells ⟨0,0,0,[]⟩ ⟨none,0,0⟩)::FO1 p hm om b sg sl ss s (a++(k,b,h)::c) (a++c) f h f.own (HoldsL out L::Hs)) w:=hw
  refine store_rule hw (by kernel_rfl) rfl (by simp [Value.cells]) fun w hw=>?_
  have hw:=hw.re (pts bh (hCells h s))
  refine ⟨s,At.own (eqS hw) (by exact ⟨rfl,trivial⟩),?_⟩
  obtain ⟨R3,hro3,_,hw3,back3⟩:=Own.lend (hw.take (Own s 3 (intsI h.seats))) (by rw [List.length_map];omega)
  refine (cloneI_spec hro3 (by omega) hw3).use ?_
  clear hw hw3
  rintro _ w ⟨t,rfl,hw⟩
  have hw:=back3 hw
  refine ⟨t,rfl,?_⟩
  have hw:Sat R2 (pts bh (hCells h s)::Own t 3 (intsI h.seats)::FO1 p hm om b sg sl ss s (a++(k,b,h)::c) (a++c) f h f.own (HoldsL out L::Hs)) w:=hw.arr
  refine store_rule hw (by kernel_rfl) rfl (by simp [Value.cells]) fun w hw=>?_
  have hw:=hw.re (pts bh (hCells h t))
  refine ⟨h.owner,h.cls,h.many,t,At.own (eqS hw) (by exact ⟨rfl,rfl,rfl,rfl,trivial⟩),?_⟩
  obtain ⟨ts,hts,hw⟩:=Sat.holdsL.1 (hw.take (HoldsL out L))
  have hrl:=rowsH_len hts
  refine pushN_rule (x:=rowH h t) elH hw rfl rfl (by omega) (by omega) fun o2 w hw=>?_
  rw [wrap64 (by omega) (by omega)]
  refine ⟨⟨j + 1,by omega,by omega,?_⟩,by dsimp only;omega⟩
  rw [htk]
  have hw:Sat R2 (OwnN 4 o2 169 (rowsH L ts++[rowH h t])::(seatsH L ts++(Own t 3 (intsI h.seats)::pts bh (hCells h t)::FO1 p hm om b sg sl ss s (a++(k,b,h)::c) (a++c) f h f.own Hs))) w:=
   hw.cons fun _ h5=>h5.perm (List.Perm.append_left _ (Arr.perm (Hs:=_) (Hs':=Own t 3 (intsI h.seats)::pts bh (hCells h t)::FO1 p hm om b sg sl ss s (a++(k,b,h)::c) (a++c) f h f.own Hs)))
  have hw:Sat R2 (OwnN 4 o2 169 (rowsH L ts++[rowH h t])::Reads t (intsI h.seats)::(seatsH L ts++(pts bh (hCells h t)::FO1 p hm om b sg sl ss s (a++(k,b,h)::c) (a++c) f h f.own Hs))) w:=
   hw.cons fun _ h5=>Own.reads (h5.perm List.perm_middle)
  have hw:=HoldsL.snoc hts hw
  exact hw.cons fun _ h5=>FO.close (f:=f) h5.drop
 ·rw [List.take_of_length_le (by omega)] at hw
  refine ⟨out,rfl,?_⟩
  have hw:=e2.back hw
  have hw:=back _ _ hw
  exact Sat.cons (fun _ h5=>Sat.flightC hE h5) (hw.take (HoldsL out (ks.map (holdOf f))))
end Go.Proofs.YtflgboncpbmikaaGreatDoor
/- A flight's bytes. Condition: bounds on lengths. -/
namespace Go.Proofs.YtflgboncpbmikaaGreatDoor
set_option linter.unusedVariables false
set_option linter.unusedSimpArgs false
open Go Go.VC
variable {R:Cx} {Hs Rest:List HP} {w:World}
theorem _root_.Go.VC.Sat.allTru {Hs:List HP}:∀ {R:Cx},Sat R Hs w→Sat R [VC.tru] w:=by
 induction Hs with
 |nil=>exact fun h=>h.tru
 |cons A Hs ih=>exact fun h=>Sat.absorb (h.cons fun _ h=>ih h)
theorem _root_.Go.VC.Sat.restTru2 {A:HP} (h:Sat R (A::Hs) w):Sat R [A,VC.tru] w:=h.cons fun _ h=>h.allTru
theorem _root_.Go.VC.MapAt.len {P:Program} {α:Type} [BEq α] [KeyK α] {m:Nat} {es:List (α × Value)} {T ty:TypeId} (hT:P.underlying T=some (.map (P.mapKeyOf T) (P.mapElemOf T))) (hw:Sat R (MapAt m es::Hs) w):
  (Builtin.len_ #[T] ty #[.map (some m)]).run P w=.ok (.int .i64 es.length) w:=by
 obtain ⟨l,c,hs,hst,hp⟩:=MapAt.iff.1 hw
 rw [run_len_map w T ty m _ c hT hp.at]
 subst hs
 simp [goInt,strip]
def listB (l:List Int):List Int:=numsB [(l.length:Int)]++numsB l
def holdB (h:Hold):List Int:=numsB [h.owner,h.cls,h.many]++listB h.seats
def holdsB (L:List Hold):List Int:=(L.map holdB).flatten
def encB (num rows:Int) (grps lims:List Int) (L:List Hold):List Int:=numsB [num,rows]++listB grps++listB lims++numsB [(L.length:Int)]++holdsB L
abbrev small (l:List Int):Prop:=∀ x∈l,0≤x∧x<9223372036854775808
theorem small_u {l:List Int} (h:small l):∀ x∈l,0≤x∧x<18446744073709551616:=fun x hx=>by have:=h x hx;omega
theorem listB_len {l:List Int} (h:small l) (hl:l.length<9223372036854775808):(listB l).length≤9 * l.length + 9:=by
 unfold listB
 have h1:=numsB_len (small_u h)
 have h2:(numsB [(l.length:Int)]).length≤9:=numsB_len (by intro y hy;simp at hy;omega)
 rw [List.length_append];omega
theorem listB_bd {l:List Int} (h:small l) (hl:l.length<9223372036854775808):∀ y∈listB l,0≤y∧y<256:=by
 unfold listB
 intro y hy
 rcases List.mem_append.1 hy with hy|hy
 ·exact numsB_bd (by intro y hy;simp at hy;omega) y hy
 ·exact numsB_bd (small_u h) y hy
structure HSmall (h:Hold):Prop where
 o:0≤h.owner∧h.owner<9223372036854775808
 c:0≤h.cls∧h.cls<9223372036854775808
 m:0≤h.many∧h.many<9223372036854775808
 s:small h.seats
 n:h.seats.length≤1000
theorem HSmall.three {h:Hold} (a:HSmall h):small [h.owner,h.cls,h.many]:=by
 intro x hx
 rcases List.mem_cons.1 hx with rfl|hx
 ·exact a.o
 rcases List.mem_cons.1 hx with rfl|hx
 ·exact a.c
 rw [List.mem_singleton.1 hx];exact a.m
theorem holdB_len {h:Hold} (a:HSmall h):(holdB h).length≤9036:=by
 unfold holdB
 have h1:(numsB [h.owner,h.cls,h.many]).length≤27:=numsB_len (small_u a.three)
 have h2:=listB_len a.s (by have:=a.n;omega)
 have:=a.n
 rw [List.length_append];omega
theorem holdB_bd {h:Hold} (a:HSmall h):∀ y∈holdB h,0≤y∧y<256:=by
 unfold holdB
 intro y hy
 rcases List.mem_append.1 hy with hy|hy
 ·exact numsB_bd (small_u a.three) y hy
 ·exact listB_bd a.s (by have:=a.n;omega) y hy
theorem holdsB_len:∀ {L:List Hold},(∀ h∈L,HSmall h)→(holdsB L).length≤9036 * L.length
 |[],_=>Nat.le_refl _
 |h::L,a=>by
  have h1:=holdB_len (a h List.mem_cons_self)
  have h2:=holdsB_len fun x hx=>a x (List.mem_cons_of_mem _ hx)
  show (holdB h++holdsB L).length≤_
  rw [List.length_append,List.length_cons];omega
theorem holdsB_bd:∀ {L:List Hold},(∀ h∈L,HSmall h)→∀ y∈holdsB L,0≤y∧y<256
 |[],_=>fun y hy=>by cases hy
 |h::L,a=>by
  intro y hy
  have hy:y∈holdB h++holdsB L:=hy
  rcases List.mem_append.1 hy with hy|hy
  ·exact holdB_bd (a h List.mem_cons_self) y hy
  ·exact holdsB_bd (fun x hx=>a x (List.mem_cons_of_mem _ hx)) y hy
theorem holdsB_take {L:List Hold} {j:Nat} (h:j<L.length):holdsB (L.take (j + 1))=holdsB (L.take j)++holdB L[j]:=by
 unfold holdsB
 rw [List.take_add_one,List.getElem?_eq_getElem h,List.map_append,List.flatten_append]
 simp only [Option.toList_some,List.map_cons,List.map_nil,List.flatten_cons,List.flatten_nil,List.append_nil]
abbrev putV (pb:Nat):Value:=.func (.func 93) #[] #[.pointer (some ⟨pb,0,none⟩)]
abbrev putC (bp pb:Nat):HP:=pts bp (.cells [putV pb].toArray 114 (0,0))
theorem put_few {bn pb:Nat} {bs xs:List Int} {n:Nat} (hn:n=xs.length) (hxs:small xs) (hl:bs.length + 9 * xs.length≤1099511627776) (hw:Sat R (pts bn (.cells (xs.map (Value.int .i64)).toArray 3 (0,0))::OutB pb bs::Hs) w):
  CalW Tryz.prog cl (putV pb) [.slice (some ⟨bn,0,none⟩) n n] w fun e w'=>e=.returned (.tuple #[])∧Sat R (OutB pb (bs++numsB xs)::Hs) w':=by
 refine CalW.mk (by kernel_rfl) ?_
 have hw:=own_lit (n:=n) hw (by rw [List.length_map];exact hn)
 obtain ⟨R1,hr1,keep1,hw,back1⟩:=Own.lendI hw (by omega)
 refine (eput_spec (s:=⟨some ⟨bn,0,none⟩,n,n⟩) hxs hl hr1 hw).use ?_
 rintro _ w ⟨rfl,hw⟩
 exact ⟨rfl,(back1 hw).drop⟩
theorem elist_spec {bp pb:Nat} {s:Sl} {xs bs:List Int} (hxs:small xs) (hl:bs.length + 9 * xs.length≤1000000000) (hs:RoI R s xs) (hw:Sat R (putC bp pb::OutB pb bs::Hs) w):
  Gets Tryz.prog 94 #[.slice s.a s.len s.cap,.pointer (some ⟨bp,0,none⟩)] w fun v w'=>v=.tuple #[]∧Sat R (putC bp pb::OutB pb (bs++listB xs)::Hs) w':=by
 have hsl:=hs.len
 have h1:(numsB [(xs.length:Int)]).length≤9:=numsB_len (by intro y hy;simp at hy;omega)
 apply call94
 refine NilP.mk rfl ⟨putV pb,At.own (eqS hw) (by exact ⟨rfl,trivial⟩),?_⟩
 rw [hsl]
 refine new_rule hw fun bn w hw=>?_
 have hw:Sat R (pts bn (.cells ([(xs.length:Int)].map (Value.int .i64)).toArray 3 (0,0))::OutB pb bs::putC bp pb::Hs) w:=hw.cons fun _ h=>h.swap
 refine (put_few (n:=1) (by rfl) (by intro y hy;simp at hy;omega) (by simp;omega) hw).mono ?_
 rintro _ w ⟨rfl,hw⟩
 refine ⟨rfl,NilP.mk rfl ⟨putV pb,At.own (eqS hw) (by exact ⟨rfl,trivial⟩),CalW.mk (by kernel_rfl) ?_⟩⟩
 rw [←hsl]
 refine (eput_spec hxs (by rw [List.length_append];omega) hs hw).use ?_
 rintro _ w ⟨rfl,hw⟩
 refine ⟨rfl,rfl,?_⟩
 rw [List.append_assoc] at hw
 exact hw.swap
end Go.Proofs.YtflgboncpbmikaaGreatDoor

/- A flight, plain: each step of the program's goes with the document's; what holds of a flight holds on. Condition: none. -/
namespace Go.Proofs.YtflgboncpbmikaaGreatDoor
set_option linter.unusedVariables false
set_option linter.unusedSimpArgs false
open Go Go.VC
section
variable {β:Type}
theorem getM_cons (k:Int) (e:Int × β) (l:List (Int × β)):getM k (e::l)=if k=e.1 then some e.2 else getM k l:=by
 show (if k==e.1 then some e.2 else getM k l)=_
 by_cases h:k=e.1
 ·rw [if_pos h,if_pos (beq_iff_eq.2 h)]
 ·rw [if_neg h,if_neg (fun h'=>h (beq_iff_eq.1 h'))]
theorem getM_mem {k:Int}:∀ {l:List (Int × β)},(getM k l).isSome=true↔k∈l.map (·.1)
 |[]=>by simp [getM]
 |e::l=>by
  rw [getM_cons,List.map_cons,List.mem_cons]
  split
  ·rename_i h;simp [h]
  ·rename_i h;rw [getM_mem (l:=l)];simp [h]
theorem getM_no {k:Int} {l:List (Int × β)}:getM k l=none↔k ∉ l.map (·.1):=by
 rw [←getM_mem,Option.isSome_iff_ne_none];simp
theorem getM_app2 (k:Int):∀ (a b:List (Int × β)),getM k (a++b)=if k∈a.map (·.1) then getM k a else getM k b
 |[],b=>by simp
 |e::a,b=>by
  show getM k (e::(a++b))=_
  rw [getM_cons,getM_cons,getM_app2 k a b,List.map_cons]
  by_cases h:k=e.1
  ·rw [if_pos h,if_pos (by rw [h];exact List.mem_cons_self),if_pos h]
  ·rw [if_neg h,if_neg h]
   by_cases h2:k∈a.map (·.1)
   ·rw [if_pos h2,if_pos (List.mem_cons_of_mem _ h2)]
   ·rw [if_neg h2,if_neg]
    intro h3
    rcases List.mem_cons.1 h3 with h3|h3
    ·exact h h3
    ·exact h2 h3
theorem setM_keys {k:Int} {v:β}:∀ {l:List (Int × β)},(setM k v l).map (·.1)=l.map (·.1)
 |[]=>rfl
 |e::l=>by
  show List.map _ (if k==e.1 then (e.1,v)::l else e::setM k v l)=_
  split
  ·rfl
  ·rw [List.map_cons,setM_keys];rfl
theorem getM_setM {k k':Int} {v:β}:∀ {l:List (Int × β)},(getM k l).isSome=true→getM k' (setM k v l)=if k'=k then some v else getM k' l
 |[],h=>by cases h
 |e::l,h=>by
  show getM k' (if k==e.1 then (e.1,v)::l else e::setM k v l)=_
  rw [getM_cons] at h
  by_cases h1:k=e.1
  ·rw [if_pos (beq_iff_eq.2 h1),getM_cons,getM_cons,h1]
   split<;>rfl
  ·rw [if_neg h1] at h
   rw [if_neg (fun h'=>h1 (beq_iff_eq.1 h')),getM_cons,getM_cons,getM_setM h]
   by_cases h2:k'=e.1
   ·rw [if_pos h2,if_pos h2,if_neg (fun h3=>h1 (h3.symm.trans h2))]
   ·rw [if_neg h2,if_neg h2]
theorem getM_putM (k k':Int) (v:β) (l:List (Int × β)):getM k' (putM k v l)=if k'=k then some v else getM k' l:=by
 unfold putM
 split
 ·rename_i h;exact getM_setM h
 ·rename_i h
  rw [getM_app2]
  have hk:getM k l=none:=by cases hg:getM k l with|none=>rfl|some x=>rw [hg] at h;simp at h
  by_cases h1:k'=k
  ·rw [if_pos h1,if_neg (by rw [h1];exact getM_no.1 hk),getM_cons,if_pos h1]
  ·rw [if_neg h1]
   by_cases h2:k'∈l.map (·.1)
   ·rw [if_pos h2]
   ·rw [if_neg h2,getM_cons,if_neg h1,getM_no.2 h2];rfl
theorem putM_nodup {k:Int} {v:β} {l:List (Int × β)} (h:(l.map (·.1)).Nodup):((putM k v l).map (·.1)).Nodup:=by
 unfold putM
 split
 ·rw [setM_keys];exact h
 ·rename_i hk
  rw [List.map_append,List.nodup_append]
  refine ⟨h,by simp,fun a ha b hb=>?_⟩
  rw [List.map_cons,List.map_nil,List.mem_singleton] at hb
  rintro rfl
  rw [hb] at ha
  exact hk (getM_mem.2 ha)
theorem delM_sub (k:Int):∀ l:List (Int × β),(delM k l).Sublist l
 |[]=>List.Sublist.refl _
 |e::l=>by
  show (if k==e.1 then l else e::delM k l).Sublist _
  split
  ·exact List.sublist_cons_self _ _
  ·exact (delM_sub k l).cons_cons e
theorem delM_nodup {k:Int} {l:List (Int × β)} (h:(l.map (·.1)).Nodup):((delM k l).map (·.1)).Nodup:=h.sublist ((delM_sub k l).map _)
theorem getM_delM {k k':Int}:∀ {l:List (Int × β)},(l.map (·.1)).Nodup→getM k' (delM k l)=if k'=k then none else getM k' l
 |[],_=>by simp [getM,delM]
 |e::l,h=>by
  rw [List.map_cons,List.nodup_cons] at h
  show getM k' (if k==e.1 then l else e::delM k l)=_
  by_cases h1:k=e.1
  ·rw [if_pos (beq_iff_eq.2 h1),getM_cons]
   by_cases h2:k'=k
   ·rw [if_pos h2,getM_no];rw [h2,h1];exact h.1
   ·rw [if_neg h2,if_neg (fun h3=>h2 (h3.trans h1.symm))]
  ·rw [if_neg (fun h'=>h1 (beq_iff_eq.1 h')),getM_cons,getM_cons,getM_delM h.2]
   by_cases h2:k'=e.1
   ·rw [if_pos h2,if_pos h2,if_neg (fun h3=>h1 (h3.symm.trans h2))]
   ·rw [if_neg h2,if_neg h2]
theorem delAll_get {l:List Int}:∀ {own:List (Int × Int)},(own.map (·.1)).Nodup→((delAll l own).map (·.1)).Nodup∧∀ n,getM n (delAll l own)=if n∈l then none else getM n own:=by
 induction l with
 |nil=>exact fun h=>⟨h,fun n=>by simp [delAll]⟩
 |cons x l ih=>
  intro own h
  obtain ⟨h1,h2⟩:=ih (own:=delM x own) (delM_nodup h)
  refine ⟨h1,fun n=>?_⟩
  have e:delAll (x::l) own=delAll l (delM x own):=rfl
  rw [e,h2,getM_delM h]
  by_cases hn:n∈l
  ·rw [if_pos hn,if_pos (List.mem_cons_of_mem _ hn)]
  ·rw [if_neg hn]
   by_cases hx:n=x
   ·rw [if_pos hx,if_pos (by rw [hx];exact List.mem_cons_self)]
   ·rw [if_neg hx,if_neg]
    intro h3
    rcases List.mem_cons.1 h3 with h3|h3
    ·exact hx h3
    ·exact hn h3
theorem putAll_get {o:Int} {l:List Int}:∀ {own:List (Int × Int)},(own.map (·.1)).Nodup→((putAll o l own).map (·.1)).Nodup∧∀ n,getM n (putAll o l own)=if n∈l then some o else getM n own:=by
 induction l with
 |nil=>exact fun h=>⟨h,fun n=>by simp [putAll]⟩
 |cons x l ih=>
  intro own h
  obtain ⟨h1,h2⟩:=ih (own:=putM x o own) (putM_nodup h)
  refine ⟨h1,fun n=>?_⟩
  have e:putAll o (x::l) own=putAll o l (putM x o own):=rfl
  rw [e,h2,getM_putM]
  by_cases hn:n∈l
  ·rw [if_pos hn,if_pos (List.mem_cons_of_mem _ hn)]
  ·rw [if_neg hn]
   by_cases hx:n=x
   ·rw [if_pos hx,if_pos (by rw [hx];exact List.mem_cons_self)]
   ·rw [if_neg hx,if_neg]
    intro h3
    rcases List.mem_cons.1 h3 with h3|h3
    ·exact hx h3
    ·exact hn h3
end
theorem mem_insS {n x:Int}:∀ {l:List Int},x∈insS n l↔x=n∨x∈l
 |[]=>by simp [insS]
 |y::l=>by
  unfold insS
  split
  ·rw [List.mem_cons,mem_insS,List.mem_cons]
   constructor
   ·rintro (h|h|h)
    ·exact .inr (.inl h)
    ·exact .inl h
    ·exact .inr (.inr h)
   ·rintro (h|h|h)
    ·exact .inr (.inl h)
    ·exact .inl h
    ·exact .inr (.inr h)
  ·rw [List.mem_cons]
theorem rise_iff {l:List Int}:Rise l↔l.Pairwise (·<·):=by
 rw [List.pairwise_iff_getElem]
 exact ⟨fun h i j hi hj hij=>h i j hj hij,fun h i j hj hij=>h i j (by omega) hj hij⟩
theorem insS_pw {n:Int}:∀ {l:List Int},l.Pairwise (·<·)→n ∉ l→(insS n l).Pairwise (·<·)
 |[],_,_=>by simp [insS]
 |x::l,hp,hn=>by
  obtain ⟨h1,h2⟩:=List.pairwise_cons.1 hp
  have hx:n≠x:=fun e=>hn (by rw [e];exact List.mem_cons_self)
  unfold insS
  split
  ·refine List.pairwise_cons.2 ⟨fun y hy=>?_,insS_pw h2 fun h=>hn (List.mem_cons_of_mem _ h)⟩
   rcases mem_insS.1 hy with rfl|hy
   ·assumption
   ·exact h1 y hy
  ·refine List.pairwise_cons.2 ⟨fun y hy=>?_,hp⟩
   rcases List.mem_cons.1 hy with rfl|hy
   ·omega
   ·have:=h1 y hy;omega
theorem fromN_add {sold:List Int} {c:Nat} {m:Int} (hc:c<sold.length):∀ (t k:Nat),k + t=sold.length→fromN (sold.set c (sold.getD c 0 + m)) k=fromN sold k + (if k≤c then m else 0)
 |0,k,h=>by
  rw [fromN_end (by rw [List.length_set];omega),fromN_end (by omega),if_neg (by omega)];rfl
 |t + 1,k,h=>by
  have ih:=fromN_add (m:=m) hc t (k + 1) (by omega)
  rw [fromN_step (k:=k) (by rw [List.length_set];omega),fromN_step (sold:=sold) (k:=k) (by omega),ih,List.getElem_set]
  by_cases e:c=k
  ·subst e
   rw [if_pos rfl,if_neg (by omega),if_pos (Nat.le_refl _),getD_lt hc];omega
  ·rw [if_neg e]
   by_cases h2:k≤c
   ·rw [if_pos (by omega),if_pos h2];omega
   ·rw [if_neg (by omega),if_neg h2];omega
def totL:List Hold→Int
 |[]=>0
 |h::L=>h.many + totL L
theorem soldL_nil (n:Nat):soldL n []=List.replicate n 0:=by
 apply List.ext_getElem
 ·simp [soldL]
 ·intro i h1 h2;rw [soldL_get];simp [cntL]
theorem fromN_zero (n:Nat):∀ t k:Nat,k + t=n→fromN (List.replicate n (0:Int)) k=0
 |0,k,h=>fromN_end (by rw [List.length_replicate];omega)
 |t + 1,k,h=>by rw [fromN_step (by rw [List.length_replicate];omega),fromN_zero n t (k + 1) (by omega)];simp
theorem totL_from {n:Nat}:∀ {L:List Hold},(∀ h∈L,0≤h.cls∧h.cls<n)→fromN (soldL n L) 0=totL L
 |[],_=>by rw [soldL_nil,fromN_zero n n 0 (by omega)];rfl
 |h::L,hc=>by
  have h0:=hc h List.mem_cons_self
  have ih:=totL_from fun x hx=>hc x (List.mem_cons_of_mem _ hx)
  rw [←soldL_put (List.Perm.refl (h::L)) h0.1 h0.2,fromN_add (by rw [soldL_len];omega) n 0 (by rw [soldL_len];omega),if_pos (by omega),ih]
  show _=h.many + totL L
  omega
theorem cntL_nn {k:Int}:∀ {L:List Hold},(∀ h∈L,1≤h.many)→0≤cntL k L
 |[],_=>Int.le_refl _
 |h::L,hm=>by
  have ih:=cntL_nn (k:=k) fun x hx=>hm x (List.mem_cons_of_mem _ hx)
  have h1:=hm h List.mem_cons_self
  rw [cntL_cons]
  split<;>omega
theorem nest_le {lim a b:List Int} (h:nestOk lim a=true) (hl:b.length=a.length) (hb:∀ k,k<lim.length→0≤b.getD k 0∧b.getD k 0≤a.getD k 0):nestOk lim b=true:=by
 obtain ⟨h1,h2,h3⟩:=nestOk_iff.1 h
 refine nestOk_iff.2 ⟨h1,hl.trans h2,fun k hk=>⟨⟨(hb k hk).1,Int.le_trans (hb k hk).2 (h3 k hk).1.2⟩,?_⟩⟩
 refine Int.le_trans ?_ (h3 k hk).2
 have key:∀ t k:Nat,k + t=lim.length→fromN b k≤fromN a k:=by
  intro t
  induction t with
  |zero=>intro k hk;rw [fromN_end (by omega),fromN_end (by omega)];exact Int.le_refl _
  |succ t ih=>
   intro k hk
   rw [fromN_step (sold:=b) (by omega),fromN_step (sold:=a) (by omega)]
   have e1:=ih (k + 1) (by omega)
   have e2:=(hb k (by omega)).2
   rw [getD_lt (by omega),getD_lt (by omega)] at e2
   omega
 exact key (lim.length - k) k (by omega)
theorem nest_zero {lim:List Int} (h:limOk lim=true):nestOk lim (List.replicate lim.length 0)=true:=by
 refine nestOk_iff.2 ⟨h,by simp,fun k hk=>?_⟩
 rw [fromN_zero lim.length (lim.length - k) k (by omega),List.getD_eq_getElem?_getD]
 have:=(limOk_iff.1 h).2 k hk
 rw [getD_lt hk]
 simp [hk]
 omega
theorem fromN_ge {a:List Int} (h:∀ k,k<a.length→0≤a.getD k 0):∀ t k:Nat,k + t=a.length→0≤fromN a k
 |0,k,e=>by rw [fromN_end (by omega)];exact Int.le_refl _
 |t + 1,k,e=>by
  have h1:=fromN_ge h t (k + 1) (by omega)
  have h2:=h k (by omega)
  rw [getD_lt (by omega)] at h2
  rw [fromN_step (by omega)];omega
theorem nest_sell {lim sold:List Int} {c many:Int} (h:(sellT lim sold c many).2=0):
  (sellT lim sold c many).1=sold.set c.toNat (sold.getD c.toNat 0 + many)∧nestOk lim (sellT lim sold c many).1=true∧0≤c∧c<lim.length∧1≤many:=by
 unfold sellT at h ⊢
 split at h
 ·cases h
 split at h
 ·cases h
 rename_i h1 h2
 rw [if_neg h1,if_neg h2]
 have h3:(leftT lim sold c).2=0:=Classical.byContradiction fun e=>h1 (.inl e)
 obtain ⟨hn,hc0,hc1⟩:=left_ok h3
 have hl:(leftT lim sold c).1=mnF (roomF lim sold) (c.toNat + 1):=by unfold leftT;rw [if_pos ⟨hn,hc0,hc1⟩]
 rw [hl] at h2
 obtain ⟨i1,i2,i3⟩:=nestOk_iff.1 hn
 have hm:=mnF_is (roomF lim sold) (c.toNat + 1)
 suffices key:nestOk lim (sold.set c.toNat (sold.getD c.toNat 0 + many))=true from ⟨rfl,key,hc0,hc1,by omega⟩
 refine nestOk_iff.2 ⟨i1,by rw [List.length_set];exact i2,fun k hk=>?_⟩
 have hf:=fromN_add (sold:=sold) (c:=c.toNat) (m:=many) (by omega) (lim.length - k) k (by omega)
 have hk3:=i3 k hk
 have hle:fromN (sold.set c.toNat (sold.getD c.toNat 0 + many)) k≤lim.getD k 0:=by
  rw [hf]
  split
  ·have h5:mnF (roomF lim sold) (c.toNat + 1)≤lim.getD k 0 - fromN sold k:=hm.2.1 k (by omega) (by omega)
   omega
  ·omega
 refine ⟨?_,hle⟩
 have hnn:∀ j,j<(sold.set c.toNat (sold.getD c.toNat 0 + many)).length→0≤(sold.set c.toNat (sold.getD c.toNat 0 + many)).getD j 0:=fun j hj=>by
  rw [List.length_set] at hj
  rw [getD_lt (by rw [List.length_set];exact hj),List.getElem_set]
  have hj3:=i3 j (by omega)
  rw [getD_lt hj] at hj3
  split
  ·rename_i e
   have h9:=i3 c.toNat (by omega)
   omega
  ·omega
 have h0:=hnn k (by rw [List.length_set];omega)
 refine ⟨h0,?_⟩
 have hs:=fromN_step (sold:=sold.set c.toNat (sold.getD c.toNat 0 + many)) (k:=k) (by rw [List.length_set];omega)
 have hg:=fromN_ge hnn (lim.length - (k + 1)) (k + 1) (by rw [List.length_set];omega)
 have hlk:=((limOk_iff.1 i1).2 k hk).1.2
 rw [getD_lt (by rw [List.length_set];omega)]
 rw [getD_lt hk] at hle
 omega
variable {f:PF} {r:RF}
theorem mem_taken {L:List Hold} {x:Int}:x∈takenL L↔∃ h∈L,x∈h.seats:=List.mem_flatMap
theorem tie_take (t:Tie f r) (g:Good r) (o c m:Int):(takeF f o c m).2=(rtakeF r o c m).2∧Tie (takeF f o c m).1 (rtakeF r o c m).1∧Good (rtakeF r o c m).1:=by
 unfold takeF rtakeF
 rw [t.get g.rise,t.lims,t.sold]
 split
 ·exact ⟨rfl,t,g⟩
 rename_i ho
 split
 ·exact ⟨rfl,t,g⟩
 rename_i hn
 have hno:getO o r.L=none:=by cases e:getO o r.L with|none=>rfl|some x=>rw [e] at hn;simp at hn
 split
 ·rename_i hs
  obtain ⟨e1,e2,c0,c1,hm⟩:=nest_sell hs
  have hsold:(sellT r.lims r.sold c m).1=soldL r.lims.length (insH ⟨o,c,m,[]⟩ r.L):=by
   rw [e1];exact soldL_put (h:=⟨o,c,m,[]⟩) (insH_perm _ _) c0 c1
  refine ⟨rfl,⟨t.num,t.rows,t.grps,rfl,hsold,?_,?_,?_,t.nod⟩,⟨g.num,g.lay,?_,g.l0,insH_rise g.rise hno,?_,?_⟩⟩
  ·show ((f.hs++[(o,(⟨o,c,m,[]⟩:Hold))]).map (·.2)).Perm _
   rw [List.map_append]
   refine (List.perm_append_comm.trans ?_).trans (insH_perm _ _).symm
   exact t.hs.cons _
  ·intro e he
   rcases List.mem_append.1 he with he|he
   ·exact t.key e he
   ·rw [List.mem_singleton.1 he]
  ·intro n o'
   show getM n f.own=some o'↔_
   rw [t.own]
   constructor
   ·rintro ⟨h,hh,e,hs⟩;exact ⟨h,(insH_perm _ _).mem_iff.2 (List.mem_cons_of_mem _ hh),e,hs⟩
   ·rintro ⟨h,hh,e,hs⟩
    rcases List.mem_cons.1 ((insH_perm _ _).mem_iff.1 hh) with rfl|hh
    ·cases hs
    ·exact ⟨h,hh,e,hs⟩
  ·show nestOk r.lims (soldL r.lims.length (insH ⟨o,c,m,[]⟩ r.L))=true
   rw [←hsold];exact e2
  ·intro h hh
   rcases List.mem_cons.1 ((insH_perm _ _).mem_iff.1 hh) with rfl|hh
   ·exact ⟨by dsimp only;omega,⟨c0,c1⟩,hm,fun i j hj=>by simp at hj,by simp;omega,fun x hx=>by cases hx⟩
   ·exact g.each h hh
  ·show (insH ⟨o,c,m,[]⟩ r.L).Pairwise _
   refine ((insH_perm _ _).pairwise_iff fun {a b} h x hx hx'=>h x hx' hx).2 (List.pairwise_cons.2 ⟨fun y _ x hx=>(by cases hx),g.apart⟩)
 ·exact ⟨rfl,t,g⟩
theorem soldL_mid {n:Nat} {A C:List Hold} {h h':Hold} (e1:h'.cls=h.cls) (e2:h'.many=h.many):soldL n (A++h'::C)=soldL n (A++h::C):=by
 unfold soldL
 refine List.map_congr_left fun k _=>?_
 rw [cntL_app,cntL_app]
 simp only [cntL,e1,e2]
theorem apart_mid {A C:List Hold} {h:Hold} (g:(A++h::C).Pairwise fun a b=>∀ x∈a.seats,x ∉ b.seats):(∀ y∈A++C,∀ x∈h.seats,x ∉ y.seats)∧(A++C).Pairwise fun a b=>∀ x∈a.seats,x ∉ b.seats:=by
 have p:(A++h::C).Perm (h::(A++C)):=List.perm_middle
 have:=(p.pairwise_iff fun {a b} h x hx hx'=>h x hx' hx).1 g
 exact List.pairwise_cons.1 this
theorem mem_mid {A C:List Hold} {h y:Hold} (hy:y∈A++C):y∈A++h::C:=by
 rw [List.mem_append] at hy
 rw [List.mem_append,List.mem_cons]
 rcases hy with hy|hy
 ·exact .inl hy
 ·exact .inr (.inr hy)
theorem good_set {A C:List Hold} {h h':Hold} (g:Good r) (hL:r.L=A++h::C) (e1:h'.owner=h.owner) (e2:h'.cls=h.cls) (e3:h'.many=h.many) (hr:Rise h'.seats) (hf:(h'.seats.length:Int)≤h.many)
  (hs:∀ x∈h'.seats,x∈h.seats∨(x ∉ takenL r.L∧0≤x∧x<layN r.rows r.grps)):Good { r with L:=A++h'::C }:=by
 have hh:=g.each h (by rw [hL];simp)
 have hap:=g.apart
 rw [hL] at hap
 obtain ⟨a1,a2⟩:=apart_mid hap
 refine ⟨g.num,g.lay,?_,g.l0,?_,?_,?_⟩
 ·show nestOk r.lims (soldL r.lims.length (A++h'::C))=true
  rw [soldL_mid e2 e3,←hL];exact g.nest
 ·have:=g.rise;rw [hL] at this;exact owR_mid e1 this
 ·intro x hx
  show HoldOk r.lims.length (layN r.rows r.grps) x
  have hx:x∈A++h'::C:=hx
  rw [List.mem_append,List.mem_cons] at hx
  rcases hx with hx|rfl|hx
  ·exact g.each x (by rw [hL];simp [hx])
  ·exact ⟨by rw [e1];exact hh.owner,by rw [e2];exact hh.cls,by rw [e3];exact hh.many,hr,by rw [e3];exact hf,fun y hy=>by
    rcases hs y hy with hy|hy
    ·exact hh.seats y hy
    ·exact hy.2⟩
  ·exact g.each x (by rw [hL];simp [hx])
 ·show (A++h'::C).Pairwise _
  refine ((List.perm_middle (a:=h') (l₁:=A) (l₂:=C)).pairwise_iff fun {a b} h x hx hx'=>h x hx' hx).2 (List.pairwise_cons.2 ⟨fun y hy x hx=>?_,a2⟩)
  rcases hs x hx with hx|hx
  ·exact a1 y hy x hx
  ·exact fun hxy=>hx.1 (mem_taken.2 ⟨y,by rw [hL];exact mem_mid hy,hxy⟩)
theorem tie_set {A C:List Hold} {h h':Hold} {own':List (Int × Int)} (t:Tie f r) (g:Good r) (hL:r.L=A++h::C) (hA:getO h.owner A=none) (e1:h'.owner=h.owner) (e2:h'.cls=h.cls) (e3:h'.many=h.many)
  (hs:∀ x∈h'.seats,x∈h.seats∨x ∉ takenL r.L) (hn:(own'.map (·.1)).Nodup) (ho:∀ n,getM n own'=if n∈h'.seats then some h.owner else if n∈h.seats then none else getM n f.own):
  Tie { f with hs:=setM h.owner h' f.hs,own:=own' } { r with L:=A++h'::C }:=by
 have hap:=g.apart
 rw [hL] at hap
 obtain ⟨a1,a2⟩:=apart_mid hap
 have hg:getM h.owner f.hs=some h:=by rw [t.get g.rise,hL];exact getO_app rfl hA
 obtain ⟨a,c,hsp,hna⟩:=getM_split hg
 have hset:setM h.owner h' f.hs=a++(h.owner,h')::c:=by rw [hsp];exact setM_app hna (int_rfl _)
 refine ⟨t.num,t.rows,t.grps,t.lims,?_,?_,?_,?_,hn⟩
 ·show f.sold=soldL r.lims.length (A++h'::C)
  rw [soldL_mid e2 e3,←hL];exact t.sold
 ·show ((setM h.owner h' f.hs).map (·.2)).Perm (A++h'::C)
  have p:=t.hs
  rw [hsp,hL,List.map_append,List.map_cons] at p
  rw [hset,List.map_append,List.map_cons]
  have p2:=(List.perm_middle.symm.trans p).trans List.perm_middle
  exact (List.perm_middle.trans (p2.cons_inv.cons h')).trans List.perm_middle.symm
 ·show ∀ e∈setM h.owner h' f.hs,e.2.owner=e.1
  rw [hset]
  intro e he
  rw [List.mem_append,List.mem_cons] at he
  rcases he with he|rfl|he
  ·exact t.key e (by rw [hsp];simp [he])
  ·exact e1
  ·exact t.key e (by rw [hsp];simp [he])
 ·intro n o
  show getM n own'=some o↔∃ x∈A++h'::C,x.owner=o∧n∈x.seats
  rw [ho]
  constructor
  ·intro e
   split at e
   ·rename_i hn';cases e
    exact ⟨h',by simp,e1,hn'⟩
   ·split at e
    ·cases e
    ·rename_i h1 h2
     obtain ⟨x,hx,hxo,hxn⟩:=(t.own n o).1 e
     rw [hL,List.mem_append,List.mem_cons] at hx
     rcases hx with hx|rfl|hx
     ·exact ⟨x,by simp [hx],hxo,hxn⟩
     ·exact absurd hxn h2
     ·exact ⟨x,by simp [hx],hxo,hxn⟩
  ·rintro ⟨x,hx,hxo,hxn⟩
   rw [List.mem_append,List.mem_cons] at hx
   have other:x∈A++C→(if n∈h'.seats then some h.owner else if n∈h.seats then none else getM n f.own)=some o:=fun hx=>by
    have hxL:x∈r.L:=by rw [hL];exact mem_mid hx
    have n1:n ∉ h.seats:=fun hh=>a1 x hx n hh hxn
    have n2:n ∉ h'.seats:=fun hh=>by
     rcases hs n hh with hh|hh
     ·exact n1 hh
     ·exact hh (mem_taken.2 ⟨x,hxL,hxn⟩)
    rw [if_neg n2,if_neg n1]
    exact (t.own n o).2 ⟨x,hxL,hxo,hxn⟩
   rcases hx with hx|rfl|hx
   ·exact other (by simp [hx])
   ·rw [if_pos hxn,←hxo,e1]
   ·exact other (by simp [hx])
theorem tie_seat (t:Tie f r) (g:Good r) (o:Int) (lab:ByteArray) (hf:∀ k,findT r.rows r.grps lab=(k,0)→0≤k∧k<layN r.rows r.grps):
  (seatF f o lab).2=(rseatF r o lab).2∧Tie (seatF f o lab).1 (rseatF r o lab).1∧Good (rseatF r o lab).1:=by
 unfold seatF rseatF
 rw [t.get g.rise]
 cases hg:getO o r.L with
 |none=>exact ⟨rfl,t,g⟩
 |some h=>
  obtain ⟨A,C,hL,hA,rfl⟩:=getO_split hg
  have hh:=g.each h (by rw [hL];simp)
  dsimp only
  rw [show findT f.rows f.grps lab=findT r.rows r.grps lab by rw [t.rows,t.grps]]
  split
  ·exact ⟨rfl,t,g⟩
  rename_i h2
  split
  ·exact ⟨rfl,t,g⟩
  rename_i h3
  have hfe:(findT r.rows r.grps lab).2=0:=Classical.byContradiction h2
  have hb:=hf (findT r.rows r.grps lab).1 (by rw [←hfe])
  by_cases h4:(findT r.rows r.grps lab).1∈takenL r.L
  ·rw [if_pos ((t.taken _).2 h4),if_pos h4];exact ⟨rfl,t,g⟩
  ·rw [if_neg (fun e=>h4 ((t.taken _).1 e)),if_neg h4]
   generalize (findT r.rows r.grps lab).1=n at *
   have hset:setO h.owner (h.put n) r.L=A++h.put n::C:=by rw [hL];exact setO_app rfl hA
   rw [hset]
   have hnh:n ∉ h.seats:=fun e=>h4 (mem_taken.2 ⟨h,by rw [hL];simp,e⟩)
   have hs:∀ x∈(h.put n).seats,x∈h.seats∨(x ∉ takenL r.L∧0≤x∧x<layN r.rows r.grps):=fun x hx=>by
    rcases mem_insS.1 hx with rfl|hx
    ·exact .inr ⟨h4,hb⟩
    ·exact .inl hx
   refine ⟨rfl,tie_set (h':=h.put n) t g hL hA rfl rfl rfl (fun x hx=>(hs x hx).imp id (·.1)) (putM_nodup t.nod) fun x=>?_,good_set (h':=h.put n) g hL rfl rfl rfl ?_ ?_ hs⟩
   ·rw [getM_putM]
    show _=if x∈insS n h.seats then some h.owner else _
    by_cases hx:x=n
    ·rw [if_pos hx,if_pos (mem_insS.2 (.inl hx))]
    ·rw [if_neg hx]
     by_cases hx2:x∈h.seats
     ·rw [if_pos (mem_insS.2 (.inr hx2))]
      exact (t.own x h.owner).2 ⟨h,by rw [hL];simp,rfl,hx2⟩
     ·rw [if_neg (fun e=>(mem_insS.1 e).elim hx hx2),if_neg hx2]
   ·exact rise_iff.2 (insS_pw (rise_iff.1 hh.rise) hnh)
   ·show ((insS n h.seats).length:Int)≤_
    rw [insS_len];omega
theorem tie_give (t:Tie f r) (g:Good r) (o:Int):(giveF f o).2=(rgiveF r o).2∧Tie (giveF f o).1 (rgiveF r o).1∧Good (rgiveF r o).1:=by
 unfold giveF rgiveF
 rw [t.get g.rise]
 cases hg:getO o r.L with
 |none=>exact ⟨rfl,t,g⟩
 |some h=>
  obtain ⟨A,C,hL,hA,rfl⟩:=getO_split hg
  have hh:=g.each h (by rw [hL];simp)
  have hmany:∀ x∈r.L,1≤x.many:=fun x hx=>(g.each x hx).many
  have hap:=g.apart
  rw [hL] at hap
  obtain ⟨a1,a2⟩:=apart_mid hap
  dsimp only
  have hdel:delO h.owner r.L=A++C:=by rw [hL];exact delO_app rfl hA
  rw [hdel]
  have p:r.L.Perm (h::(A++C)):=by rw [hL];exact List.perm_middle
  have hout:r.sold.set h.cls.toNat (r.sold.getD h.cls.toNat 0 - h.many)=soldL r.lims.length (A++C):=soldL_out p hh.cls.1 hh.cls.2
  have hle:h.many≤r.sold.getD h.cls.toNat 0:=by
   show _≤(soldL r.lims.length r.L).getD _ 0
   have hcl:=hh.cls
   rw [soldL_getD (by omega),cntL_perm p,show ((h.cls.toNat:Nat):Int)=h.cls by omega]
   have:=cntL_nn (k:=h.cls) (L:=A++C) fun x hx=>hmany x (by rw [hL];exact mem_mid hx)
   show h.many≤(if h.cls=h.cls then h.many else 0) + _
   rw [if_pos rfl];omega
  have hback:backT f.lims f.sold h.cls h.many=(soldL r.lims.length (A++C),0):=by
   rw [t.lims,t.sold]
   unfold backT
   have hl:(leftT r.lims r.sold h.cls).2=0:=by unfold leftT;rw [if_pos ⟨g.nest,hh.cls.1,hh.cls.2⟩]
   rw [if_neg (by rw [hl];have:=hh.many;omega),hout]
  rw [hback]
  have hg2:getM h.owner f.hs=some h:=by rw [t.get g.rise];exact hg
  obtain ⟨a,c,hsp,hna⟩:=getM_split hg2
  have hdm:delM h.owner f.hs=a++c:=by rw [hsp];exact delM_app hna (int_rfl _)
  obtain ⟨d1,d2⟩:=delAll_get (l:=h.seats) t.nod
  refine ⟨rfl,⟨t.num,t.rows,t.grps,t.lims,rfl,?_,?_,?_,d1⟩,⟨g.num,g.lay,?_,g.l0,?_,?_,a2⟩⟩
  ·show ((delM h.owner f.hs).map (·.2)).Perm (A++C)
   have p:=t.hs
   rw [hsp,hL,List.map_append,List.map_cons] at p
   rw [hdm,List.map_append]
   exact ((List.perm_middle.symm.trans p).trans List.perm_middle).cons_inv
  ·show ∀ e∈delM h.owner f.hs,e.2.owner=e.1
   intro e he
   exact t.key e ((delM_sub _ _).subset he)
  ·intro n o'
   show getM n (delAll h.seats f.own)=some o'↔∃ x∈A++C,x.owner=o'∧n∈x.seats
   rw [d2]
   constructor
   ·intro e
    split at e
    ·cases e
    ·rename_i hn
     obtain ⟨x,hx,hxo,hxn⟩:=(t.own n o').1 e
     rcases List.mem_cons.1 (p.mem_iff.1 hx) with rfl|hx
     ·exact absurd hxn hn
     ·exact ⟨x,hx,hxo,hxn⟩
   ·rintro ⟨x,hx,hxo,hxn⟩
    rw [if_neg (fun hh=>a1 x hx n hh hxn)]
    exact (t.own n o').2 ⟨x,p.mem_iff.2 (List.mem_cons_of_mem _ hx),hxo,hxn⟩
  ·refine nest_le g.nest (by show (soldL _ _).length=(soldL _ _).length;rw [soldL_len,soldL_len]) fun k hk=>?_
   show 0≤(soldL r.lims.length (A++C)).getD k 0∧(soldL r.lims.length (A++C)).getD k 0≤(soldL r.lims.length r.L).getD k 0
   have hk:k<r.lims.length:=hk
   rw [soldL_getD hk,soldL_getD hk,cntL_perm p]
   refine ⟨cntL_nn fun x hx=>hmany x (p.mem_iff.2 (List.mem_cons_of_mem _ hx)),?_⟩
   rw [cntL_cons]
   have:=hh.many
   split<;>omega
  ·have:=g.rise;rw [hL] at this;exact owR_cut this
  ·intro x hx
   exact g.each x (p.mem_iff.2 (List.mem_cons_of_mem _ hx))
end Go.Proofs.YtflgboncpbmikaaGreatDoor
/- A flight, plain: Auto; its state. Condition: none. -/
namespace Go.Proofs.YtflgboncpbmikaaGreatDoor
set_option linter.unusedVariables false
set_option linter.unusedSimpArgs false
open Go Go.VC
theorem free_one {u u':Nat→Bool} {x:Int} (h:∀ j:Nat,u' j=true→u j=true∨(j:Int)=x):∀ N:Nat,(freeL u N).length≤(freeL u' N).length + (if x<N∧0≤x then 1 else 0)
 |0=>by simp [freeL]
 |N + 1=>by
  have ih:=free_one h N
  rw [free_step,free_step]
  by_cases e:u N=true
  ·rw [if_pos e]
   split at ih<;>split<;>split<;>omega
  ·rw [if_neg e]
   by_cases e2:u' N=true
   ·rw [if_pos e2]
    have e3:(N:Int)=x:=(h N e2).resolve_left e
    rw [if_neg (by omega)] at ih
    rw [if_pos (by omega)]
    omega
   ·rw [if_neg e2]
    split at ih<;>split<;>omega
theorem free_cnt:∀ (T:List Int) (N:Nat),N≤(freeL (usedF T) N).length + T.length
 |[],N=>by
  have key:∀ N:Nat,(freeL (usedF []) N).length=N:=fun N=>by
   induction N with
   |zero=>rfl
   |succ N ih=>rw [free_step,ih];simp [usedF]
  rw [key];omega
 |x::T,N=>by
  have ih:=free_cnt T N
  have h1:=free_one (u:=usedF T) (u':=usedF (x::T)) (x:=x) (fun j hj=>by
   unfold usedF at hj ⊢
   rw [decide_eq_true_eq] at hj ⊢
   rcases List.mem_cons.1 hj with h|h
   ·exact .inr h
   ·exact .inl h) N
  rw [List.length_cons]
  split at h1<;>omega
theorem best_in {n:Int} {g taken:List Int} {many:Int}:∀ x∈(bestT n g taken many).1,(0≤x∧x<layN n g)∧x ∉ taken:=by
 intro x hx
 have hb:=layN_bd n g
 have nat:∀ j:Nat,j<(layN n g).toNat→usedF taken j=false→(0≤(j:Int)∧(j:Int)<layN n g)∧(j:Int) ∉ taken:=fun j h1 h2=>by
  refine ⟨by omega,?_⟩
  unfold usedF at h2
  exact of_decide_eq_false h2
 unfold bestT at hx
 split at hx
 ·cases hx
 rename_i hm
 obtain ⟨j,hj,rfl⟩:=List.mem_map.1 hx
 unfold bestF at hj
 split at hj
 ·rename_i i hfi
  have h1:=List.find?_some hfi
  have h2:=List.mem_range.1 (List.mem_of_find?_eq_some hfi)
  have h3:many.toNat≤runL (usedF taken) (zF g) (i + 1):=by rw [beq_iff_eq.1 h1];exact Nat.le_refl _
  obtain ⟨h4,h5⟩:=runL_ge.1 h3
  unfold upTo at hj
  obtain ⟨t,ht,rfl⟩:=List.mem_map.1 hj
  have ht:=List.mem_range.1 ht
  exact nat _ (by omega) (h5 _ (by omega) (by omega)).1
 ·split at hj
  ·cases hj
  ·obtain ⟨i,hi⟩:=List.getElem?_of_mem (List.mem_of_mem_take hj)
   obtain ⟨h1,h2,_⟩:=free_of hi
   exact nat j h1 h2
theorem best_cnt {n:Int} {g taken:List Int} {many:Int} (h:(bestT n g taken many).2=0):((bestT n g taken many).1.length:Int)=many:=by
 unfold bestT at h ⊢
 split at h
 ·cases h
 rename_i hm
 rw [if_neg hm]
 rw [List.length_map]
 dsimp only at h
 unfold bestF at h ⊢
 generalize (List.range (layN n g).toNat).find? (fun j=>runL (usedF taken) (zF g) (j + 1)==many.toNat)=o at h ⊢
 cases o with
 |some i=>
  dsimp only
  rw [upTo_len];omega
 |none=>
  dsimp only at h ⊢
  split at h
  ·cases h
  ·rename_i h2
   rw [if_neg h2,List.length_take];omega
theorem best_ok {n:Int} {g taken:List Int} {many:Int} (h1:1≤many) (h2:many + taken.length≤layN n g):(bestT n g taken many).2=0:=by
 have hb:=layN_bd n g
 unfold bestT
 rw [if_neg (by omega)]
 dsimp only
 unfold bestF
 split
 ·rfl
 ·rw [if_neg]
  have:=free_cnt taken (layN n g).toNat
  omega
theorem bestT_mem {n:Int} {g a b:List Int} {many:Int} (h:∀ x,x∈a↔x∈b):bestT n g a many=bestT n g b many:=by
 have:usedF a=usedF b:=by
  funext j
  unfold usedF
  rw [decide_eq_decide]
  exact h _
 unfold bestT
 rw [this]
variable {f:PF} {r:RF}
theorem taken_len:∀ {L:List Hold},(∀ h∈L,(h.seats.length:Int)≤h.many)→((takenL L).length:Int)≤totL L
 |[],_=>Int.le_refl _
 |h::L,hf=>by
  have ih:=taken_len fun x hx=>hf x (List.mem_cons_of_mem _ hx)
  have h1:=hf h List.mem_cons_self
  show ((h.seats++takenL L).length:Int)≤h.many + totL L
  rw [List.length_append];omega
theorem totL_perm {A B:List Hold} (h:A.Perm B):totL A=totL B:=by
 induction h with
 |nil=>rfl
 |cons x _ ih=>simp only [totL,ih]
 |swap x y l=>simp only [totL];exact Int.add_left_comm _ _ _
 |trans _ _ a b=>exact a.trans b
theorem Good.tot (g:Good r):totL r.L≤layN r.rows r.grps:=by
 rw [←totL_from (n:=r.lims.length) fun h hh=>(g.each h hh).cls,←g.l0]
 have hl:=(limOk_iff.1 (nestOk_iff.1 g.nest).1).1.1
 exact ((nestOk_iff.1 g.nest).2.2 0 (by omega)).2
theorem len_tot:∀ {L:List Hold},(∀ h∈L,1≤h.many)→(L.length:Int)≤totL L∧∀ h∈L,h.many≤totL L
 |[],_=>⟨Int.le_refl _,by simp⟩
 |h::L,hm=>by
  obtain ⟨i1,i2⟩:=len_tot fun x hx=>hm x (List.mem_cons_of_mem _ hx)
  have h1:=hm h List.mem_cons_self
  have e:totL (h::L)=h.many + totL L:=rfl
  rw [e,List.length_cons]
  refine ⟨by omega,fun x hx=>?_⟩
  rcases List.mem_cons.1 hx with rfl|hx
  ·omega
  ·have:=i2 x hx;omega
theorem Good.len (g:Good r):(r.L.length:Int)≤600∧∀ h∈r.L,h.many≤600:=by
 obtain ⟨h1,h2⟩:=len_tot fun h hh=>(g.each h hh).many
 have h3:=g.tot
 have h4:=(layN_bd r.rows r.grps).2
 exact ⟨by omega,fun h hh=>by have:=h2 h hh;omega⟩
theorem Good.best (g:Good r) {A C:List Hold} {h:Hold} (hL:r.L=A++h::C) (hs:h.seats=[]):(bestT r.rows r.grps (takenL r.L) h.many).2=0:=by
 have hh:=g.each h (by rw [hL];simp)
 refine best_ok hh.many ?_
 have h1:=g.tot
 have p:r.L.Perm (h::(A++C)):=by rw [hL];exact List.perm_middle
 rw [totL_perm p] at h1
 have e1:totL (h::(A++C))=h.many + totL (A++C):=rfl
 have e2:(takenL r.L).length=(takenL (A++C)).length:=by
  rw [hL]
  unfold takenL
  rw [List.flatMap_append,List.flatMap_cons,hs,List.nil_append,←List.flatMap_append]
 have e3:=taken_len (L:=A++C) fun x hx=>(g.each x (by rw [hL];exact mem_mid hx)).few
 omega
theorem tie_auto (t:Tie f r) (g:Good r) (o:Int):
  (autoF f o).2=(rautoF r o).2∧Tie (autoF f o).1 (rautoF r o).1∧Good (rautoF r o).1∧((rautoF r o).2.2=0∨(rautoF r o).2.2=2∨(rautoF r o).2.2=7):=by
 unfold autoF rautoF
 rw [t.get g.rise]
 cases hg:getO o r.L with
 |none=>exact ⟨rfl,t,g,.inr (.inl rfl)⟩
 |some h=>
  obtain ⟨A,C,hL,hA,rfl⟩:=getO_split hg
  have hh:=g.each h (by rw [hL];simp)
  dsimp only
  split
  ·exact ⟨rfl,t,g,.inr (.inr rfl)⟩
  rename_i hs
  have hs:h.seats=[]:=List.length_eq_zero_iff.1 (by omega)
  have e:bestT f.rows f.grps (f.own.map (·.1)) h.many=bestT r.rows r.grps (takenL r.L) h.many:=by
   rw [t.rows,t.grps]
   exact bestT_mem fun x=>by rw [←t.taken,getM_mem]
  have hb:=g.best hL hs
  have hin:=best_in (n:=r.rows) (g:=r.grps) (taken:=takenL r.L) (many:=h.many)
  have hri:=best_rise (n:=r.rows) (g:=r.grps) (taken:=takenL r.L) (many:=h.many)
  have hct:=best_cnt hb
  rw [if_pos hb,e,show labsF f.rows f.grps=labsF r.rows r.grps by rw [t.rows,t.grps]]
  have hset:setO h.owner { h with seats:=(bestT r.rows r.grps (takenL r.L) h.many).1 } r.L=A++{ h with seats:=(bestT r.rows r.grps (takenL r.L) h.many).1 }::C:=by rw [hL];exact setO_app rfl hA
  rw [hset,hb]
  generalize (bestT r.rows r.grps (takenL r.L) h.many).1=l at *
  obtain ⟨p1,p2⟩:=putAll_get (o:=h.owner) (l:=l) t.nod
  refine ⟨rfl,tie_set (h':={ h with seats:=l }) t g hL hA rfl rfl rfl (fun x hx=>.inr (hin x hx).2) p1 fun x=>?_,good_set (h':={ h with seats:=l }) g hL rfl rfl rfl hri ?_ fun x hx=>.inr ⟨(hin x hx).2,(hin x hx).1⟩,.inl rfl⟩
  ·rw [p2,hs]
   rw [if_neg (by simp:¬ x∈([]:List Int))]
  ·show (l.length:Int)≤h.many
   omega
theorem tie_keys (t:Tie f r) (g:OwR r.L):(f.hs.map (·.1)).Perm (r.L.map Hold.owner):=by
 have e:f.hs.map (·.1)=(f.hs.map (·.2)).map Hold.owner:=by
  rw [List.map_map]
  exact List.map_congr_left fun e he=>(t.key e he).symm
 rw [e]
 exact t.hs.map _
theorem tie_sort (t:Tie f r) (g:OwR r.L):sortI (f.hs.map (·.1))=r.L.map Hold.owner:=by
 rw [sortI_perm (tie_keys t g)]
 unfold sortI
 refine List.mergeSort_of_pairwise ?_
 rw [List.pairwise_map]
 exact g.imp fun h=>by simp only [decide_eq_true_eq];omega
theorem tie_holds (t:Tie f r) (g:OwR r.L):holdsF f=r.L:=by
 unfold holdsF
 rw [tie_sort t g,List.map_map]
 have key:∀ h∈r.L,(holdOf f ∘ Hold.owner) h=h:=fun h hh=>by
  show (getM h.owner f.hs).getD hold0=h
  rw [t.get g,(getO_iff g.ne).2 ⟨hh,rfl⟩];rfl
 rw [List.map_congr_left key,List.map_id']
theorem tie_left (t:Tie f r):leftsF f=rleftsF r:=by
 unfold leftsF rleftsF
 rw [t.lims,t.sold]
theorem tie_labels (t:Tie f r) (g:OwR r.L) (o:Int):labelsF f o=rlabelsF r o:=by
 unfold labelsF rlabelsF
 rw [t.get g,t.rows,t.grps]
 try (cases getO o r.L<;>rfl)
theorem Tie.nodK (t:Tie f r) (g:OwR r.L):(f.hs.map (·.1)).Nodup:=by
 refine ((tie_keys t g).nodup_iff).2 ?_
 rw [List.nodup_iff_pairwise_ne,List.pairwise_map]
 exact g.ne
theorem Tie.mem (t:Tie f r) {e:Int × Hold} (he:e∈f.hs):e.2∈r.L:=t.hs.mem_iff.1 (List.mem_map.2 ⟨e,he,rfl⟩)
theorem Tie.ownIn (t:Tie f r) (g:Good r):∀ k∈f.own.map (·.1),0≤k∧k<layN r.rows r.grps:=fun k hk=>by
 obtain ⟨o,ho⟩:=Option.isSome_iff_exists.1 (getM_mem.2 hk)
 obtain ⟨h,hh,_,hs⟩:=(t.own k o).1 ho
 exact (g.each h hh).seats k hs
theorem nodup_bd:∀ (N:Nat) {l:List Int},l.Nodup→(∀ x∈l,0≤x∧x<N)→l.length≤N
 |0,[],_,_=>Nat.le_refl _
 |0,x::l,_,hb=>by have:=hb x List.mem_cons_self;omega
 |N + 1,l,h,hb=>by
  by_cases hm:(N:Int)∈l
  ·have h1:=nodup_bd N (h.erase (N:Int)) fun x hx=>by
    have h2:=(h.mem_erase_iff).1 hx
    have:=hb x h2.2
    have:=h2.1
    omega
   rw [List.length_erase_of_mem hm] at h1
   omega
  ·have h1:=nodup_bd N h fun x hx=>by
    have:=hb x hx
    have:x≠N:=fun e=>hm (by rw [←e];exact hx)
    omega
   omega
theorem Tie.bounds (t:Tie f r) (g:Good r):f.hs.length≤600∧f.own.length≤600∧f.lims.length≤8∧f.sold.length≤8∧f.grps.length≤4∧(∀ e∈f.hs,Rise e.2.seats∧e.2.seats.length≤600)∧(∀ k∈f.hs.map (·.1),1≤k∧k≤28629151):=by
 have hl:=g.len
 have h1:=t.hs.length_eq
 rw [List.length_map] at h1
 have h2:=nodup_bd (layN r.rows r.grps).toNat t.nod fun x hx=>by have:=t.ownIn g x hx;omega
 rw [List.length_map] at h2
 have h3:=layN_bd r.rows r.grps
 have h4:=(limOk_iff.1 (nestOk_iff.1 g.nest).1).1.2
 have h5:=(layOk_iff.1 g.lay).1
 refine ⟨by omega,by omega,by rw [t.lims];exact h4,by rw [t.sold];show (soldL _ _).length≤8;rw [soldL_len];exact h4,by rw [t.grps];omega,fun e he=>?_,fun k hk=>?_⟩
 ·have hh:=g.each _ (t.mem he)
  have:=hl.2 _ (t.mem he)
  exact ⟨hh.rise,by have:=hh.few;omega⟩
 ·obtain ⟨e,he,rfl⟩:=List.mem_map.1 hk
  have hh:=g.each _ (t.mem he)
  have:=hh.owner
  rw [t.key e he] at this;exact this
def rnewF (num rows:Int) (grps lims:List Int):RF:=⟨num,rows,grps,lims,[]⟩
theorem good_new {num rows:Int} {grps:List Int} {parts:List Nat} (h:newOk num rows grps parts):Good (rnewF num rows grps (limitsT (layN rows grps) parts).1):=by
 obtain ⟨h1,h2,h3,h4⟩:=h
 obtain ⟨l1,l2⟩:=limits_ok h4
 refine ⟨⟨h1,h2⟩,h3,?_,l2,List.Pairwise.nil,fun h hh=>(by cases hh),List.Pairwise.nil⟩
 show nestOk _ (soldL _ [])=true
 rw [soldL_nil];exact nest_zero l1
theorem tie_new {num rows:Int} {grps lims:List Int}:Tie (emptyF num rows grps lims) (rnewF num rows grps lims):=by
 refine ⟨rfl,rfl,rfl,rfl,?_,List.Perm.refl _,fun e he=>(by cases he),fun n o=>?_,List.nodup_nil⟩
 ·show List.replicate _ 0=soldL _ []
  rw [soldL_nil];rfl
 ·constructor
  ·intro h;cases h
  ·rintro ⟨h,hh,_⟩;cases hh
end Go.Proofs.YtflgboncpbmikaaGreatDoor

/- A flight: Encode. Condition: bounds on lengths. -/
namespace Go.Proofs.YtflgboncpbmikaaGreatDoor
set_option linter.unusedVariables false
set_option linter.unusedSimpArgs false
open Go Go.VC
variable {R:Cx} {Hs Rest:List HP} {w:World}
theorem HsR.row {s:Sl} {L:List Hold} {ts:List Sl} {S:World→Prop} {k:Nat} (hr:HsR R s L ts) (hS:∀ w,S w→Sat R Hs w) (hk:k<L.length) (hk':k<ts.length) {F:Addr→Prop}
  (f:∀ a:Addr,At S (Addr.add a (mulS k 4)) (rowH L[k] ts[k])→F a):Rng (k:Int) s.len (NilP s.a F):=by
 have hl:=rowsH_len hr.len
 refine (hr.rows.reads hS).rng (k:=k) (by omega) fun b off ha hat=>f _ ?_
 rw [elt_addr0]
 refine hat 0 _ ?_
 rw [rowsH_at hk hk']
 exact ⟨rfl,rfl,rfl,rfl,trivial⟩
def encF (f:PF):List Int:=encB f.num f.rows f.grps f.lims (holdsF f)
theorem holdsF_len (f:PF):(holdsF f).length=f.hs.length:=by unfold holdsF sortI;rw [List.length_map,List.length_mergeSort,List.length_map]
structure FSmall (f:PF):Prop where
 num:0≤f.num∧f.num<9223372036854775808
 rows:0≤f.rows∧f.rows<9223372036854775808
 grps:small f.grps
 lims:small f.lims
 gl:f.grps.length≤1000
 ll:f.lims.length≤1000
 hs:∀ h∈holdsF f,HSmall h
 hl:f.hs.length≤10000
theorem encode_fspec {p:Nat} {f:PF} (sm:FSmall f) (hu:(f.hs.map (·.1)).Nodup) (hn:∀ k∈f.hs.map (·.1),-1000000000≤k∧k≤1000000000) (hR:∀ e∈f.hs,e.2.seats.length≤1000000) (hw:Sat R (FlightAt p f::Hs) w):
  Gets Tryz.prog 59 #[.pointer (some ⟨p,0,none⟩)] w fun v w'=>∃ t:Sl,v=.slice t.a t.len t.cap∧Sat R (Own t 5 (b8 (encF f))::FlightAt p f::Hs) w':=by
 obtain ⟨hm,om,sg,sl,ss,E,R',hE,ee,rg,rl,_,hw,back⟩:=Sat.flightO hw
 have rgo:RoI R' sg f.grps:=rg.ro (by rw [List.length_map];have:=sm.gl;omega)
 have rlo:RoI R' sl f.lims:=rl.ro (by rw [List.length_map];have:=sm.ll;omega)
 have hel:(hPtrs E).length=f.hs.length:=by rw [←hE];simp [hPtrs,hEr]
 apply call59
 suffices H:∀ K:Value→World→Prop,(∀ (t:Sl) w',Sat R (Own t 5 (b8 (encF f))::FlightAt p f::Hs) w'→K (.slice t.a t.len t.cap) w')→B59 (some ⟨p,0,none⟩) K w from
  H _ fun t w' h=>⟨t,rfl,h⟩
 intro K hK
 refine new_rule hw fun pb w hw=>new_rule hw fun bp w hw=>?_
 have hw:Sat R' (pts bp (.cells [.nilFunc].toArray 114 (0,0))::lp pb ⟨none,0,0⟩::FO p hm om sg sl ss E f Hs) w:=hw
 refine store_rule hw (by kernel_rfl) rfl (by simp [Value.cells]) fun w hw=>?_
 have hw:Sat R' (putC bp pb::lp pb ⟨none,0,0⟩::FO p hm om sg sl ss E f Hs) w:=hw
 have hw:Sat R' (OutB pb []::putC bp pb::FO p hm om sg sl ss E f Hs) w:=Sat.outB.2 ⟨⟨none,0,0⟩,hw.swap.cons fun _ h=>Own.nil h⟩
 have l2:(numsB [f.num,f.rows]).length≤18:=numsB_len (by intro y hy;have:=sm.num;have:=sm.rows;simp at hy;omega)
 have lg:=listB_len sm.grps (by have:=sm.gl;omega)
 have ll:=listB_len sm.lims (by have:=sm.ll;omega)
 have l1:(numsB [(f.hs.length:Int)]).length≤9:=numsB_len (by intro y hy;have:=sm.hl;simp at hy;omega)
 have:=sm.gl
 have:=sm.ll
 have:=sm.hl
 refine drw_rule' (Sat R' [putC bp pb,pts p (fCells f sg sl ss hm om),VC.tru]) hw (fun w hw=>?_) fun w hw=>?_
 ·have hw:Sat R' (putC bp pb::pts p (fCells f sg sl ss hm om)::OutB pb []::MapAt hm (hPtrs E)::MapAt om (oVals f.own)::HoldsAt E::Hs) w:=hw.arr
  exact hw.cons fun _ h=>h.restTru2
 refine ⟨putV pb,At.own selfS (by exact ⟨rfl,trivial⟩),NilP.mk rfl ⟨f.num,by rw [add_off];exact At.own selfS (by exact ⟨rfl,trivial⟩),NilP.mk rfl ⟨f.rows,At.own selfS (by exact ⟨rfl,trivial⟩),?_⟩⟩⟩
 refine new_rule hw fun bn w hw=>⟨?_,?_⟩
 ·have hw:Sat R' (putC bp pb::pts p (fCells f sg sl ss hm om)::OutB pb []::MapAt hm (hPtrs E)::MapAt om (oVals f.own)::HoldsAt E::Hs) w:=hw.drop.arr
  exact hw.cons fun _ h=>h.restTru2
 have hw:Sat R' (pts bn (.cells ([f.num,f.rows].map (Value.int .i64)).toArray 3 (0,0))::OutB pb []::putC bp pb::FO p hm om sg sl ss E f Hs) w:=hw
 refine (put_few (n:=2) (by rfl) (by intro y hy;have:=sm.num;have:=sm.rows;simp at hy;omega) (by simp) hw).mono ?_
 rintro _ w ⟨rfl,hw⟩
 rw [List.nil_append] at hw
 refine ⟨rfl,?_,?_⟩
 ·have hw:Sat R' (putC bp pb::pts p (fCells f sg sl ss hm om)::OutB pb (numsB [f.num,f.rows])::MapAt hm (hPtrs E)::MapAt om (oVals f.own)::HoldsAt E::Hs) w:=hw.arr
  exact hw.cons fun _ h=>h.restTru2
 refine NilP.mk rfl ⟨sg,At.own (eqS hw) (by exact ⟨rfl,trivial⟩),?_⟩
 refine (elist_spec sm.grps (by omega) rgo hw.swap).use ?_
 rintro _ w ⟨rfl,hw⟩
 refine ⟨rfl,NilP.mk rfl ⟨sl,At.own (eqS hw) (by exact ⟨rfl,trivial⟩),?_⟩⟩
 refine (elist_spec sm.lims (by rw [List.length_append];omega) rlo hw).use ?_
 rintro _ w ⟨rfl,hw⟩
 refine ⟨rfl,?_⟩
 have hb1:(numsB [f.num,f.rows]++listB f.grps++listB f.lims).length≤20000:=by rw [List.length_append,List.length_append];omega
 have hfin:numsB [f.num,f.rows]++listB f.grps++listB f.lims++numsB [(f.hs.length:Int)]++holdsB (holdsF f)=encF f:=by
  unfold encF encB;rw [holdsF_len]
 generalize hpre:numsB [f.num,f.rows]++listB f.grps++listB f.lims=pre at *
 refine drw_rule' (Sat R' [putC bp pb,pts p (fCells f sg sl ss hm om),MapAt hm (hPtrs E),VC.tru]) hw (fun w hw=>?_) fun w hw=>?_
 ·have hw:Sat R' (putC bp pb::pts p (fCells f sg sl ss hm om)::MapAt hm (hPtrs E)::OutB pb pre::MapAt om (oVals f.own)::HoldsAt E::Hs) w:=hw.arr
  exact hw.cons fun _ h=>h.cons fun _ h=>h.restTru2
 refine ⟨putV pb,At.own selfS (by exact ⟨rfl,trivial⟩),NilP.mk rfl ⟨some hm,At.own selfS (by exact ⟨rfl,trivial⟩),f.hs.length,fun w' h=>?_,?_⟩⟩
 ·rw [←hel]
  exact MapAt.len (by kernel_rfl) (h.take (MapAt hm (hPtrs E)))
 refine new_rule hw fun bn w hw=>⟨?_,?_⟩
 ·have hw:Sat R' (putC bp pb::pts p (fCells f sg sl ss hm om)::MapAt hm (hPtrs E)::OutB pb pre::MapAt om (oVals f.own)::HoldsAt E::Hs) w:=hw.drop.arr
  exact hw.cons fun _ h=>h.cons fun _ h=>h.restTru2
 have hw:Sat R' (pts bn (.cells ([(f.hs.length:Int)].map (Value.int .i64)).toArray 3 (0,0))::OutB pb pre::putC bp pb::FO p hm om sg sl ss E f Hs) w:=hw.cons fun _ h=>h.swap
 refine (put_few (n:=1) (by rfl) (by intro y hy;simp at hy;omega) (by simp;omega) hw).mono ?_
 rintro _ w ⟨rfl,hw⟩
 refine ⟨rfl,?_,?_⟩
 ·have hw:Sat R' (putC bp pb::pts p (fCells f sg sl ss hm om)::MapAt hm (hPtrs E)::OutB pb (pre++numsB [(f.hs.length:Int)])::MapAt om (oVals f.own)::HoldsAt E::Hs) w:=hw.arr
  exact hw.cons fun _ h=>h.cons fun _ h=>h.restTru2
 have hw:Sat R' (FO p hm om sg sl ss E f (OutB pb (pre++numsB [(f.hs.length:Int)])::putC bp pb::Hs)) w:=hw.arr
 have hw:=Sat.flightC hE (back _ _ hw)
 refine (holds_fspec hu hn (by omega) hR hw).use ?_
 rintro _ w ⟨t,rfl,hw⟩
 refine ⟨t,rfl,?_⟩
 have hb2:(pre++numsB [(f.hs.length:Int)]).length≤20010:=by rw [List.length_append];omega
 generalize pre++numsB [(f.hs.length:Int)]=pre2 at *
 have hLl:=holdsF_len f
 have hHs:=sm.hs
 generalize holdsF f=L at *
 obtain ⟨R2,ts,e2,hr,hw⟩:=HoldsL.leak hw
 have htl:=hr.len
 have hrl:=hr.rows.len
 rw [rowsH_len htl] at hrl
 refine ⟨fun i w=>∃ j:Nat,i=j∧j≤L.length∧Sat R2 (OutB pb (pre2++holdsB (L.take j))::putC bp pb::FlightAt p f::Hs) w,fun i _=>L.length - i.toNat,⟨0,rfl,by omega,?_⟩,?_⟩
 ·rw [show pre2++holdsB (L.take 0)=pre2 by simp [holdsB]]
  exact hw.arr
 clear hw
 rintro _ _ w ⟨j,rfl,hj,hw⟩
 refine Br.d (fun h=>?_) (fun h=>?_)
 ·have hj2:j<L.length:=by omega
  have hj3:j<ts.length:=by omega
  have hsm:=hHs L[j] (List.getElem_mem _)
  have hhl:(holdsB (L.take j)).length≤9036 * 10000:=by
   have:=holdsB_len (L:=L.take j) fun x hx=>hHs x (List.mem_of_mem_take hx)
   rw [List.length_take] at this
   have:min j L.length≤10000:=by omega
   omega
  have h3:(numsB [L[j].owner,L[j].cls,L[j].many]).length≤27:=numsB_len (small_u hsm.three)
  have hsn:=hsm.n
  refine hr.row (eqS hw) hj2 hj3 fun a ha=>⟨L[j].owner,L[j].cls,L[j].many,ts[j],ha,?_⟩
  refine new_rule hw fun bh w hw=>?_
  have hw:Sat R2 (pts bh (hCells ⟨0,0,0,[]⟩ ⟨none,0,0⟩)::OutB pb (pre2++holdsB (L.take j))::putC bp pb::FlightAt p f::Hs) w:=hw
  refine store_rule hw (by kernel_rfl) rfl (by simp [Value.cells]) fun w hw=>?_
  have hw:=hw.re (pts bh (hCells L[j] ts[j]))
  refine ⟨putV pb,At.own (eqS hw) (by exact ⟨rfl,trivial⟩),L[j].owner,At.own (eqS hw) (by exact ⟨rfl,trivial⟩),L[j].cls,At.own (eqS hw) (by exact ⟨rfl,trivial⟩),L[j].many,At.own (eqS hw) (by exact ⟨rfl,trivial⟩),?_⟩
  refine new_rule hw fun bn w hw=>?_
  have hw:Sat R2 (pts bn (.cells ([L[j].owner,L[j].cls,L[j].many].map (Value.int .i64)).toArray 3 (0,0))::OutB pb (pre2++holdsB (L.take j))::putC bp pb::pts bh (hCells L[j] ts[j])::FlightAt p f::Hs) w:=hw.cons fun _ h=>h.arr
  refine (put_few (n:=3) (by rfl) hsm.three (by rw [List.length_append];simp;omega) hw).mono ?_
  rintro _ w ⟨rfl,hw⟩
  refine ⟨rfl,ts[j],At.own (eqS hw) (by exact ⟨rfl,trivial⟩),?_⟩
  refine (elist_spec hsm.s (by rw [List.length_append,List.length_append];omega) ((hr.seats j hj2 hj3).ro (by rw [List.length_map];omega)) hw.swap).use ?_
  rintro _ w ⟨rfl,hw⟩
  refine ⟨rfl,?_⟩
  rw [wrap64 (by omega) (by omega)]
  refine ⟨⟨j + 1,by omega,by omega,?_⟩,by dsimp only;omega⟩
  rw [holdsB_take hj2,←List.append_assoc]
  unfold holdB
  rw [←List.append_assoc]
  have hw:Sat R2 (pts bh (hCells L[j] ts[j])::OutB pb (pre2++holdsB (L.take j)++numsB [L[j].owner,L[j].cls,L[j].many]++listB L[j].seats)::putC bp pb::FlightAt p f::Hs) w:=hw.arr
  exact hw.drop
 ·rw [List.take_of_length_le (by omega),hfin] at hw
  have hw:=e2.back hw
  obtain ⟨s0,hw⟩:=Sat.outB.1 hw
  refine ⟨s0,At.own (eqS hw) (by exact ⟨rfl,trivial⟩),hK s0 w ?_⟩
  have hw:Sat R (putC bp pb::lp pb s0::Own s0 5 (b8 (encF f))::FlightAt p f::Hs) w:=hw.arr
  exact hw.drop.drop
end Go.Proofs.YtflgboncpbmikaaGreatDoor
/- A flight out of bytes: reading numbers and lists; a hold put in again. Condition: bounds on lengths. -/
namespace Go.Proofs.YtflgboncpbmikaaGreatDoor
set_option linter.unusedVariables false
set_option linter.unusedSimpArgs false
open Go Go.VC
variable {R:Cx} {Hs Rest:List HP} {w:World}
def nMany:Nat→Int→Rd→List Int × Rd
 |0,_,r=>([],r)
 |k + 1,most,r=>((rdNum most r).1::(nMany k most (rdNum most r).2).1,(nMany k most (rdNum most r).2).2)
theorem nMany_len:∀ (k:Nat) (most:Int) (r:Rd),(nMany k most r).1.length=k
 |0,_,_=>rfl
 |k + 1,most,r=>by show (_::(nMany k most (rdNum most r).2).1).length=_;rw [List.length_cons,nMany_len k]
theorem nMany_bd:∀ (k:Nat) (most:Int) {r:Rd},(∀ x∈r.bs,0≤x∧x<256)→∀ x∈(nMany k most r).2.bs,0≤x∧x<256
 |0,_,_,h=>h
 |k + 1,most,_,h=>nMany_bd k most (rdNum_bd h)
theorem nMany_val:∀ (k:Nat) {most:Int} {r:Rd},0≤most→(∀ x∈r.bs,0≤x∧x<256)→∀ x∈(nMany k most r).1,0≤x∧x≤most
 |0,_,_,_,_=>by simp [nMany]
 |k + 1,most,r,hm,h=>fun x hx=>by
  rcases List.mem_cons.1 hx with rfl|hx
  ·exact rdNum_val h hm
  ·exact nMany_val k hm (rdNum_bd h) x hx
def nList (most each:Int) (r:Rd):List Int × Rd:=nMany (rdNum most r).1.toNat each (rdNum most r).2
theorem nList_bd {most each:Int} {r:Rd} (h:∀ x∈r.bs,0≤x∧x<256):∀ x∈(nList most each r).2.bs,0≤x∧x<256:=nMany_bd _ _ (rdNum_bd h)
theorem nList_val {most each:Int} {r:Rd} (h:∀ x∈r.bs,0≤x∧x<256) (hm:0≤most) (he:0≤each):(∀ x∈(nList most each r).1,0≤x∧x≤each)∧((nList most each r).1.length:Int)≤most:=by
 refine ⟨nMany_val _ he (rdNum_bd h),?_⟩
 unfold nList
 rw [nMany_len]
 have:=rdNum_val h hm
 omega
def tellF (f:PF) (o n:Int):PF:=
 match getM o f.hs with
 |none=>f
 |some h=>{ f with hs:=setM o (h.put n) f.hs,own:=putM n h.owner f.own }
def resGo (o N:Int):List Int→Int→PF→PF × Bool
 |[],_,f=>(f,true)
 |n::l,last,f=>if (getM n f.own).isSome then (f,false) else if n≤last then (f,false) else if n ≥ N then (f,false) else resGo o N l n (tellF f o n)
theorem resGo_cons (o N n last:Int) (l:List Int) (f:PF):resGo o N (n::l) last f=if (getM n f.own).isSome then (f,false) else if n≤last then (f,false) else if n ≥ N then (f,false) else resGo o N l n (tellF f o n):=rfl
def restoreF (f:PF) (h:Hold):PF × Bool:=
 if (takeF f h.owner h.cls h.many).2≠0 then ((takeF f h.owner h.cls h.many).1,false)
 else if (h.seats.length:Int)>h.many then ((takeF f h.owner h.cls h.many).1,false)
 else resGo h.owner (layN f.rows f.grps) h.seats (-1) (takeF f h.owner h.cls h.many).1
end Go.Proofs.YtflgboncpbmikaaGreatDoor
/- A flight: Decode. Condition: bounds on lengths. -/
namespace Go.Proofs.YtflgboncpbmikaaGreatDoor
set_option linter.unusedVariables false
set_option linter.unusedSimpArgs false
open Go Go.VC
variable {R:Cx} {Hs Rest:List HP} {w:World}
def readH (rd:Rd):Hold × Rd:=
 (⟨(rdNum 28629151 rd).1,(rdNum 8 (rdNum 28629151 rd).2).1,(rdNum 600 (rdNum 8 (rdNum 28629151 rd).2).2).1,(nList 600 600 (rdNum 600 (rdNum 8 (rdNum 28629151 rd).2).2).2).1⟩,(nList 600 600 (rdNum 600 (rdNum 8 (rdNum 28629151 rd).2).2).2).2)
def readHs:Nat→Rd→List Hold × Rd
 |0,rd=>([],rd)
 |k + 1,rd=>((readH rd).1::(readHs k (readH rd).2).1,(readHs k (readH rd).2).2)
theorem readH_bd {rd:Rd} (h:∀ x∈rd.bs,0≤x∧x<256):∀ x∈(readH rd).2.bs,0≤x∧x<256:=nList_bd (rdNum_bd (rdNum_bd (rdNum_bd h)))
structure HoldIn (h:Hold):Prop where
 o:0≤h.owner∧h.owner≤28629151
 c:0≤h.cls∧h.cls≤8
 m:0≤h.many∧h.many≤600
 s:∀ x∈h.seats,0≤x∧x≤600
 n:h.seats.length≤600
theorem readH_val {rd:Rd} (h:∀ x∈rd.bs,0≤x∧x<256):HoldIn (readH rd).1:=by
 have h1:=rdNum_bd (most:=28629151) h
 have h2:=rdNum_bd (most:=8) h1
 have h3:=rdNum_bd (most:=600) h2
 have hl:=nList_val (most:=600) (each:=600) h3 (by omega) (by omega)
 exact ⟨rdNum_val h (by omega),rdNum_val h1 (by omega),rdNum_val h2 (by omega),hl.1,by have:=hl.2;show (nList _ _ _).1.length≤600;omega⟩
theorem readHs_val:∀ (k:Nat) {rd:Rd},(∀ x∈rd.bs,0≤x∧x<256)→(∀ h∈(readHs k rd).1,HoldIn h)∧(readHs k rd).1.length=k
 |0,_,_=>⟨fun h hh=>(by cases hh),rfl⟩
 |k + 1,rd,h=>by
  obtain ⟨h1,h2⟩:=readHs_val k (readH_bd h)
  refine ⟨fun x hx=>?_,by show ((readH rd).1::_).length=_;rw [List.length_cons,h2]⟩
  have hx:x∈(readH rd).1::(readHs k (readH rd).2).1:=hx
  rcases List.mem_cons.1 hx with rfl|hx
  ·exact readH_val h
  ·exact h1 x hx
abbrev PS:=PF × Bool × Int
def stepD (x:PS) (h:Hold):PS:=if x.2.1=true∧h.owner>x.2.2 then ((restoreF x.1 h).1,(restoreF x.1 h).2,h.owner) else (x.1,false,h.owner)
def fine0 (num rows:Int) (grps lims:List Int):Bool:=decide (num>0) && (layOk rows grps && (nestOk lims (List.replicate lims.length 0) && (lims.getD 0 0==layN rows grps)))
structure Raw where
 num:Int
 rows:Int
 grps:List Int
 lims:List Int
 L:List Hold
 rd:Rd
def rawD (bs:List Int):Raw:=
 let a:=rdNum 9999 ⟨bs,false⟩
 let b:=rdNum 60 a.2
 let g:=nList 4 10 b.2
 let l:=nList 8 10000 g.2
 let n:=rdNum 600 l.2
 let x:=readHs n.1.toNat n.2
 ⟨a.1,b.1,g.1,l.1,x.1,x.2⟩
def Raw.run (x:Raw):PS:=x.L.foldl stepD (emptyF x.num x.rows x.grps x.lims,fine0 x.num x.rows x.grps x.lims,0)
def decF (bs:List Int):Option PF:=if rdWhole (rawD bs).rd=true∧(rawD bs).run.2.1=true then some (rawD bs).run.1 else none
structure KeepF (f f':PF):Prop where
 lims:f'.lims=f.lims
 grps:f'.grps=f.grps
 rows:f'.rows=f.rows
 num:f'.num=f.num
 sold:f'.sold.length=f.sold.length
end Go.Proofs.YtflgboncpbmikaaGreatDoor
/- Reference 15: Encode, list, may, Decode. Condition: bounds. -/
namespace Go.Proofs.YtflgboncpbmikaaGreatDoor
set_option linter.unusedVariables false
set_option linter.unusedSimpArgs false
open Go Go.VC
variable {R R':Cx} {Hs Rest:List HP} {w:World}
theorem numsB_one (x:Int) (l:List Int):numsB (x::l)=numsB [x]++numsB l:=by rw [show x::l=[x]++l from rfl,numsB_app]
def rencB (r:RF):List Int:=encB r.num r.rows r.grps r.lims r.L
structure RSmall (r:RF):Prop where
 num:0≤r.num∧r.num<9223372036854775808
 rows:0≤r.rows∧r.rows<9223372036854775808
 grps:small r.grps
 lims:small r.lims
 gl:r.grps.length≤1000
 ll:r.lims.length≤1000
 hs:∀ h∈r.L,HSmall h
 hl:r.L.length≤10000
end Go.Proofs.YtflgboncpbmikaaGreatDoor
/- Reference 15: list, may, Decode. Condition: bounds. -/
namespace Go.Proofs.YtflgboncpbmikaaGreatDoor
set_option linter.unusedVariables false
set_option linter.unusedSimpArgs false
open Go Go.VC
variable {R R':Cx} {Hs Rest:List HP} {w:World}
structure OkAt (r:RF) (j:Nat) (hj:j<r.L.length):Prop where
 o:1≤r.L[j].owner
 p:∀ h:0<j,r.L[j - 1].owner<r.L[j].owner
 c:r.L[j].cls<r.lims.length
 m:1≤r.L[j].many
 n:(r.L[j].seats.length:Int)≤r.L[j].many
 s:∀ k (hk:k<r.L[j].seats.length),r.L[j].seats[k] ∉ takenL (r.L.take j)++r.L[j].seats.take k∧r.L[j].seats[k]<layN r.rows r.grps∧∀ h:0<k,r.L[j].seats[k - 1]<r.L[j].seats[k]
structure MayP (r:RF):Prop where
 num:1≤r.num
 lay:layOk r.rows r.grps=true
 lim:limOk r.lims=true
 l0:r.lims.getD 0 0=layN r.rows r.grps
 each:∀ j (hj:j<r.L.length),OkAt r j hj
 nest:nestOk r.lims r.sold=true
end Go.Proofs.YtflgboncpbmikaaGreatDoor
/- Reference 15: Decode. Condition: bounds. -/
namespace Go.Proofs.YtflgboncpbmikaaGreatDoor
set_option linter.unusedVariables false
set_option linter.unusedSimpArgs false
open Go Go.VC
variable {R R':Cx} {Hs Rest:List HP} {w:World}
def Raw.rf (x:Raw):RF:=⟨x.num,x.rows,x.grps,x.lims,x.L⟩
end Go.Proofs.YtflgboncpbmikaaGreatDoor
