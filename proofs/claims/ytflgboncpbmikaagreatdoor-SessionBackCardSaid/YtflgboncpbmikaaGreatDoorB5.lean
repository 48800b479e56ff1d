/- Package booking: Answer. Condition: bounds on lengths. -/
import Derived.Test.YtflgboncpbmikaaGreatDoorB4
import Derived.Test.YtflgboncpbmikaaGreatDoorB1
import Derived.ProofKit
import Derived.OpenShut
import Derived.ShutString
import Derived.ChangeOld
import Derived.Below
import Derived.Lib.SmallJoins
import Derived.Test.YtflgboncpbmikaaGreatDoorB2
import Derived.Test.YtflgboncpbmikaaGreatDoorB3
import Derived.Maps.RangeRun
import Derived.Lib.Overlaps
import Derived.Lib.Bytealg
namespace Go.Proofs.YtflgboncpbmikaaGreatDoor
set_option linter.unusedVariables false
set_option linter.unusedSimpArgs false
open Go Go.VC
variable {R:Cx} {Hs Rest:List HP} {w:World}
theorem _root_.Go.VC.Ro.ixStr {xs:List ByteArray} {s:Sl} {S:World→Prop} {i:Int} (hr:Ro R s (xs.map Value.string)) (hS:∀ w,S w→Sat R Hs w) (j:Nat) (hi:i=j) (hj:j<xs.length) {F:ByteArray→Prop} (h:F xs[j]):
  Rng i s.len (NilP s.a fun a=>∃ t:ByteArray,(At S (a.add i.toNat) [.string t])∧F t):=by
 subst hi
 obtain ⟨a,ha,hat⟩:=hr.addr (k:=j) (by rw [List.length_map];exact hj)
 have hl:=hr.len
 rw [List.length_map] at hl
 exact Rng.mk (by omega) (by omega) (NilP.mk ha ⟨_,by have:=hat hS;rw [List.getElem_map] at this;exact this,h⟩)
abbrev rpV (r:Rp) (sl sb:Sl):List Value:=[.int .i64 r.code,.string r.pnr,.int .i64 r.state,.int .i64 r.flt,.int .i64 r.cls,.int .i64 r.many,.int .i64 r.time,.slice sl.a sl.len sl.cap,.slice sb.a sb.len sb.cap]
abbrev rpC (b:Nat) (r:Rp) (sl sb:Sl):HP:=pts b (.cells (rpV r sl sb).toArray 102 (0,0))
structure RpW (r:Rp):Prop where
 ints:∀ x∈[r.code,r.state,r.flt,r.cls,r.many,r.time]++r.left,x<9223372036854775808
 pnr:r.pnr.size≤100000
 ll:r.left.length≤100000
 bl:r.labs.length≤100000
 labs:∀ s∈r.labs,s.size≤100000
theorem nn5 {a b c d e:Int}:numsB ([a,b,c,d,e].map nn)=numsB [nn a]++(numsB [nn b]++(numsB [nn c]++(numsB [nn d]++numsB [nn e]))):=by
 show numsB [nn a,nn b,nn c,nn d,nn e]=_
 rw [numsB_sp (nn a),numsB_sp (nn b),numsB_sp (nn c),numsB_sp (nn d)]
set_option maxHeartbeats 1000000 in
theorem banswer_spec {r:Rp} {sl sb:Sl} (hi:RpW r) (hg:RoI R sl r.left) (hp:SlR R.m sb (r.labs.map Value.string)) (hw:Sat R Hs w):
  Gets Tryz.prog 43 #[.agg #[.int .i64 r.code,.string r.pnr,.int .i64 r.state,.int .i64 r.flt,.int .i64 r.cls,.int .i64 r.many,.int .i64 r.time,.slice sl.a sl.len sl.cap,.slice sb.a sb.len sb.cap]] w fun v w'=>
   ∃ t:Sl,v=.slice t.a t.len t.cap∧Sat R (Own t 5 (b8 (rpB r))::Hs) w':=by
 have hplen:sb.len=r.labs.length:=by have:=hp.len;simpa using this
 have i1:=hi.ints
 have i2:=hi.pnr
 have i3:=hi.ll
 have i4:=hi.bl
 have q:∀ x∈[r.code,r.state,r.flt,r.cls,r.many,r.time]++r.left,0≤nn x∧nn x<18446744073709551616:=fun x hx=>by have:=nn_bd (i1 x hx);omega
 have l1:=nums1_len (q r.code (by simp))
 have l2:=strB_len (s:=r.pnr) i2
 have l3:=nums1_len (q r.state (by simp))
 have l4:=nums1_len (q r.flt (by simp))
 have l5:=nums1_len (q r.cls (by simp))
 have l6:=nums1_len (q r.many (by simp))
 have l7:=nums1_len (q r.time (by simp))
 have l10:=nums1_len (x:=(r.left.length:Int)) (by omega)
 have l11:=numsB_len (l:=r.left.map nn) fun y hy=>by obtain ⟨x,hx,rfl⟩:=List.mem_map.1 hy;exact q x (by simp [hx])
 rw [List.length_map] at l11
 have l12:=nums1_len (x:=(r.labs.length:Int)) (by omega)
 apply call43
 refine new_rule hw fun b w hw=>?_
 have hw:Sat R (rpC b r sl sb::Hs) w:=hw
 refine new_rule hw fun p w hw=>?_
 have hw:Sat R (WrB p []::rpC b r sl sb::Hs) w:=Sat.wrB.2 ⟨⟨none,0,0⟩,(Own.nil hw).swap⟩
 refine ⟨r.code,At.own (eqS hw) (by exact ⟨rfl,trivial⟩),?_⟩
 refine new_rule hw fun b15 w hw=>?_
 refine (wlit_spec (xs:=[r.code]) rfl (fun x hx=>i1 x (by rw [List.mem_singleton.1 hx];simp)) (by simp) hw).use ?_
 clear hw
 rintro _ w ⟨rfl,hw⟩
 refine ⟨rfl,?_⟩
 rw [show [r.code].map nn=[nn r.code] from rfl,List.nil_append] at hw
 refine ⟨r.pnr,At.own (eqS hw) (by exact ⟨rfl,trivial⟩),?_⟩
 refine wstr_rule (by omega) hw fun w hw=>?_
 refine ⟨r.state,At.own (eqS hw) (by exact ⟨rfl,trivial⟩),r.flt,At.own (eqS hw) (by exact ⟨rfl,trivial⟩),r.cls,At.own (eqS hw) (by exact ⟨rfl,trivial⟩),r.many,At.own (eqS hw) (by exact ⟨rfl,trivial⟩),r.time,At.own (eqS hw) (by exact ⟨rfl,trivial⟩),?_⟩
 refine new_rule hw fun b31 w hw=>?_
 refine (wlit_spec (xs:=[r.state,r.flt,r.cls,r.many,r.time]) rfl (fun x hx=>i1 x (by simp only [List.mem_cons,List.not_mem_nil,or_false] at hx;simp only [List.cons_append,List.mem_cons];rcases hx with h|h|h|h|h<;>simp [h])) (by simp only [List.length_append,List.length_cons,List.length_nil];omega) hw).use ?_
 clear hw
 rintro _ w ⟨rfl,hw⟩
 refine ⟨rfl,?_⟩
 rw [nn5] at hw
 refine ⟨sl,At.own (eqS hw) (by exact ⟨rfl,trivial⟩),?_⟩
 refine (wlist_spec (xs:=r.left) (fun y hy=>i1 y (by simp [hy])) i3 (by simp only [List.length_append];omega) hg hw).use ?_
 clear hw
 rintro _ w ⟨rfl,hw⟩
 refine ⟨rfl,?_⟩
 refine ⟨sb,At.own (eqS hw) (by exact ⟨rfl,trivial⟩),?_⟩
 refine new_rule hw fun b57 w hw=>?_
 refine (wlit_spec (xs:=[(sb.len:Int)]) rfl (by simp;omega) (by simp only [List.length_append,List.length_cons,List.length_nil];omega) hw).use ?_
 clear hw
 rintro _ w ⟨rfl,hw⟩
 refine ⟨rfl,?_⟩
 rw [nn1 (by omega),show ((sb.len:Nat):Int)=(r.labs.length:Int) by omega] at hw
 refine ⟨sb,At.own (eqS hw) (by exact ⟨rfl,trivial⟩),?_⟩
 obtain ⟨B,hBl,hB,hw⟩:∃ B:List Int,B.length≤2000000∧B++(r.labs.map strB).flatten=rpB r∧Sat R (WrB p B::rpC b r sl sb::Hs) w:=
  ⟨_,by simp only [List.length_append];omega,by unfold rpB;simp only [List.append_assoc],hw⟩
 refine ⟨fun i w=>∃ k:Nat,i=k∧k≤r.labs.length∧Sat R (WrB p (B++((r.labs.take k).map strB).flatten)::rpC b r sl sb::Hs) w,fun i _=>r.labs.length - i.toNat,⟨0,rfl,by omega,by simpa using hw⟩,?_⟩
 clear hw
 rintro _ _ w ⟨k,rfl,hk,hw⟩
 refine Br.d (fun h=>?_) (fun h=>?_)
 ·have hkx:k<r.labs.length:=by omega
  have hfl:=flat_len (l:=r.labs.take k) (code:=strB) (m:=100009) fun x hx=>by have:=hi.labs x (List.mem_of_mem_take hx);have:=strB_len this;omega
  rw [List.length_take] at hfl
  have hsk:=hi.labs _ (List.getElem_mem hkx)
  refine Ro.ixStr (hp.ro (by rw [List.length_map];omega)) (eqS hw) k rfl hkx ?_
  refine wstr_rule (by rw [List.length_append];omega) hw fun w hw=>?_
  rw [wrap64 (by omega) (by omega)]
  refine ⟨⟨k + 1,by omega,by omega,?_⟩,by dsimp only;omega⟩
  rw [List.take_add_one,List.getElem?_eq_getElem hkx,List.map_append,List.flatten_append,←List.append_assoc]
  simpa using hw
 ·rw [List.take_of_length_le (l:=r.labs) (by omega),hB] at hw
  obtain ⟨s,hw⟩:=Sat.wrB.1 hw
  refine ⟨s,At.own (eqS hw) (by exact ⟨rfl,trivial⟩),s,rfl,?_⟩
  exact (hw.drop.swap).drop
end Go.Proofs.YtflgboncpbmikaaGreatDoor
/- Package booking: a reader. Condition: bounds on lengths. -/
namespace Go.Proofs.YtflgboncpbmikaaGreatDoor
set_option linter.unusedVariables false
set_option linter.unusedSimpArgs false
open Go Go.VC
variable {R:Cx} {Hs Rest:List HP} {w:World}
theorem bnum_spec {r:Nat} {rd:Rd} {most:Int} (hb:Bytes rd.bs) (h0:0≤most) (h1:most<9223372036854775808) (hw:Sat R (RdAt r rd::Hs) w):
  Gets Tryz.prog 67 #[.agg #[.pointer (some ⟨r,0,none⟩)],.int .i64 most] w fun v w'=>v=.int .i64 (rdNum most rd).1∧Sat R (RdAt r (rdNum most rd).2::Hs) w':=by
 have hv:=rdNum_val hb h0
 apply call67
 refine new_rule hw fun b w hw=>?_
 refine ⟨_,At.own (eqS hw) (by exact ⟨rfl,trivial⟩),?_⟩
 rw [wrapU64 (by omega) (by omega)]
 refine (rnum_spec hb hw.drop).use ?_
 rintro _ w ⟨rfl,hw⟩
 refine ⟨_,rfl,?_,hw⟩
 rw [wrap64 (by omega) (by omega)]
theorem bstr_spec {r:Nat} {rd:Rd} {most:Int} (hb:Bytes rd.bs) (hl:rd.bs.length≤1099511627776) (h1:most<9223372036854775808) (hw:Sat R (RdAt r rd::Hs) w):
  Gets Tryz.prog 68 #[.agg #[.pointer (some ⟨r,0,none⟩)],.int .i64 most] w fun v w'=>v=.string (strRd most rd).1∧Sat R (RdAt r (strRd most rd).2::Hs) w':=by
 apply call68
 refine new_rule hw fun b w hw=>?_
 refine ⟨_,At.own (eqS hw) (by exact ⟨rfl,trivial⟩),?_⟩
 refine (rtext_spec h1 hl hb hw.drop).use ?_
 rintro _ w ⟨t,rfl,hw⟩
 have hlen:=rdText_len (most:=most) (rd:=rd)
 obtain ⟨R',hr,_,hw2,back⟩:=Own.lend hw (by rw [List.length_map];omega)
 refine ⟨t,rfl,VC.strOf (rdText most rd).1,fun w' e=>?_,rfl,hw.drop⟩
 rw [show w'=w from e]
 exact convS_ro Tryz.underlying22 Tryz.underlying5 Tryz.underlying9 hw2 hr
theorem bflt_spec {r:Nat} {rd:Rd} (hb:Bytes rd.bs) (hw:Sat R (RdAt r rd::Hs) w):
  Gets Tryz.prog 69 #[.agg #[.pointer (some ⟨r,0,none⟩)]] w fun v w'=>v=.float .f64 (fltRd rd).1∧Sat R (RdAt r (fltRd rd).2::Hs) w':=by
 have hv:=rdNum_val (most:=18446744073709551615) hb (by omega)
 apply call69
 refine new_rule hw fun b w hw=>?_
 refine ⟨_,At.own (eqS hw) (by exact ⟨rfl,trivial⟩),?_⟩
 refine (rnum_spec hb hw.drop).use ?_
 rintro _ w ⟨rfl,hw⟩
 refine ⟨_,rfl,?_⟩
 obtain ⟨n,hn⟩:=Int.eq_ofNat_of_zero_le hv.1
 rw [hn]
 refine (of_spec (k:=n) (by omega) hw).use ?_
 rintro _ w ⟨rfl,hw⟩
 refine ⟨_,rfl,?_,hw⟩
 show _=Value.float .f64 (ofF (rdNum 18446744073709551615 rd).1.toNat)
 rw [hn,Int.toNat_natCast]
end Go.Proofs.YtflgboncpbmikaaGreatDoor
/- Package booking: so many things, one by one. Condition: bounds on lengths. -/
namespace Go.Proofs.YtflgboncpbmikaaGreatDoor
set_option linter.unusedVariables false
set_option linter.unusedSimpArgs false
open Go Go.VC
variable {R:Cx} {Hs Rest:List HP} {w:World}
theorem timesI_spec {r n:Nat} {rd:Rd} {f:Value} {one:Rd→Int × Rd} {I:Rd→Prop} (hI:∀ rd,I rd→I (one rd).2) (hn:n≤100000) (h0:I rd)
  (hone:∀ (T:HP) (rd:Rd) (w:World),I rd→Sat R (RdAt r rd::T::Hs) w→CalW Tryz.prog cl f [] w fun e w'=>e=.returned (.int .i64 (one rd).1)∧Sat R (RdAt r (one rd).2::T::Hs) w')
  (hw:Sat R (RdAt r rd::Hs) w):
  Gets Tryz.prog 70 #[.int .i64 n,f] w fun v w'=>∃ t:Sl,v=.slice t.a t.len t.cap∧Sat R (Own t 3 (intsI (rdEach one n rd).1)::RdAt r (rdEach one n rd).2::Hs) w':=by
 apply call70
 have inv:∀ k,I (rdEach one k rd).2:=fun k=>(rdEach_inv (one:=one) (P:=I) (Q:=fun _=>True) (fun r hr=>⟨trivial,hI r hr⟩) k h0).2
 refine ⟨fun out i w=>∃ k:Nat,i=k∧k≤n∧Sat R (Own out 3 (intsI (rdEach one k rd).1)::RdAt r (rdEach one k rd).2::Hs) w,fun _ i _=>n - i.toNat,⟨0,rfl,by omega,Own.nil hw⟩,?_⟩
 clear hw
 rintro _ out _ w ⟨k,rfl,hk,hw⟩
 refine Br.d (fun h=>?_) (fun h=>?_)
 ·refine (hone _ _ _ (inv k) hw.swap).mono ?_
  rintro _ w ⟨rfl,hw⟩
  refine ⟨_,rfl,?_⟩
  have hl:=rdEach_len one k rd
  refine pushI_rule elI8 hw.swap (by rw [hl];omega) fun out' w hw=>?_
  rw [wrap64 (by omega) (by omega)]
  refine ⟨⟨k + 1,by omega,by omega,?_⟩,by dsimp only;omega⟩
  rw [rdEach_snoc]
  exact hw
 ·have:k=n:=by omega
  subst this
  exact ⟨out,rfl,hw⟩
end Go.Proofs.YtflgboncpbmikaaGreatDoor
/- Package booking: so many texts, so many floats, one by one. Condition: bounds on lengths. -/
namespace Go.Proofs.YtflgboncpbmikaaGreatDoor
set_option linter.unusedVariables false
set_option linter.unusedSimpArgs false
open Go Go.VC
variable {R:Cx} {Hs Rest:List HP} {w:World}
theorem elFl:El Tryz.prog 94 94 91 8:=⟨Tryz.underlying94,⟨_,Tryz.underlying94⟩,by kernel_rfl⟩
theorem oneAll_fl (l:List Nat):oneAll (flts l)=true:=by unfold oneAll flts;simp [Value.oneCell']
theorem timesF_spec {r n:Nat} {rd:Rd} {f:Value} {one:Rd→Nat × Rd} {I:Rd→Prop} (hI:∀ rd,I rd→I (one rd).2) (hn:n≤100000) (h0:I rd)
  (hone:∀ (T:HP) (rd:Rd) (w:World),I rd→Sat R (RdAt r rd::T::Hs) w→CalW Tryz.prog cl f [] w fun e w'=>e=.returned (.float .f64 (one rd).1)∧Sat R (RdAt r (one rd).2::T::Hs) w')
  (hw:Sat R (RdAt r rd::Hs) w):
  Gets Tryz.prog 71 #[.int .i64 n,f] w fun v w'=>∃ t:Sl,v=.slice t.a t.len t.cap∧Sat R (Own t 91 (flts (rdEach one n rd).1)::RdAt r (rdEach one n rd).2::Hs) w':=by
 apply call71
 have inv:∀ k,I (rdEach one k rd).2:=fun k=>(rdEach_inv (one:=one) (P:=I) (Q:=fun _=>True) (fun r hr=>⟨trivial,hI r hr⟩) k h0).2
 refine ⟨fun out i w=>∃ k:Nat,i=k∧k≤n∧Sat R (Own out 91 (flts (rdEach one k rd).1)::RdAt r (rdEach one k rd).2::Hs) w,fun _ i _=>n - i.toNat,⟨0,rfl,by omega,Own.nil hw⟩,?_⟩
 clear hw
 rintro _ out _ w ⟨k,rfl,hk,hw⟩
 refine Br.d (fun h=>?_) (fun h=>?_)
 ·refine (hone _ _ _ (inv k) hw.swap).mono ?_
  rintro _ w ⟨rfl,hw⟩
  refine ⟨_,rfl,?_⟩
  have hl:=rdEach_len one k rd
  refine push_rule elFl hw.swap (oneAll_fl _) rfl (by rw [List.length_map,hl];omega) (by rw [List.length_map,hl];omega) fun out' w hw=>?_
  rw [wrap64 (by omega) (by omega)]
  refine ⟨⟨k + 1,by omega,by omega,?_⟩,by dsimp only;omega⟩
  rw [rdEach_snoc]
  simpa using hw
 ·have:k=n:=by omega
  subst this
  exact ⟨out,rfl,hw⟩
end Go.Proofs.YtflgboncpbmikaaGreatDoor


/- Package booking: Decode. Condition: bounds on lengths. -/
namespace Go.Proofs.YtflgboncpbmikaaGreatDoor
set_option linter.unusedVariables false
set_option linter.unusedSimpArgs false
open Go Go.VC
open Classical
variable {R:Cx} {Hs Rest:List HP} {w:World}
abbrev brC (b r:Nat):HP:=pts b (.cells [.pointer (some ⟨r,0,none⟩)].toArray 130 (0,0))
abbrev nilSl:Sl:=⟨none,0,0⟩
abbrev cmHead (k:Int) (p:ByteArray) (f c m t:Int):Cm:=⟨k,p,f,c,m,t,0,ByteArray.mk #[],0,[],[]⟩
abbrev cmNew (b:Nat):HP:=cmC b (cmHead 0 (ByteArray.mk #[]) 0 0 0 0) nilSl nilSl
theorem bdn_spec {b r:Nat} {rd:Rd} (hb:Bytes rd.bs) (hw:Sat R (RdAt r rd::brC b r::Hs) w):
  Gets Tryz.prog 66 #[.pointer (some ⟨b,0,none⟩)] w fun v w'=>v=.int .i64 (rdNum 9999 rd).1∧Sat R (RdAt r (rdNum 9999 rd).2::brC b r::Hs) w':=by
 apply call66
 have hw2:Sat R (brC b r::RdAt r rd::Hs) w:=hw.swap
 refine NilP.mk rfl ⟨some ⟨r,0,none⟩,At.own (eqS hw2) (by exact ⟨rfl,trivial⟩),?_⟩
 refine (bnum_spec (most:=9999) hb (by omega) (by omega) hw).use ?_
 rintro _ w ⟨rfl,hw⟩
 exact ⟨_,rfl,rfl,hw⟩
theorem tru2 {A B:HP} (hw:Sat R (A::B::Hs) w):Sat R [B,VC.tru] w:=hw.swap.restTru2
theorem tru3 {A B C:HP} (hw:Sat R (C::A::B::Hs) w):Sat R [B,VC.tru] w:=(hw.arr (Hs':=B::C::A::Hs)).restTru2
section
variable (S:World→Prop) (J:Option Addr→World→Prop) (b4 b:Nat) (r:Option Addr)
def dT6 (k:Int) (p:ByteArray) (f c m t:Int) (w:World):Prop:=
 ∃ w':World,((Instr.storeAt 96 (.pointer (some ⟨b,0,none⟩)) (.agg #[.int .i64 k,.string p,.int .i64 f,.int .i64 c,.int .i64 m,.int .i64 t,.float .f64 0,.string (ByteArray.mk #[]),.int .i64 0,.slice none 0 0,.slice none 0 0])).run Tryz.prog w=.ok () w')∧J (some ⟨b,0,none⟩) w'
def dT5 (k:Int) (p:ByteArray) (f c m:Int) (w:World):Prop:=
 Calls Tryz.prog 67 #[.agg #[.pointer r],.int .i64 1099511627776] w fun e w'=>∃ t:Int,(e=.returned (.int .i64 t))∧S w'∧dT6 J b k p f c m t w'
def dT4 (k:Int) (p:ByteArray) (f c:Int) (w:World):Prop:=
 Calls Tryz.prog 66 #[.pointer (some ⟨b4,0,none⟩)] w fun e w'=>∃ t:Int,(e=.returned (.int .i64 t))∧S w'∧dT5 S J b r k p f c t w'
def dT3 (k:Int) (p:ByteArray) (f:Int) (w:World):Prop:=
 Calls Tryz.prog 66 #[.pointer (some ⟨b4,0,none⟩)] w fun e w'=>∃ t:Int,(e=.returned (.int .i64 t))∧S w'∧dT4 S J b4 b r k p f t w'
def dT2 (k:Int) (p:ByteArray) (w:World):Prop:=
 Calls Tryz.prog 66 #[.pointer (some ⟨b4,0,none⟩)] w fun e w'=>∃ t:Int,(e=.returned (.int .i64 t))∧S w'∧dT3 S J b4 b r k p t w'
def dT1 (k:Int) (w:World):Prop:=
 Calls Tryz.prog 68 #[.agg #[.pointer r],.int .i64 16] w fun e w'=>∃ t:ByteArray,(e=.returned (.string t))∧S w'∧dT2 S J b4 b r k t w'
def dT0 (w:World):Prop:=
 Calls Tryz.prog 67 #[.agg #[.pointer r],.int .i64 9] w fun e w'=>∃ t:Int,(e=.returned (.int .i64 t))∧S w'∧dT1 S J b4 b r t w'
end
section
variable {J:Option Addr→World→Prop} {b4 b r:Nat} {rd:Rd} {k f c m t:Int} {p:ByteArray}
theorem dT6_ok (hJ:∀ {w},Sat R (cmC b (cmHead k p f c m t) nilSl nilSl::RdAt r rd::brC b4 r::Hs) w→J (some ⟨b,0,none⟩) w) (hw:Sat R (RdAt r rd::brC b4 r::cmNew b::Hs) w):dT6 J b k p f c m t w:=by
 have hw:Sat R (cmNew b::RdAt r rd::brC b4 r::Hs) w:=hw.arr
 refine store_rule hw (by kernel_rfl) rfl (by simp [Value.cells]) fun w hw=>?_
 exact hJ (hw.re (cmC b (cmHead k p f c m t) nilSl nilSl))
theorem dT5_ok (hb:Bytes rd.bs) (hJ:∀ {w},Sat R (cmC b (cmHead k p f c m (rdNum 1099511627776 rd).1) nilSl nilSl::RdAt r (rdNum 1099511627776 rd).2::brC b4 r::Hs) w→J (some ⟨b,0,none⟩) w)
  (hw:Sat R (RdAt r rd::brC b4 r::cmNew b::Hs) w):dT5 (Sat R [brC b4 r,VC.tru]) J b (some ⟨r,0,none⟩) k p f c m w:=by
 refine (bnum_spec (most:=1099511627776) hb (by omega) (by omega) hw).use ?_
 rintro _ w ⟨rfl,hw⟩
 exact ⟨_,rfl,tru2 hw,dT6_ok hJ hw⟩
theorem dT4_ok (hb:Bytes rd.bs) (hJ:∀ {w},Sat R (cmC b (cmHead k p f c (rdNum 9999 rd).1 (rdNum 1099511627776 (rdNum 9999 rd).2).1) nilSl nilSl::RdAt r (rdNum 1099511627776 (rdNum 9999 rd).2).2::brC b4 r::Hs) w→J (some ⟨b,0,none⟩) w)
  (hw:Sat R (RdAt r rd::brC b4 r::cmNew b::Hs) w):dT4 (Sat R [brC b4 r,VC.tru]) J b4 b (some ⟨r,0,none⟩) k p f c w:=by
 refine (bdn_spec hb hw).use ?_
 rintro _ w ⟨rfl,hw⟩
 exact ⟨_,rfl,tru2 hw,dT5_ok (rdNum_bd hb) hJ hw⟩
theorem dT3_ok (hb:Bytes rd.bs) (hJ:∀ {w},Sat R (cmC b (cmHead k p f (rdNum 9999 rd).1 (rdNum 9999 (rdNum 9999 rd).2).1 (rdNum 1099511627776 (rdNum 9999 (rdNum 9999 rd).2).2).1) nilSl nilSl::RdAt r (rdNum 1099511627776 (rdNum 9999 (rdNum 9999 rd).2).2).2::brC b4 r::Hs) w→J (some ⟨b,0,none⟩) w)
  (hw:Sat R (RdAt r rd::brC b4 r::cmNew b::Hs) w):dT3 (Sat R [brC b4 r,VC.tru]) J b4 b (some ⟨r,0,none⟩) k p f w:=by
 refine (bdn_spec hb hw).use ?_
 rintro _ w ⟨rfl,hw⟩
 exact ⟨_,rfl,tru2 hw,dT4_ok (rdNum_bd hb) hJ hw⟩
theorem dT2_ok (hb:Bytes rd.bs) (hJ:∀ {w},Sat R (cmC b (cmHead k p (rdNum 9999 rd).1 (rdNum 9999 (rdNum 9999 rd).2).1 (rdNum 9999 (rdNum 9999 (rdNum 9999 rd).2).2).1 (rdNum 1099511627776 (rdNum 9999 (rdNum 9999 (rdNum 9999 rd).2).2).2).1) nilSl nilSl::RdAt r (rdNum 1099511627776 (rdNum 9999 (rdNum 9999 (rdNum 9999 rd).2).2).2).2::brC b4 r::Hs) w→J (some ⟨b,0,none⟩) w)
  (hw:Sat R (RdAt r rd::brC b4 r::cmNew b::Hs) w):dT2 (Sat R [brC b4 r,VC.tru]) J b4 b (some ⟨r,0,none⟩) k p w:=by
 refine (bdn_spec hb hw).use ?_
 rintro _ w ⟨rfl,hw⟩
 exact ⟨_,rfl,tru2 hw,dT3_ok (rdNum_bd hb) hJ hw⟩
def hd2 (rd:Rd):(Int × Int × Int × Int) × Rd:=
 let f:=rdNum 9999 rd
 let c:=rdNum 9999 f.2
 let m:=rdNum 9999 c.2
 let t:=rdNum 1099511627776 m.2
 ((f.1,c.1,m.1,t.1),t.2)
abbrev JD (R:Cx) (Hs:List HP) (b4 r:Nat) (k:Int) (p:ByteArray) (x:(Int × Int × Int × Int) × Rd) (c6:Option Addr) (w:World):Prop:=
 ∃ b,c6=some ⟨b,0,none⟩∧Sat R (cmC b (cmHead k p x.1.1 x.1.2.1 x.1.2.2.1 x.1.2.2.2) nilSl nilSl::RdAt r x.2::brC b4 r::Hs) w
theorem dT1_ok (hb:Bytes rd.bs) (hl:rd.bs.length≤1099511627776) (hJ:∀ {w},Sat R (cmC b (cmHead k (strRd 16 rd).1 (hd2 (strRd 16 rd).2).1.1 (hd2 (strRd 16 rd).2).1.2.1 (hd2 (strRd 16 rd).2).1.2.2.1 (hd2 (strRd 16 rd).2).1.2.2.2) nilSl nilSl::RdAt r (hd2 (strRd 16 rd).2).2::brC b4 r::Hs) w→J (some ⟨b,0,none⟩) w)
  (hw:Sat R (RdAt r rd::brC b4 r::cmNew b::Hs) w):dT1 (Sat R [brC b4 r,VC.tru]) J b4 b (some ⟨r,0,none⟩) k w:=by
 refine (bstr_spec (most:=16) hb hl (by omega) hw).use ?_
 rintro _ w ⟨rfl,hw⟩
 exact ⟨_,rfl,tru2 hw,dT2_ok (strRd_bd hb) hJ hw⟩
theorem dT0_ok (hb:Bytes rd.bs) (hl:rd.bs.length≤1099511627776) (hJ:∀ {w},Sat R (cmC b (cmHead (rdNum 9 rd).1 (strRd 16 (rdNum 9 rd).2).1 (hd2 (strRd 16 (rdNum 9 rd).2).2).1.1 (hd2 (strRd 16 (rdNum 9 rd).2).2).1.2.1 (hd2 (strRd 16 (rdNum 9 rd).2).2).1.2.2.1 (hd2 (strRd 16 (rdNum 9 rd).2).2).1.2.2.2) nilSl nilSl::RdAt r (hd2 (strRd 16 (rdNum 9 rd).2).2).2::brC b4 r::Hs) w→J (some ⟨b,0,none⟩) w)
  (hw:Sat R (RdAt r rd::brC b4 r::cmNew b::Hs) w):dT0 (Sat R [brC b4 r,VC.tru]) J b4 b (some ⟨r,0,none⟩) w:=by
 refine (bnum_spec (most:=9) hb (by omega) (by omega) hw).use ?_
 rintro _ w ⟨rfl,hw⟩
 exact ⟨_,rfl,tru2 hw,dT1_ok (rdNum_bd hb) (by have:=rdNum_len (most:=9) (rd:=rd);omega) hJ hw⟩
end
end Go.Proofs.YtflgboncpbmikaaGreatDoor
/- Package booking: Decode, the whole. Condition: bounds on lengths. -/
namespace Go.Proofs.YtflgboncpbmikaaGreatDoor
set_option linter.unusedVariables false
set_option linter.unusedSimpArgs false
open Go Go.VC
open Classical
variable {R:Cx} {Hs Rest:List HP} {w:World}
theorem CalW.mkB {g:FuncId} {first captured:Array Value} {args:List Value} {Q:Ending→World→Prop} (hc:cl g=true) (h:Calls Tryz.prog g (first.toList++(args++captured.toList)).toArray w Q):CalW Tryz.prog cl (.func (.func g) first captured) args w Q:=by
 unfold CalW
 simp only [hc]
 exact h
theorem CalW.mk1 {g:FuncId} {x:Value} {Q:Ending→World→Prop} (hc:cl g=true) (h:Calls Tryz.prog g #[x] w Q):CalW Tryz.prog cl (.func (.func g) #[x] #[]) [] w Q:=CalW.mkB hc (by
 have e:((#[x]:Array Value).toList++(([]:List Value)++(#[]:Array Value).toList)).toArray=#[x]:=rfl
 rw [e];exact h)
def zeroC:Cm:=cmHead 0 (ByteArray.mk #[]) 0 0 0 0
noncomputable def cmDec (bs:List Int):Cm × Int:=if rdWhole (cmRd ⟨bs,false⟩).2=true∧RightC (cmRd ⟨bs,false⟩).1 then ((cmRd ⟨bs,false⟩).1,0) else (zeroC,6)
theorem strRd_len {most:Int} {rd:Rd}:(strRd most rd).2.bs.length≤rd.bs.length:=rdText_len.2
theorem fltRd_len {rd:Rd}:(fltRd rd).2.bs.length≤rd.bs.length:=rdNum_len
theorem hd2_bd {rd:Rd} (hb:Bytes rd.bs):Bytes (hd2 rd).2.bs:=rdNum_bd (rdNum_bd (rdNum_bd (rdNum_bd hb)))
theorem hd2_len {rd:Rd}:(hd2 rd).2.bs.length≤rd.bs.length:=Nat.le_trans rdNum_len (Nat.le_trans rdNum_len (Nat.le_trans rdNum_len rdNum_len))
theorem cmRd_hd (r:Rd):cmRd r=
 let k:=rdNum 9 r
 let p:=strRd 16 k.2
 let h:=hd2 p.2
 let s:=fltRd h.2
 let l:=strRd 16 s.2
 let w:=rdNum 9999 l.2
 let n:=rdNum 16 w.2
 let g:=rdEach (rdNum 9999) n.1.toNat n.2
 let q:=rdNum 16 g.2
 let x:=rdEach fltRd q.1.toNat q.2
 (⟨k.1,p.1,h.1.1,h.1.2.1,h.1.2.2.1,h.1.2.2.2,s.1,l.1,w.1,g.1,x.1⟩,x.2):=rfl
set_option maxHeartbeats 1000000 in
theorem bdec_spec {s:Sl} {bs:List Int} (hb:Bytes bs) (hl:bs.length≤1099511627776) (hs:Ro R s (b8 bs)) (hw:Sat R Hs w):
  Gets Tryz.prog 42 #[.slice s.a s.len s.cap] w fun v w'=>∃ sg sp:Sl,v=.tuple #[.agg (cmV (cmDec bs).1 sg sp).toArray,.int .i64 (cmDec bs).2]∧Sat R (Own sg 3 (intsI (cmDec bs).1.grps)::Own sp 91 (flts (cmDec bs).1.parts)::Hs) w':=by
 apply call42
 have b0:Bytes (⟨bs,false⟩:Rd).bs:=hb
 have l0:(⟨bs,false⟩:Rd).bs.length≤1099511627776:=hl
 have hcm:=cmRd_hd ⟨bs,false⟩
 obtain ⟨rd0,e0⟩:∃ rd:Rd,rd=⟨bs,false⟩:=⟨_,rfl⟩
 rw [←e0] at b0 l0 hcm
 have b1:=rdNum_bd (most:=9) b0
 have l1:(rdNum 9 rd0).2.bs.length≤1099511627776:=Nat.le_trans rdNum_len l0
 refine new_rule hw fun b2 w hw=>?_
 have hw:Sat R (cmNew b2::Hs) w:=hw
 refine (fnew_spec hs hl hw).use ?_
 clear hw
 rintro _ w ⟨r,rfl,hw⟩
 refine ⟨_,rfl,?_⟩
 rw [←e0] at hw
 refine new_rule hw fun b4 w hw=>?_
 refine store_rule hw (by kernel_rfl) rfl (by simp [Value.cells]) fun w hw=>?_
 have hw:Sat R (RdAt r rd0::brC b4 r::cmNew b2::Hs) w:=hw.re (brC b4 r)|>.swap
 refine ⟨JD R (cmNew b2::Hs) b4 r (rdNum 9 rd0).1 (strRd 16 (rdNum 9 rd0).2).1 (hd2 (strRd 16 (rdNum 9 rd0).2).2),?_,?_⟩
 ·refine drw_rule' (Sat R [brC b4 r,VC.tru]) hw (fun w hw=>tru2 hw) fun w hw=>?_
  clear hcm
  refine ⟨_,At.own (fun _ h=>h) (by exact ⟨rfl,trivial⟩),_,At.own (fun _ h=>h) (by exact ⟨rfl,trivial⟩),_,At.own (fun _ h=>h) (by exact ⟨rfl,trivial⟩),?_⟩
  refine ⟨?_,new_rule hw fun b w hw=>⟨tru3 hw,dT0_ok b0 l0 (fun hw=>⟨b,rfl,hw⟩) (hw.arr (Hs':=RdAt r rd0::brC b4 r::cmNew b::cmNew b2::Hs))⟩⟩
  refine (bnum_spec (most:=9) b0 (by omega) (by omega) hw).use ?_
  clear hw
  rintro _ w ⟨rfl,hw⟩
  refine ⟨_,rfl,tru2 hw,?_⟩
  generalize (rdNum 9 rd0).1=k at *
  generalize (rdNum 9 rd0).2=rd1 at *
  refine ⟨?_,new_rule hw fun b w hw=>⟨tru3 hw,dT1_ok b1 l1 (fun hw=>⟨b,rfl,hw⟩) (hw.arr (Hs':=RdAt r rd1::brC b4 r::cmNew b::cmNew b2::Hs))⟩⟩
  have b2':=strRd_bd (most:=16) b1
  refine (bstr_spec (most:=16) b1 l1 (by omega) hw).use ?_
  clear hw
  rintro _ w ⟨rfl,hw⟩
  refine ⟨_,rfl,tru2 hw,?_⟩
  generalize (strRd 16 rd1).1=p at *
  generalize (strRd 16 rd1).2=rd2 at *
  refine ⟨?_,new_rule hw fun b w hw=>⟨tru3 hw,dT2_ok b2' (fun hw=>⟨b,rfl,hw⟩) (hw.arr (Hs':=RdAt r rd2::brC b4 r::cmNew b::cmNew b2::Hs))⟩⟩
  have b3:=rdNum_bd (most:=9999) b2'
  refine (bdn_spec b2' hw).use ?_
  clear hw
  rintro _ w ⟨rfl,hw⟩
  refine ⟨_,rfl,tru2 hw,?_⟩
  refine ⟨?_,new_rule hw fun b w hw=>⟨tru3 hw,dT3_ok b3 (fun hw=>⟨b,rfl,hw⟩) (hw.arr (Hs':=RdAt r _::brC b4 r::cmNew b::cmNew b2::Hs))⟩⟩
  have b4':=rdNum_bd (most:=9999) b3
  refine (bdn_spec b3 hw).use ?_
  clear hw
  rintro _ w ⟨rfl,hw⟩
  refine ⟨_,rfl,tru2 hw,?_⟩
  refine ⟨?_,new_rule hw fun b w hw=>⟨tru3 hw,dT4_ok b4' (fun hw=>⟨b,rfl,hw⟩) (hw.arr (Hs':=RdAt r _::brC b4 r::cmNew b::cmNew b2::Hs))⟩⟩
  have b5:=rdNum_bd (most:=9999) b4'
  refine (bdn_spec b4' hw).use ?_
  clear hw
  rintro _ w ⟨rfl,hw⟩
  refine ⟨_,rfl,tru2 hw,?_⟩
  refine ⟨?_,new_rule hw fun b w hw=>⟨tru3 hw,dT5_ok b5 (fun hw=>⟨b,rfl,hw⟩) (hw.arr (Hs':=RdAt r _::brC b4 r::cmNew b::cmNew b2::Hs))⟩⟩
  refine (bnum_spec (most:=1099511627776) b5 (by omega) (by omega) hw).use ?_
  clear hw
  rintro _ w ⟨rfl,hw⟩
  have hw:Sat R (RdAt r (hd2 rd2).2::brC b4 r::cmNew b2::Hs) w:=hw
  refine ⟨_,rfl,tru2 hw,new_rule hw fun b w hw=>⟨tru3 hw,dT6_ok (fun hw=>⟨b,rfl,hw⟩) (hw.arr (Hs':=RdAt r _::brC b4 r::cmNew b::cmNew b2::Hs))⟩⟩
 clear hw
 obtain ⟨k,rd1,e1⟩:∃ y rd,rdNum 9 rd0=(y,rd):=⟨_,_,rfl⟩
 rw [e1] at b1 l1 ⊢
 dsimp only at b1 l1 ⊢
 have b2':=strRd_bd (most:=16) b1
 have l2:(strRd 16 rd1).2.bs.length≤1099511627776:=Nat.le_trans strRd_len l1
 obtain ⟨p,rd2,e2⟩:∃ y rd,strRd 16 rd1=(y,rd):=⟨_,_,rfl⟩
 rw [e2] at b2' l2 ⊢
 dsimp only at b2' l2 ⊢
 have b3:=hd2_bd b2'
 have l3:(hd2 rd2).2.bs.length≤1099511627776:=Nat.le_trans hd2_len l2
 obtain ⟨⟨f,c,m,t⟩,rd3,e3⟩:∃ y rd,hd2 rd2=(y,rd):=⟨_,_,rfl⟩
 rw [e3] at b3 l3 ⊢
 dsimp only at b3 l3 ⊢
 rintro _ _ w ⟨b,rfl,hw⟩
 have b4':=fltRd_bd b3
 have l4:(fltRd rd3).2.bs.length≤1099511627776:=Nat.le_trans fltRd_len l3
 obtain ⟨sc,rd4,e4⟩:∃ y rd,fltRd rd3=(y,rd):=⟨_,_,rfl⟩
 have hw:Sat R (RdAt r rd3::brC b4 r::cmC b (cmHead k p f c m t) nilSl nilSl::cmNew b2::Hs) w:=hw.arr
 refine ⟨some ⟨r,0,none⟩,At.own (eqS hw) (by exact ⟨rfl,trivial⟩),?_⟩
 refine (bflt_spec b3 hw).use ?_
 clear hw
 rintro _ w ⟨rfl,hw⟩
 rw [e4] at b4' l4 hw ⊢
 dsimp only at b4' l4 hw ⊢
 refine ⟨_,rfl,NilP.mk rfl ?_⟩
 refine store_rule hw (by kernel_rfl) rfl (by simp [Value.cells]) fun w hw=>?_
 have hw:Sat R (RdAt r rd4::brC b4 r::cmC b { cmHead k p f c m t with sc:=sc } nilSl nilSl::cmNew b2::Hs) w:=(hw.re (cmC b { cmHead k p f c m t with sc:=sc } nilSl nilSl)).arr
 have b5:=strRd_bd (most:=16) b4'
 have l5:(strRd 16 rd4).2.bs.length≤1099511627776:=Nat.le_trans strRd_len l4
 obtain ⟨lab,rd5,e5⟩:∃ y rd,strRd 16 rd4=(y,rd):=⟨_,_,rfl⟩
 refine ⟨some ⟨r,0,none⟩,At.own (eqS hw) (by exact ⟨rfl,trivial⟩),?_⟩
 refine (bstr_spec (most:=16) b4' l4 (by omega) hw).use ?_
 clear hw
 rintro _ w ⟨rfl,hw⟩
 rw [e5] at b5 l5 hw ⊢
 dsimp only at b5 l5 hw ⊢
 refine ⟨_,rfl,NilP.mk rfl ?_⟩
 refine store_rule hw (by kernel_rfl) rfl (by simp [Value.cells]) fun w hw=>?_
 have hw:Sat R (RdAt r rd5::brC b4 r::cmC b { cmHead k p f c m t with sc:=sc,lab:=lab } nilSl nilSl::cmNew b2::Hs) w:=(hw.re (cmC b { cmHead k p f c m t with sc:=sc,lab:=lab } nilSl nilSl)).arr
 have b6:=rdNum_bd (most:=9999) b5
 have l6:(rdNum 9999 rd5).2.bs.length≤1099511627776:=Nat.le_trans rdNum_len l5
 obtain ⟨rows,rd6,e6⟩:∃ y rd,rdNum 9999 rd5=(y,rd):=⟨_,_,rfl⟩
 refine (bdn_spec b5 hw).use ?_
 clear hw
 rintro _ w ⟨rfl,hw⟩
 rw [e6] at b6 l6 hw ⊢
 dsimp only at b6 l6 hw ⊢
 refine ⟨_,rfl,NilP.mk rfl ?_⟩
 refine store_rule hw (by kernel_rfl) rfl (by simp [Value.cells]) fun w hw=>?_
 have hw:Sat R (RdAt r rd6::brC b4 r::cmC b { cmHead k p f c m t with sc:=sc,lab:=lab,rows:=rows } nilSl nilSl::cmNew b2::Hs) w:=(hw.re (cmC b { cmHead k p f c m t with sc:=sc,lab:=lab,rows:=rows } nilSl nilSl)).arr
 have b7:=rdNum_bd (most:=16) b6
 have v7:=rdNum_val (most:=16) b6 (by omega)
 obtain ⟨n7,rd7,e7⟩:∃ y rd,rdNum 16 rd6=(y,rd):=⟨_,_,rfl⟩
 refine ⟨some ⟨r,0,none⟩,At.own (eqS hw) (by exact ⟨rfl,trivial⟩),?_⟩
 refine (bnum_spec (most:=16) b6 (by omega) (by omega) hw).use ?_
 clear hw
 rintro _ w ⟨rfl,hw⟩
 rw [e7] at b7 v7 hw ⊢
 dsimp only at b7 v7 hw ⊢
 refine ⟨_,rfl,?_⟩
 obtain ⟨n,rfl⟩:=Int.eq_ofNat_of_zero_le v7.1
 have b8':Bytes (rdEach (rdNum 9999) n rd7).2.bs:=(rdEach_inv (one:=rdNum 9999) (P:=fun r=>Bytes r.bs) (Q:=fun _=>True) (fun r hr=>⟨trivial,rdNum_bd hr⟩) n b7).2
 refine (timesI_spec (one:=rdNum 9999) (I:=fun rd=>Bytes rd.bs) (fun rd h=>rdNum_bd h) (by omega) b7 (fun T rd w hI hw=>CalW.mk (by kernel_rfl) ((bdn_spec hI (hw.arr (Hs':=RdAt r rd::brC b4 r::T::cmC b { cmHead k p f c m t with sc:=sc,lab:=lab,rows:=rows } nilSl nilSl::cmNew b2::Hs))).use fun v w h=>⟨by rw [h.1],h.2.arr⟩)) hw).use ?_
 clear hw
 rintro _ w ⟨sg,rfl,hw⟩
 have gl:=rdEach_len (rdNum 9999) n rd7
 obtain ⟨gs,rd8,e8⟩:∃ y rd,rdEach (rdNum 9999) n rd7=(y,rd):=⟨_,_,rfl⟩
 rw [e8] at gl b8' hw
 dsimp only at gl b8' hw
 refine ⟨sg,rfl,NilP.mk rfl ?_⟩
 refine store_rule hw (by kernel_rfl) rfl (by simp [Value.cells]) fun w hw=>?_
 have hw:Sat R (RdAt r rd8::brC b4 r::Own sg 3 (intsI gs)::cmC b { cmHead k p f c m t with sc:=sc,lab:=lab,rows:=rows,grps:=gs } sg nilSl::cmNew b2::Hs) w:=(hw.re (cmC b { cmHead k p f c m t with sc:=sc,lab:=lab,rows:=rows,grps:=gs } sg nilSl)).arr
 have b9:=rdNum_bd (most:=16) b8'
 have v9:=rdNum_val (most:=16) b8' (by omega)
 obtain ⟨n9,rd9,e9⟩:∃ y rd,rdNum 16 rd8=(y,rd):=⟨_,_,rfl⟩
 refine drw_rule' (Sat R [brC b4 r,VC.tru]) hw (fun w hw=>tru2 hw) fun w hw=>?_
 refine ⟨some ⟨r,0,none⟩,At.own (fun _ h=>h) (by exact ⟨rfl,trivial⟩),some ⟨r,0,none⟩,At.own (fun _ h=>h) (by exact ⟨rfl,trivial⟩),?_⟩
 refine (bnum_spec (most:=16) b8' (by omega) (by omega) hw).use ?_
 clear hw
 rintro _ w ⟨rfl,hw⟩
 rw [e9] at b9 v9 hw ⊢
 dsimp only at b9 v9 hw ⊢
 refine ⟨_,rfl,tru2 hw,?_⟩
 obtain ⟨n',rfl⟩:=Int.eq_ofNat_of_zero_le v9.1
 refine (timesF_spec (one:=fltRd) (I:=fun rd=>Bytes rd.bs) (fun rd h=>fltRd_bd h) (by omega) b9 (fun T rd w hI hw=>CalW.mk1 (by kernel_rfl) ((bflt_spec hI hw).use fun v w h=>⟨by rw [h.1],h.2⟩)) hw).use ?_
 clear hw
 rintro _ w ⟨sp,rfl,hw⟩
 have pl:=rdEach_len fltRd n' rd9
 obtain ⟨ps,rd10,e10⟩:∃ y rd,rdEach fltRd n' rd9=(y,rd):=⟨_,_,rfl⟩
 rw [e10] at pl hw
 dsimp only at pl hw
 have hC:cmRd rd0=({ cmHead k p f c m t with sc:=sc,lab:=lab,rows:=rows,grps:=gs,parts:=ps },rd10):=by
  rw [hcm]
  simp only [e1,e2,e3,e4,e5,e6,e7,e8,e9,e10,Int.toNat_natCast]
 clear hcm
 rw [e0] at hC
 have hdec:cmDec bs=if rdWhole rd10=true∧RightC { cmHead k p f c m t with sc:=sc,lab:=lab,rows:=rows,grps:=gs,parts:=ps } then ({ cmHead k p f c m t with sc:=sc,lab:=lab,rows:=rows,grps:=gs,parts:=ps },0) else (zeroC,6):=by unfold cmDec;rw [hC]
 obtain ⟨C,eC⟩:∃ C:Cm,C={ cmHead k p f c m t with sc:=sc,lab:=lab,rows:=rows,grps:=gs,parts:=ps }:=⟨_,rfl⟩
 refine ⟨sp,rfl,(hw.arr (Hs':=RdAt r rd10::brC b4 r::Own sp 91 (flts ps)::Own sg 3 (intsI gs)::cmC b { cmHead k p f c m t with sc:=sc,lab:=lab,rows:=rows,grps:=gs } sg nilSl::cmNew b2::Hs))|>tru2,NilP.mk rfl ?_⟩
 refine store_rule hw (by kernel_rfl) rfl (by simp [Value.cells]) fun w hw=>?_
 have hw:=hw.re (cmC b { cmHead k p f c m t with sc:=sc,lab:=lab,rows:=rows,grps:=gs,parts:=ps } sg sp)
 rw [←eC] at hdec hw
 have eg:C.grps=gs:=by rw [eC]
 have ep:C.parts=ps:=by rw [eC]
 rw [←eg] at hw gl
 rw [←ep] at hw pl
 clear eC hC eg ep e1 e2 e3 e4 e5 e6 e7 e8 e9 e10 b0 b1 b2' b3 b4' b5 b6 b7 b8' b9 l0 l1 l2 l3 l4 l5 l6
 have hw:Sat R (RdAt r rd10::brC b4 r::cmC b C sg sp::Own sp 91 (flts C.parts)::Own sg 3 (intsI C.grps)::cmNew b2::Hs) w:=hw.arr
 refine ⟨some ⟨r,0,none⟩,At.own (eqS hw) (by exact ⟨rfl,trivial⟩),?_⟩
 refine (whole_spec hw).use ?_
 clear hw
 rintro _ w ⟨rfl,hw⟩
 refine ⟨_,rfl,?_⟩
 have no:cmDec bs=(zeroC,6)→∀ {w},Sat R (cmNew b2::Hs) w→∃ sg sp:Sl,Value.tuple #[.agg (cmV zeroC nilSl nilSl).toArray,.int .i64 6]=.tuple #[.agg (cmV (cmDec bs).1 sg sp).toArray,.int .i64 (cmDec bs).2]∧Sat R (Own sg 3 (intsI (cmDec bs).1.grps)::Own sp 91 (flts (cmDec bs).1.parts)::Hs) w:=fun e {w} hw=>by
  rw [e]
  exact ⟨nilSl,nilSl,rfl,Own.nil (Own.nil hw.drop)⟩
 refine Br.nb (fun h=>?_) (fun h=>?_)
 ·have hw:Sat R (cmNew b2::Hs) w:=hw.drop.drop.drop.drop.drop
  refine store_rule hw (by kernel_rfl) rfl (by simp [Value.cells]) fun w hw=>?_
  have hw:=hw.re (cmNew b2)
  refine ⟨_,_,_,_,_,_,_,_,_,nilSl,nilSl,At.own (eqS hw) (by exact ⟨rfl,rfl,rfl,rfl,rfl,rfl,rfl,rfl,rfl,rfl,rfl,trivial⟩),no ?_ hw⟩
  rw [hdec,if_neg (by rintro ⟨h1,_⟩;rw [h1] at h;cases h)]
 refine NilP.mk rfl ⟨C.kind,C.pnr,C.flt,C.cls,C.many,C.time,C.sc,C.lab,C.rows,sg,sp,At.own (eqS hw) (by exact ⟨rfl,rfl,rfl,rfl,rfl,rfl,rfl,rfl,rfl,rfl,rfl,trivial⟩),?_⟩
 have hw:Sat R (Own sg 3 (intsI C.grps)::RdAt r rd10::brC b4 r::cmC b C sg sp::Own sp 91 (flts C.parts)::cmNew b2::Hs) w:=hw.arr
 have sl:=Own.len (hw.arr (Hs':=Own sp 91 (flts C.parts)::Own sg 3 (intsI C.grps)::RdAt r rd10::brC b4 r::cmC b C sg sp::cmNew b2::Hs))
 obtain ⟨R',hr,_,hw,back⟩:=Own.lendI hw (by omega)
 refine (bright_spec hr (by omega) (by simpa using sl) hw).use ?_
 clear hw
 rintro _ w ⟨rfl,hw⟩
 have hw:=back hw
 refine ⟨_,rfl,Br.nb (fun h2=>?_) (fun h2=>?_)⟩
 ·have hw:Sat R (cmNew b2::Hs) w:=hw.drop.drop.drop.drop.drop
  refine store_rule hw (by kernel_rfl) rfl (by simp [Value.cells]) fun w hw=>?_
  have hw:=hw.re (cmNew b2)
  refine ⟨_,_,_,_,_,_,_,_,_,nilSl,nilSl,At.own (eqS hw) (by exact ⟨rfl,rfl,rfl,rfl,rfl,rfl,rfl,rfl,rfl,rfl,rfl,trivial⟩),no ?_ hw⟩
  rw [hdec,if_neg (by rintro ⟨_,h1⟩;rw [decide_eq_true h1] at h2;cases h2)]
 refine NilP.mk rfl ⟨C.kind,C.pnr,C.flt,C.cls,C.many,C.time,C.sc,C.lab,C.rows,sg,sp,At.own (eqS hw) (by exact ⟨rfl,rfl,rfl,rfl,rfl,rfl,rfl,rfl,rfl,rfl,rfl,trivial⟩),?_⟩
 have hw:Sat R (cmNew b2::Own sg 3 (intsI C.grps)::RdAt r rd10::brC b4 r::cmC b C sg sp::Own sp 91 (flts C.parts)::Hs) w:=hw.arr
 refine store_rule hw (by kernel_rfl) rfl (by simp [Value.cells]) fun w hw=>?_
 have hw:=hw.re (cmC b2 C sg sp)
 refine ⟨C.kind,C.pnr,C.flt,C.cls,C.many,C.time,C.sc,C.lab,C.rows,sg,sp,At.own (eqS hw) (by exact ⟨rfl,rfl,rfl,rfl,rfl,rfl,rfl,rfl,rfl,rfl,rfl,trivial⟩),?_⟩
 rw [hdec,if_pos ⟨h,of_decide_eq_true h2⟩]
 exact ⟨sg,sp,rfl,hw.drop.cons fun _ h=>(h.arr (Hs':=Own sp 91 (flts C.parts)::RdAt r rd10::brC b4 r::cmC b C sg sp::Hs)).cons fun _ h=>h.drop.drop.drop⟩
end Go.Proofs.YtflgboncpbmikaaGreatDoor
/- Package booking: Read. Condition: bounds on lengths. -/
namespace Go.Proofs.YtflgboncpbmikaaGreatDoor
set_option linter.unusedVariables false
set_option linter.unusedSimpArgs false
open Go Go.VC
open Classical
variable {R:Cx} {Hs Rest:List HP} {w:World}
abbrev rpHead (k:Int) (p:ByteArray) (s f c m t:Int):Rp:=⟨k,p,s,f,c,m,t,[],[]⟩
abbrev rpNew (b:Nat):HP:=rpC b (rpHead 0 (ByteArray.mk #[]) 0 0 0 0 0) nilSl nilSl
section
variable (S:World→Prop) (J:Option Addr→World→Prop) (b4 b:Nat) (r:Option Addr)
end
section
variable {J:Option Addr→World→Prop} {b4 b r:Nat} {rd:Rd} {k s f c m t:Int} {p:ByteArray}
end
end Go.Proofs.YtflgboncpbmikaaGreatDoor

/- Reference 18: whether a command may be; steps of its codes. Condition: bounds on lengths. -/
namespace Go.Proofs.YtflgboncpbmikaaGreatDoor
set_option linter.unusedVariables false
set_option linter.unusedSimpArgs false
open Go Go.VC
open Classical
variable {R:Cx} {Hs Rest:List HP} {w:World}
theorem app8 {s t:Sl} {a b:List Int} {K:Sl→World→Prop} (hl:a.length + b.length≤1099511627776) (hw:Sat R (Own t 5 (b8 b)::Own s 5 (b8 a)::Hs) w)
  (k:∀ s2 w',Sat R (Own s2 5 (b8 (a++b))::Hs) w'→K s2 w'):
  ∃ w_1:World,∃ t2:Sl,((Builtin.append_ #[ 22,22 ] 22 #[.slice s.a s.len s.cap,.slice t.a t.len t.cap]).run Tryz.prog w=.ok (.slice t2.a t2.len t2.cap) w_1)∧K t2 w_1:=
 appendOO elB8 (s:=s) (n:=1099511627776) Tryz.underlying22 hw.swap (by omega) (by omega) (by omega) fun s2 w hw=>k s2 w (hw.swap.drop)
end Go.Proofs.YtflgboncpbmikaaGreatDoor





/- Package booking: the book in memory; errors that are thrown and caught. Condition: none. -/
namespace Go.Proofs.YtflgboncpbmikaaGreatDoor
set_option linter.unusedVariables false
set_option linter.unusedSimpArgs false
open Go Go.VC
open Classical
variable {R:Cx} {Hs Rest:List HP} {w:World}
def wtV (w:Wt):List Value:=[.int .i64 w.id,.int .i64 w.cls,.int .i64 w.many,.int .i64 w.time,.float .f64 w.sc]
abbrev quCell (s:Sl):Obj:=.cells [.slice s.a s.len s.cap].toArray 172 (0,0)
def QuAt (q:Nat) (l:List Wt):HP:=exs fun s:Sl=>Star [pts q (quCell s),OwnN 5 s 174 (l.map wtV)]
theorem Sat.qu {q:Nat} {l:List Wt}:Sat R (QuAt q l::Hs) w↔∃ s:Sl,Sat R (pts q (quCell s)::OwnN 5 s 174 (l.map wtV)::Hs) w:=by
 unfold QuAt
 rw [Sat.exs]
 exact ⟨fun ⟨s,h⟩=>⟨s,Sat.star.1 h⟩,fun ⟨s,h⟩=>⟨s,Sat.star.2 h⟩⟩
abbrev FE:=Nat × Nat × Pl
abbrev BE:=Nat × Bk
def plAt (e:FE):HP:=Star [LoneAt e.1 e.2.2.r,QuAt e.2.1 e.2.2.q]
abbrev bkObj (x:Bk):Obj:=.cells [.int .i64 x.id,.int .i64 x.flt,.int .i64 x.cls,.int .i64 x.many,.int .i64 x.state,.int .i64 x.till].toArray 123 (0,0)
def bkAt (e:BE):HP:=pts e.1 (bkObj e.2)
def FlsAt (fs:List FE):HP:=Star (fs.map plAt)
def BksAt (xs:List BE):HP:=Star (xs.map bkAt)
def flV (e:FE):Int × Value:=(e.2.2.n,.agg #[.pointer (some ⟨e.1,0,none⟩),.pointer (some ⟨e.2.1,0,none⟩)])
def bkV (e:BE):Int × Value:=(e.2.id,.pointer (some ⟨e.1,0,none⟩))
abbrev bookC (b:Book) (m1 m2:Nat):Obj:=.cells [.int .i64 b.now,.int .i64 b.next,.map (some m1),.map (some m2)].toArray 90 (0,0)
structure BookL (b:Book) (fs:List FE) (xs:List BE):Prop where
 fl:(fs.map fun e=>e.2.2).Perm b.fl
 bk:xs.map (fun e=>e.2)=b.L
def BookAt (p:Nat) (b:Book):HP:=exs fun m1:Nat=>exs fun m2:Nat=>exs fun fs:List FE=>exs fun xs:List BE=>
 Star [pur (BookL b fs xs),pts p (bookC b m1 m2),MapAt m1 (fs.map flV),MapAt m2 (xs.map bkV),FlsAt fs,BksAt xs]
theorem Sat.book {p:Nat} {b:Book}:Sat R (BookAt p b::Hs) w↔∃ m1 m2 fs xs,BookL b fs xs∧Sat R (pts p (bookC b m1 m2)::MapAt m1 (fs.map flV)::MapAt m2 (xs.map bkV)::FlsAt fs::BksAt xs::Hs) w:=by
 unfold BookAt
 simp only [Sat.exs]
 constructor
 ·rintro ⟨m1,m2,fs,xs,h⟩
  obtain ⟨h1,h2⟩:=Sat.pur.1 (Sat.star.1 h)
  exact ⟨m1,m2,fs,xs,h1,h2⟩
 ·rintro ⟨m1,m2,fs,xs,h1,h2⟩
  exact ⟨m1,m2,fs,xs,Sat.star.2 (Sat.pur.2 ⟨h1,h2⟩)⟩
abbrev pMap:MapT Tryz.prog 87 Int 3 119 (.agg #[.pointer none,.pointer none]):=⟨Tryz.underlying87,Tryz.underlying3,Tryz.zeroValue119⟩
abbrev bMap:MapT Tryz.prog 88 Int 3 108 (.pointer none):=⟨Tryz.underlying88,Tryz.underlying3,Tryz.zeroValue108⟩
theorem FlsAt.snoc {fs:List FE} {f q:Nat} {p:Pl} (hw:Sat R (LoneAt f p.r::QuAt q p.q::FlsAt fs::Hs) w):Sat R (FlsAt (fs++[(f,q,p)])::Hs) w:=by
 unfold FlsAt at hw ⊢
 rw [Sat.star,List.map_append,List.append_assoc]
 have hw:Sat R (Star (fs.map plAt)::LoneAt f p.r::QuAt q p.q::Hs) w:=hw.arr
 rw [Sat.star] at hw
 have key:∀ (L:List HP) {R:Cx},Sat R (L++LoneAt f p.r::QuAt q p.q::Hs) w→Sat R (L++(List.map plAt [(f,q,p)]++Hs)) w:=fun L=>by
  induction L with
  |nil=>exact fun h=>Sat.star.2 h
  |cons A L ih=>exact fun h=>h.cons fun _ h=>ih h
 exact key _ hw
theorem getM_ne {β:Type} {k:Int}:∀ {l:List (Int × β)},getM k l=none↔∀ e∈l,e.1≠k
 |[]=>⟨fun _ _ h=>(by cases h),fun _=>rfl⟩
 |e::l=>by
  rw [getM]
  by_cases h:k=e.1
  ·rw [if_pos (by simpa using h)]
   exact ⟨fun h2=>(by cases h2),fun h2=>absurd h.symm (h2 e (by simp))⟩
  ·rw [if_neg (by simpa using h),getM_ne]
   exact ⟨fun h2 x hx=>by
    rcases List.mem_cons.1 hx with h1|h1
    ·rw [h1];exact fun e=>h e.symm
    ·exact h2 x h1,fun h2 x hx=>h2 x (by simp [hx])⟩
theorem fl_none {b:Book} {fs:List FE} {xs:List BE} (hl:BookL b fs xs) {n:Int}:getM n (fs.map flV)=none↔b.at n=none:=by
 unfold Book.at
 rw [getM_ne,kget_none]
 constructor
 ·intro h p hp
  obtain ⟨e,he,rfl⟩:=List.mem_map.1 (hl.fl.mem_iff.2 hp)
  exact h (flV e) (List.mem_map.2 ⟨e,he,rfl⟩)
 ·rintro h _ he
  obtain ⟨e,h1,rfl⟩:=List.mem_map.1 he
  exact h e.2.2 (hl.fl.mem_iff.1 (List.mem_map.2 ⟨e,h1,rfl⟩))
theorem fl_len {b:Book} {fs:List FE} {xs:List BE} (hl:BookL b fs xs):fs.length=b.fl.length:=by
 have:=hl.fl.length_eq
 rwa [List.length_map] at this
abbrev errP (e:Int):List PanicEntry:=[⟨.iface 28 (.int .i64 e),false,false⟩]
theorem need_c {b:Bool} {e:Int} {Q:Ending→World→Prop} (h1:b=true→Q (.returned (.tuple #[])) w) (h2:b=false→Q (.panicked (errP e)) w):Calls Tryz.prog 45 #[.bool b,.int .i64 e] w Q:=by
 have h:GetsX Tryz.prog 45 #[.bool b,.int .i64 e] w (fun ch w'=>b=false∧ch=errP e∧w'=w) (fun v w'=>b=true∧v=.tuple #[]∧w'=w):=by
  apply call45
  exact Br.nb (fun h=>⟨h,rfl,rfl⟩) (fun h=>⟨h,rfl,rfl⟩)
 refine h.use ?_ ?_
 ·rintro v w' ⟨hb,rfl,e⟩;rw [e];exact h1 hb
 ·rintro v w' ⟨hb,rfl,e⟩;rw [e];exact h2 hb
theorem mustE_c {e:Int} {Q:Ending→World→Prop} (h1:e=0→Q (.returned (.tuple #[])) w) (h2:¬ e=0→Q (.panicked (errP e)) w):Calls Tryz.prog 75 #[.int .i64 e] w Q:=by
 have h:GetsX Tryz.prog 75 #[.int .i64 e] w (fun ch w'=>¬ e=0∧ch=errP e∧w'=w) (fun v w'=>e=0∧v=.tuple #[]∧w'=w):=by
  apply call75
  exact Br.ne (fun h=>⟨h,rfl,rfl⟩) (fun h=>⟨h,rfl,rfl⟩)
 refine h.use ?_ ?_
 ·rintro v w' ⟨hb,rfl,e⟩;rw [e];exact h1 hb
 ·rintro v w' ⟨hb,rfl,e⟩;rw [e];exact h2 hb
theorem caughtP {r:Nat} {x:Rp} {sl sb:Sl} {e:Int} {Kr:World→Prop} (hw:Sat R (rpC r x sl sb::Hs) w) (k:∀ w,Sat R (rpC r (errR e) nilSl nilSl::Hs) w→Kr w):
  LeaveF Tryz.prog 44 [.pointer (some ⟨r,0,none⟩)] (.panicking (errP e)) Kr w:=by
 unfold LeaveF
 refine CallsD.mono (callP44 (some ⟨r,0,none⟩) (.iface 28 (.int .i64 e)) Kr w ?_) ?_
 ·refine ⟨true,fun w' _=>by kernel_rfl,Br.t rfl ?_⟩
  refine ⟨e,fun w' _=>by kernel_rfl,NilP.mk rfl ?_⟩
  refine store_rule hw (by kernel_rfl) rfl (by simp [Value.cells]) fun w hw=>?_
  exact k w (hw.re (rpC r (errR e) nilSl nilSl))
 ·rintro e v w' ⟨hy,rfl,hk⟩
  exact ⟨hy,rfl,hk⟩
theorem caughtR {r:Nat} {Kr:World→Prop} (k:Kr w):LeaveF Tryz.prog 44 [.pointer (some ⟨r,0,none⟩)] .returning Kr w:=by
 unfold LeaveF
 refine CallsD.mono (callR44 (some ⟨r,0,none⟩) Kr w ?_) ?_
 ·exact ⟨false,fun w' _=>by kernel_rfl,Br.f rfl k⟩
 ·rintro e v w' ⟨hy,rfl,hk⟩
  exact ⟨hy,rfl,hk⟩
theorem qnew_spec (hw:Sat R Hs w):Gets Tryz.prog 76 #[] w fun v w'=>∃ q,v=.pointer (some ⟨q,0,none⟩)∧Sat R (QuAt q []::Hs) w':=by
 apply call76
 refine new_rule hw fun q w hw=>⟨q,rfl,Sat.qu.2 ⟨nilSl,?_⟩⟩
 exact (OwnN.nil hw).swap
theorem bnew_spec (hw:Sat R Hs w):Gets Tryz.prog 24 #[] w fun v w'=>∃ p,v=.pointer (some ⟨p,0,none⟩)∧Sat R (BookAt p newBook::Hs) w':=by
 apply call24
 refine new_rule hw fun m1 w hw=>?_
 have hw:=MapAt.new (α:=Int) rfl hw
 refine new_rule hw fun m2 w hw=>?_
 have hw:=MapAt.new (α:=Int) rfl hw
 refine new_rule hw fun p w hw=>⟨p,rfl,Sat.book.2 ⟨m1,m2,[],[],⟨List.Perm.refl _,rfl⟩,?_⟩⟩
 have hw:Sat R (pts p (bookC newBook m1 m2)::MapAt (α:=Int) m2 []::MapAt (α:=Int) m1 []::Hs) w:=hw
 have hw:Sat R (pts p (bookC newBook m1 m2)::MapAt (α:=Int) m1 []::MapAt (α:=Int) m2 []::Hs) w:=hw.arr
 exact hw.cons fun _ h=>h.cons fun _ h=>h.cons fun _ h=>Sat.star.2 (Sat.star.2 h)
end Go.Proofs.YtflgboncpbmikaaGreatDoor
/- Package booking: a flight is opened. Condition: bounds. -/
namespace Go.Proofs.YtflgboncpbmikaaGreatDoor
set_option linter.unusedVariables false
set_option linter.unusedSimpArgs false
open Go Go.VC
open Classical
variable {R:Cx} {Hs Rest:List HP} {w:World}
abbrev openR (c:Cm):Rp:=⟨0,emS,0,c.flt,0,0,0,rleftsF (rnewF c.flt c.rows c.grps (limitsT (layN c.rows c.grps) c.parts).1),[]⟩
set_option maxHeartbeats 1000000 in
theorem bopen_spec {p:Nat} {b:Book} {c:Cm} {sg sp:Sl} (hfl:b.fl.length≤1000000) (hg:RoI R sg c.grps) (hp:SlR R.m sp (flts c.parts)) (hw:Sat R (BookAt p b::Hs) w):
  GetsX Tryz.prog 47 #[.pointer (some ⟨p,0,none⟩),.agg #[.int .i64 c.kind,.string c.pnr,.int .i64 c.flt,.int .i64 c.cls,.int .i64 c.many,.int .i64 c.time,.float .f64 c.sc,.string c.lab,.int .i64 c.rows,.slice sg.a sg.len sg.cap,.slice sp.a sp.len sp.cap]] w
   (fun ch w'=>∃ e,ch=errP e∧openB b c=(b,errR e)∧Sat R (BookAt p b::Hs) w')
   (fun v w'=>(openB b c).2=openR c∧∃ sl:Sl,v=.agg (rpV (openR c) sl nilSl).toArray∧Sat R (Own sl 3 (intsI (openR c).left)::BookAt p (openB b c).1::Hs) w'):=by
 apply call47
 suffices H:∀ (X:List PanicEntry→World→Prop) (K:Value→World→Prop),(∀ e w',openB b c=(b,errR e)→Sat R (BookAt p b::Hs) w'→X (errP e) w')→
   (∀ sl w',(openB b c).2=openR c→Sat R (Own sl 3 (intsI (openR c).left)::BookAt p (openB b c).1::Hs) w'→K (.agg (rpV (openR c) sl nilSl).toArray) w')→B47 (some ⟨p,0,none⟩) c.kind c.pnr c.flt c.cls c.many c.time c.sc c.lab c.rows sg sp X K w from
  H _ _ (fun e w' h1 h2=>⟨e,rfl,h1,h2⟩) (fun sl w' h1 h2=>⟨h1,sl,rfl,h2⟩)
 intro X K hX hK
 obtain ⟨m1,m2,fs,xs,hl,hw⟩:=Sat.book.1 hw
 have hlen:=fl_len hl
 refine new_rule hw fun b3 w hw=>new_rule hw fun b4 w hw=>?_
 have hw:Sat R (MapAt m1 (fs.map flV)::pts p (bookC b m1 m2)::cmC b3 c sg sp::rpNew b4::MapAt m2 (xs.map bkV)::FlsAt fs::BksAt xs::Hs) w:=by
  have hw:Sat R (rpNew b4::cmC b3 c sg sp::pts p (bookC b m1 m2)::MapAt m1 (fs.map flV)::MapAt m2 (xs.map bkV)::FlsAt fs::BksAt xs::Hs) w:=hw
  exact hw.arr
 have close:∀ {w},Sat R (MapAt m1 (fs.map flV)::pts p (bookC b m1 m2)::cmC b3 c sg sp::rpNew b4::MapAt m2 (xs.map bkV)::FlsAt fs::BksAt xs::Hs) w→Sat R (BookAt p b::Hs) w:=fun {w} hw=>by
  have hw:Sat R (cmC b3 c sg sp::rpNew b4::pts p (bookC b m1 m2)::MapAt m1 (fs.map flV)::MapAt m2 (xs.map bkV)::FlsAt fs::BksAt xs::Hs) w:=hw.arr
  exact Sat.book.2 ⟨m1,m2,fs,xs,hl,hw.drop.drop⟩
 refine drw_ruleT hw fun w hw=>?_
 refine NilP.mk rfl ⟨some m1,At.own (fun _ h=>h) (by exact ⟨rfl,trivial⟩),c.flt,At.own (fun _ h=>h) (by exact ⟨rfl,trivial⟩),?_⟩
 have look:∀ w',Sat R (VC.tru::MapAt m1 (fs.map flV)::pts p (bookC b m1 m2)::cmC b3 c sg sp::rpNew b4::MapAt m2 (xs.map bkV)::FlsAt fs::BksAt xs::Hs) w'→
   (Instr.lookup 87 (.map (some m1)) (.int .i64 c.flt) true).run Tryz.prog w'=.ok (.tuple #[(getM c.flt (fs.map flV)).getD (.agg #[.pointer none,.pointer none]),.bool (getM c.flt (fs.map flV)).isSome]) w':=fun w' h=>
  MapAt.look pMap h.swap c.flt true
 obtain ⟨v1,v2,hv⟩:∃ v1 v2:Option Addr,(getM c.flt (fs.map flV)).getD (.agg #[.pointer none,.pointer none])=.agg #[.pointer v1,.pointer v2]:=by
  cases hgm:getM c.flt (fs.map flV) with
  |none=>exact ⟨none,none,rfl⟩
  |some v=>
   obtain ⟨A,C,e,_⟩:=getM_split hgm
   have:(c.flt,v)∈fs.map flV:=by rw [e];simp
   obtain ⟨x,_,hx⟩:=List.mem_map.1 this
   have hx2:=congrArg Prod.snd hx
   exact ⟨_,_,hx2.symm⟩
 rw [hv] at look
 refine ⟨v1,v2,_,look,?_⟩
 refine new_rule hw fun b5 w hw=>⟨hw.absorb,?_⟩
 refine store_rule hw (by kernel_rfl) rfl (by simp [Value.cells]) fun w hw=>?_
 have hw:=hw.drop.drop
 have hat:=fl_none hl (n:=c.flt)
 refine need_c (fun hn=>.inl ⟨rfl,?_⟩) (fun hn=>.inr ⟨_,rfl,hX 7 w ?_ (close hw)⟩)
 rotate_left
 ·unfold openB
  rw [if_pos]
  cases hba:b.at c.flt with
  |none=>rw [hat.2 hba] at hn;cases hn
  |some _=>rfl
 have hno:getM c.flt (fs.map flV)=none:=by
  cases hgm:getM c.flt (fs.map flV) with
  |none=>rfl
  |some v=>rw [hgm] at hn;cases hn
 have hba:=hat.1 hno
 have o1:¬ (b.at c.flt).isSome=true:=by rw [hba];simp
 refine NilP.mk rfl ⟨some m1,At.own (eqS hw) (by exact ⟨rfl,trivial⟩),((fs.map flV).length:Int),fun w' e=>?_,?_⟩
 ·rw [show w'=w from e]
  exact MapAt.len (by kernel_rfl) hw
 rw [List.length_map,hlen]
 refine need_c (fun hn8=>.inl ⟨rfl,?_⟩) (fun hn8=>.inr ⟨_,rfl,hX 3 w ?_ (close hw)⟩)
 rotate_left
 ·have:=of_decide_eq_false hn8
  unfold openB
  rw [if_neg o1,if_pos (by omega)]
 have h8:=of_decide_eq_true hn8
 have o2:¬ 8≤b.fl.length:=by omega
 refine ⟨c.flt,At.own (eqS hw) (by exact ⟨rfl,trivial⟩),c.rows,sg,At.own (eqS hw) (by exact ⟨rfl,rfl,trivial⟩),sp,At.own (eqS hw) (by exact ⟨rfl,trivial⟩),?_⟩
 refine (fnew_spec' hg hp hw).use ?_
 clear hw
 rintro _ w (⟨hn,rfl,hw⟩|⟨hn,f,rfl,hw⟩)
 ·refine .inl ⟨none,1,rfl,mustE_c (fun h=>by cases h) (fun _=>.inr ⟨_,rfl,hX 1 w ?_ (close hw)⟩)⟩
  unfold openB
  rw [if_neg o1,if_neg o2,if_pos hn]
 have hopen:openB b c=({ b with fl:=kins Pl.n ⟨rnewF c.flt c.rows c.grps (limitsT (layN c.rows c.grps) c.parts).1,[]⟩ b.fl },openR c):=by
  unfold openB
  rw [if_neg o1,if_neg o2,if_neg (fun h=>h hn)]
 obtain ⟨r,hr⟩:∃ r,r=rnewF c.flt c.rows c.grps (limitsT (layN c.rows c.grps) c.parts).1:=⟨_,rfl⟩
 have hw:Sat R (LoneAt f r::MapAt m1 (fs.map flV)::pts p (bookC b m1 m2)::cmC b3 c sg sp::rpNew b4::MapAt m2 (xs.map bkV)::FlsAt fs::BksAt xs::Hs) w:=by
  rw [hr]
  exact Sat.lone.2 ⟨_,⟨tie_new,good_new hn⟩,hw⟩
 rw [←hr] at hopen
 refine .inl ⟨some ⟨f,0,none⟩,0,rfl,mustE_c (fun _=>.inl ⟨rfl,?_⟩) (fun h=>absurd rfl h)⟩
 refine drw_rule' (Sat R [cmC b3 c sg sp,pts p (bookC b m1 m2),VC.tru]) hw (fun w hw=>?_) fun w hw=>?_
 ·exact (hw.arr (Hs':=cmC b3 c sg sp::pts p (bookC b m1 m2)::LoneAt f r::MapAt m1 (fs.map flV)::rpNew b4::MapAt m2 (xs.map bkV)::FlsAt fs::BksAt xs::Hs)).cons fun _ h=>h.restTru2
 refine NilP.mk rfl ⟨some m1,At.own (fun _ h=>h) (by exact ⟨rfl,trivial⟩),c.flt,At.own (fun _ h=>h) (by exact ⟨rfl,trivial⟩),?_⟩
 refine (qnew_spec hw).use ?_
 clear hw
 rintro _ w ⟨q,rfl,hw⟩
 refine .inl ⟨_,rfl,?_,?_⟩
 ·exact (hw.arr (Hs':=cmC b3 c sg sp::pts p (bookC b m1 m2)::QuAt q []::LoneAt f r::MapAt m1 (fs.map flV)::rpNew b4::MapAt m2 (xs.map bkV)::FlsAt fs::BksAt xs::Hs)).cons fun _ h=>h.restTru2
 have hw:Sat R (MapAt m1 (fs.map flV)::LoneAt f r::QuAt q []::FlsAt fs::pts p (bookC b m1 m2)::cmC b3 c sg sp::rpNew b4::MapAt m2 (xs.map bkV)::BksAt xs::Hs) w:=hw.arr
 refine MapAt.put pMap hw c.flt (.agg #[.pointer (some ⟨f,0,none⟩),.pointer (some ⟨q,0,none⟩)]) fun w hw=>?_
 have hput:putM c.flt (.agg #[.pointer (some ⟨f,0,none⟩),.pointer (some ⟨q,0,none⟩)]) (fs.map flV)=(fs++[((f,q,⟨r,[]⟩):FE)]).map flV:=by
  unfold putM
  rw [hno]
  have:r.num=c.flt:=by rw [hr];rfl
  simp only [Option.isSome_none,Bool.false_eq_true,if_false,List.map_append,List.map_cons,List.map_nil,flV,Pl.n,this]
 rw [hput] at hw
 refine drw_rule' (Sat R [cmC b3 c sg sp,VC.tru]) hw (fun w hw=>?_) fun w hw=>?_
 ·exact (hw.arr (Hs':=cmC b3 c sg sp::MapAt m1 ((fs++[((f,q,⟨r,[]⟩):FE)]).map flV)::LoneAt f r::QuAt q []::FlsAt fs::pts p (bookC b m1 m2)::rpNew b4::MapAt m2 (xs.map bkV)::BksAt xs::Hs)).restTru2
 refine ⟨c.flt,At.own (fun _ h=>h) (by exact ⟨rfl,trivial⟩),?_⟩
 have hw:Sat R (LoneAt f r::MapAt m1 ((fs++[((f,q,⟨r,[]⟩):FE)]).map flV)::QuAt q []::FlsAt fs::pts p (bookC b m1 m2)::cmC b3 c sg sp::rpNew b4::MapAt m2 (xs.map bkV)::BksAt xs::Hs) w:=hw.swap
 refine (lone_left hw).use ?_
 clear hw
 rintro _ w ⟨sl,rfl,hw⟩
 refine .inl ⟨sl,rfl,?_,?_⟩
 ·exact (hw.arr (Hs':=cmC b3 c sg sp::Own sl 3 (intsI (rleftsF r))::LoneAt f r::MapAt m1 ((fs++[((f,q,⟨r,[]⟩):FE)]).map flV)::QuAt q []::FlsAt fs::pts p (bookC b m1 m2)::rpNew b4::MapAt m2 (xs.map bkV)::BksAt xs::Hs)).restTru2
 refine store_rule hw (by kernel_rfl) rfl (by simp [Value.cells]) fun w hw=>?_
 have hw:=hw.re (rpC b4 (openR c) sl nilSl)
 refine ⟨0,emS,0,c.flt,0,0,0,sl,nilSl,At.own (eqS hw) (by exact ⟨rfl,rfl,rfl,rfl,rfl,rfl,rfl,rfl,rfl,trivial⟩),?_⟩
 have hw:Sat R (Own sl 3 (intsI (rleftsF r))::pts p (bookC b m1 m2)::MapAt m1 ((fs++[((f,q,⟨r,[]⟩):FE)]).map flV)::MapAt m2 (xs.map bkV)::LoneAt f r::QuAt q []::FlsAt fs::BksAt xs::rpC b4 (openR c) sl nilSl::cmC b3 c sg sp::Hs) w:=hw.arr
 refine hK sl w (by rw [hopen]) ?_
 rw [hopen]
 dsimp only
 rw [←hr]
 refine hw.cons fun _ hw=>Sat.book.2 ⟨m1,m2,fs++[((f,q,⟨r,[]⟩):FE)],xs,⟨?_,hl.bk⟩,?_⟩
 ·rw [List.map_append]
  refine (List.perm_append_singleton _ _).trans (List.Perm.trans (hl.fl.cons _) kins_perm.symm)
 ·refine hw.cons fun _ h=>h.cons fun _ h=>h.cons fun _ h=>?_
  exact (FlsAt.snoc h).cons fun _ h=>h.cons fun _ h=>h.drop.drop
end Go.Proofs.YtflgboncpbmikaaGreatDoor

/- Chapter 18: BookingCodes. Condition: bounds on lengths. -/
namespace Go.Proofs.YtflgboncpbmikaaGreatDoor
set_option linter.unusedVariables false
set_option linter.unusedSimpArgs false
open Go Go.VC
open Classical
variable {R:Cx} {Hs Rest:List HP} {w:World}
theorem cmDec_ok {bs:List Int} (hb:Bytes bs):FltC (cmDec bs).1∧(cmDec bs).1.grps.length≤16∧(cmDec bs).1.parts.length≤16:=by
 unfold cmDec
 split
 ·rename_i h
  refine ⟨?_,h.2.gl,h.2.pl⟩
  have b1:=rdNum_bd (most:=9) (rd:=⟨bs,false⟩) hb
  have b2:=strRd_bd (most:=16) b1
  have b3:=hd2_bd b2
  have b4:=fltRd_bd b3
  have b5:=strRd_bd (most:=16) b4
  have b6:=rdNum_bd (most:=9999) b5
  have b7:=rdNum_bd (most:=16) b6
  have b8:=(rdEach_inv (one:=rdNum 9999) (P:=fun r=>Bytes r.bs) (Q:=fun _=>True) (fun r hr=>⟨trivial,rdNum_bd hr⟩) (rdNum 16 (rdNum 9999 (strRd 16 (fltRd (hd2 (strRd 16 (rdNum 9 ⟨bs,false⟩).2).2).2).2).2).2).1.toNat b7).2
  have b9:=rdNum_bd (most:=16) b8
  rw [cmRd_hd]
  exact ⟨fltRd_lt b3,(rdEach_inv (one:=fltRd) (P:=fun r=>Bytes r.bs) (Q:=fun x=>x<18446744073709551616) (fun r hr=>⟨fltRd_lt hr,fltRd_bd hr⟩) _ b9).1⟩
 ·exact ⟨⟨by show 0<18446744073709551616;omega,fun x hx=>by cases hx⟩,by show 0≤16;omega,by show 0≤16;omega⟩
end Go.Proofs.YtflgboncpbmikaaGreatDoor

/- ROW: from a reading of an argument to what the contracts ask; from a walk's end to 'Below'. No condition. -/
namespace Go.VC
set_option linter.unusedVariables false
set_option linter.unusedSimpArgs false
open Go.ChangeShapes Go.WideShapes Go.ChangeAt Go.RowKit
theorem below_of {W W':World} {Hs:List HP} (h:Sat (Cx.of W) Hs W'):Below W.heap.size W W':=by
 obtain ⟨h1,h2,h3⟩:=h.streams
 have hb:∀ k,k<W.heap.size→W'.heap[k]? =W.heap[k]?:=fun k hk=>by
  have:(Cx.of W).m k=some W.heap[k]:=by simp [Cx.of,hk]
  rw [h.of_ro this];simp [hk]
 refine ⟨h1,h2,h3,?_,hb⟩
 rcases Nat.lt_or_ge W'.heap.size W.heap.size with hl|hl
 ·have:=hb W'.heap.size hl
  rw [Array.getElem?_eq_none (Nat.le_refl _)] at this
  simp [hl] at this
 ·exact hl
theorem block_of_cell {w:World} {a:Addr} {v:Value} (h:w.cell? a=some v):a.spot=none∧∃ l T fr,w.heap[a.block]? =some (.cells l T fr)∧l[a.off]? =some v:=by
 unfold World.cell? at h
 split at h
 ·rename_i c T fr hb
  split at h
  ·cases h
  ·rename_i hs
   exact ⟨by simpa using hs,c,T,fr,hb,h⟩
 ·cases h
section
variable {H:Type} {enc:TypeId × Value→H} {P:Program} {W:World} {base:Nat} {spare:Nat→Bool} {held:Bool}
end
end Go.VC

/- ROW, part 3: arguments of any plain type (integers, bools, floats, strings, slices, structs, arrays of such), read as trees. No condition. -/
namespace Go.VC
set_option linter.unusedVariables false
set_option linter.unusedSimpArgs false
open Go.ChangeShapes Go.WideShapes Go.ChangeAt Go.RowKit
inductive Tr where
 |int (k:IntKind) (n:Int)|bool (b:Bool)|flt (n:Nat)|str (s:ByteArray)|sl (s:Sl) (xs:List Tr)|st (xs:List Tr)
mutual
def Tr.cells:Tr→List Value
 | .int k n=>[.int k n]
 | .bool b=>[.bool b]
 | .flt n=>[.float .f64 n]
 | .str s=>[.string s]
 | .sl s _=>[.slice s.a s.len s.cap]
 | .st xs=>Tr.cellsL xs
def Tr.cellsL:List Tr→List Value
 |[]=>[]
 |x::xs=>x.cells++Tr.cellsL xs
end
inductive U where
 |int (k:IntKind)|bool|flt|str|sl (u:U)|st (us:List U)
mutual
def U.size:U→Nat
 | .st us=>U.sizeL us
 |_=>1
def U.sizeL:List U→Nat
 |[]=>0
 |u::us=>u.size + U.sizeL us
end
mutual
def Tr.Ok (R:Cx):U→Tr→Prop
 | .int k,.int k' n=>k'=k∧(Lit.int k n).wf=true
 | .bool,.bool _=>True
 | .flt,.flt n=>(Lit.float .f64 n).wf=true
 | .str,.str s=>s.size≤maxLen
 | .sl u,.sl s xs=>(RoN u.size R s (xs.map Tr.cells)∧s.len≤s.cap)∧xs.length≤maxLen∧Tr.OkA R u xs
 | .st us,.st xs=>Tr.OkL R us xs
 |_,_=>False
def Tr.OkA (R:Cx) (u:U):List Tr→Prop
 |[]=>True
 |x::xs=>Tr.Ok R u x∧Tr.OkA R u xs
def Tr.OkL (R:Cx):List U→List Tr→Prop
 |[],[]=>True
 |u::us,x::xs=>Tr.Ok R u x∧Tr.OkL R us xs
 |_,_=>False
end
theorem Tr.okA {R:Cx} {u:U}:∀ {xs:List Tr},Tr.OkA R u xs→∀ x∈xs,Tr.Ok R u x
 |[],_,x,hx=>by cases hx
 |y::ys,h,x,hx=>by
  unfold Tr.OkA at h
  rcases List.mem_cons.1 hx with rfl|hx
  ·exact h.1
  ·exact Tr.okA h.2 x hx
theorem Tr.okA_mk {R:Cx} {u:U}:∀ {xs:List Tr},(∀ x∈xs,Tr.Ok R u x)→Tr.OkA R u xs
 |[],_=>by unfold Tr.OkA;trivial
 |y::ys,h=>by
  unfold Tr.OkA
  exact ⟨h y List.mem_cons_self,Tr.okA_mk fun x hx=>h x (List.mem_cons_of_mem _ hx)⟩
def fieldsU (P:Program) (f:TypeId→Option U):Nat→List Field→Option (List U)
 |_,[]=>some []
 |off,x::xs=>match Nat.beq x.offset off with
  |false=>none
  |true=>match f x.type with
   |none=>none
   |some u=>match Nat.beq (P.cellsOf x.type) u.size with
    |false=>none
    |true=>match fieldsU P f (off + u.size) xs with
     |none=>none
     |some us=>some (u::us)
def uOf (P:Program):Nat→TypeId→Option U
 |0,_=>none
 |d + 1,t=>match P.underlying t with
  |some (.int k)=>some (.int k)
  |some .bool=>some .bool
  |some (.float .f64)=>some .flt
  |some .string=>some .str
  |some (.slice e)=>match uOf P d e with
   |some u=>(match Nat.beq (P.cellsOf e) u.size && Nat.blt 0 u.size with|true=>some (.sl u)|false=>none)
   |none=>none
  |some (.struct fs)=>match fieldsU P (uOf P d) 0 fs.toList with
   |some us=>(match Nat.beq (P.cellsOf t) (U.sizeL us) with|true=>some (.st us)|false=>none)
   |none=>none
  |some (.array n e)=>match uOf P d e with
   |some u=>(match Nat.beq (P.cellsOf e) u.size && Nat.beq (P.cellsOf t) (n * u.size) with|true=>some (.st (List.replicate n u))|false=>none)
   |none=>none
  |_=>none
section
variable {H:Type} {enc:TypeId × Value→H} {P:Program} {W:World} {base:Nat} {spare:Nat→Bool} {held:Bool}
def IsTr (R:Cx) (u:U) (cs:List Value):Prop:=∃ x:Tr,x.cells=cs∧x.Ok R u
theorem cells?_cell {w:World} {base:Nat} {a:Addr} {n:Nat} {cs:List Value} (h:w.cells? base a n=some cs):cs.length=n∧∀ i,i<n→w.cell? (a.add i)=cs[i]?:=by
 unfold World.cells? at h
 split at h
 ·refine ⟨by have:=mapM_some_length h;simpa using this,fun i hi=>mapM_some_get h i i (by simp [hi])⟩
 ·cases h
theorem add_add (a:Addr) (i j:Nat) (hs:a.spot=none):(a.add i).add j=⟨a.block,a.off + (i + j),none⟩:=by
 obtain ⟨b,o,s⟩:=a
 simp only at hs
 subst hs
 rw [add_off,add_off,Nat.add_assoc]
theorem fields_read {d:Nat} (ih:∀ {fuel:Nat} {t:TypeId} {cs:List Value} {y:DataW H × List MemPlace} {u:U},uOf P d t=some u→DataW.trod enc P W base spare held fuel t cs=some y→IsTr (Cx.of W) u cs) {n:Nat} {cs:List Value} {xs:List (DataW H × List MemPlace)}:
  ∀ (fs:List Field) (off:Nat) (us:List U),fieldsU P (uOf P d) off fs=some us→(∀ (i:Nat) (f:Field),fs[i]? =some f→∃ y,DataW.trod enc P W base spare held n f.type ((cs.drop f.offset).take (P.cellsOf f.type))=some y)→
   off + U.sizeL us≤cs.length→∃ ts:List Tr,Tr.cellsL ts=(cs.drop off).take (U.sizeL us)∧Tr.OkL (Cx.of W) us ts
 |[],off,us,h,_,_=>by
  simp only [fieldsU,Option.some.injEq] at h
  subst h
  exact ⟨[],by simp [Tr.cellsL,U.sizeL],by unfold Tr.OkL;trivial⟩
 |f::fs,off,us,h,hf,hl=>by
  unfold fieldsU at h
  split at h
  ·cases h
  rename_i hoff
  have hoff:=Nat.eq_of_beq_eq_true hoff
  split at h
  ·cases h
  rename_i u hu
  split at h
  ·cases h
  rename_i hc
  have hc:=Nat.eq_of_beq_eq_true hc
  split at h
  ·cases h
  rename_i us' hus
  cases h
  simp only [U.sizeL] at hl ⊢
  obtain ⟨y,hy⟩:=hf 0 f rfl
  obtain ⟨x,hx,hxo⟩:=ih hu hy
  obtain ⟨ts,hts,htso⟩:=fields_read ih (n:=n) (xs:=xs) fs (off + u.size) us' hus (fun i g hg=>hf (i + 1) g (by simpa using hg)) (by omega)
  refine ⟨x::ts,?_,by unfold Tr.OkL;exact ⟨hxo,htso⟩⟩
  simp only [Tr.cellsL]
  rw [hx,hts,hoff,hc,List.take_add,List.drop_drop]
theorem reps_read {u:U} {n s:Nat}:∀ {m:Nat} {cs:List Value},cs.length=m * s→u.size=s→(∀ i,i<m→IsTr (Cx.of W) u ((cs.drop (i * s)).take s))→∃ ts:List Tr,Tr.cellsL ts=cs∧Tr.OkL (Cx.of W) (List.replicate m u) ts
 |0,cs,hl,_,_=>by
  have:cs=[]:=List.length_eq_zero_iff.1 (by simpa using hl)
  subst this
  exact ⟨[],rfl,by unfold Tr.OkL;trivial⟩
 |m + 1,cs,hl,hs,h=>by
  obtain ⟨x,hx,hxo⟩:=h 0 (by omega)
  obtain ⟨ts,hts,htso⟩:=reps_read (n:=n) (m:=m) (cs:=cs.drop s) (by rw [List.length_drop,hl,Nat.add_mul];omega) hs (fun i hi=>by
   have:=h (i + 1) (by omega)
   rw [Nat.add_mul,Nat.one_mul,Nat.add_comm,←List.drop_drop] at this
   exact this)
  refine ⟨x::ts,?_,by rw [List.replicate_succ];unfold Tr.OkL;exact ⟨hxo,htso⟩⟩
  simp only [Tr.cellsL]
  rw [hx,hts]
  simp
theorem choose_list {α β:Type} {p:Nat→α→Prop}:∀ {n:Nat},(∀ i,i<n→∃ x:α,p i x)→∃ xs:List α,xs.length=n∧∀ i (hi:i<xs.length),p i xs[i]
 |0,_=>⟨[],rfl,fun i hi=>by simp at hi⟩
 |n + 1,h=>by
  obtain ⟨xs,hl,hp⟩:=choose_list (β:=β) (n:=n) fun i hi=>h i (by omega)
  obtain ⟨x,hx⟩:=h n (by omega)
  refine ⟨xs++[x],by simp [hl],fun i hi=>?_⟩
  by_cases h2:i<xs.length
  ·rw [List.getElem_append_left h2];exact hp i h2
  ·have:i=n:=by simp at hi;omega
   subst this
   rw [List.getElem_append_right (by omega)]
   simpa using hx
theorem trod_f64 {fuel:Nat} {t:TypeId} {cs:List Value} {x:DataW H × List MemPlace} (ht:P.underlying t=some (.float .f64)) (h:DataW.trod enc P W base spare held fuel t cs=some x):∃ n,cs=[.float .f64 n]∧(Lit.float .f64 n).wf=true:=by
 cases fuel with
 |zero=>simp [DataW.trod] at h
 |succ n=>
  unfold DataW.trod at h
  rw [ht] at h
  split at h<;>simp_all
theorem tr_read:∀ {d fuel:Nat} {t:TypeId} {cs:List Value} {y:DataW H × List MemPlace} {u:U},uOf P d t=some u→DataW.trod enc P W base spare held fuel t cs=some y→IsTr (Cx.of W) u cs
 |0,_,_,_,_,_,h,_=>by cases h
 |d + 1,fuel,t,cs,y,u,h,hy=>by
  unfold uOf at h
  split at h
  ·rename_i k ht
   cases h
   obtain ⟨n,rfl,_,hw⟩:=DataW.trod_int ht hy
   exact ⟨.int k n,rfl,rfl,hw⟩
  ·rename_i ht
   cases h
   obtain ⟨b,rfl,_⟩:=DataW.trod_bool ht hy
   exact ⟨.bool b,rfl,by unfold Tr.Ok;trivial⟩
  ·rename_i ht
   cases h
   obtain ⟨n,rfl,hn⟩:=trod_f64 ht hy
   exact ⟨.flt n,rfl,by unfold Tr.Ok;exact hn⟩
  ·rename_i ht
   cases h
   obtain ⟨s,rfl,_,hs⟩:=DataW.trod_string ht hy
   exact ⟨.str s,rfl,hs⟩
  ·rename_i e ht
   split at h
   case h_2=>cases h
   rename_i ue hue
   split at h
   case h_2=>cases h
   rename_i hc
   simp only [Bool.and_eq_true] at hc
   have hpos:0<ue.size:=Nat.blt_eq.mp hc.2
   have hc:=Nat.eq_of_beq_eq_true hc.1
   cases h
   rcases DataW.trod_slice ht hy with ⟨rfl,_⟩|⟨a,len,cap,elems,rest,n,_,rfl,_,_,hlc,hcm,hel,helem,_,_⟩
   ·refine ⟨.sl ⟨none,0,0⟩ [],rfl,?_⟩
    unfold Tr.Ok
    exact ⟨⟨⟨Wid.nil,rfl,fun h=>absurd rfl h⟩,Nat.le_refl _⟩,Nat.zero_le _,by unfold Tr.OkA;trivial⟩
   ·obtain ⟨xs,hxl,hxs⟩:=choose_list (β:=Unit) (p:=fun i (x:Tr)=>W.cells? base (a.add (i * P.cellsOf e)) (P.cellsOf e)=some x.cells∧x.Ok (Cx.of W) ue) (n:=len) fun i hi=>by
     have h1:=helem i hi
     rw [List.getElem?_eq_getElem (by omega)] at h1
     obtain ⟨ce,hce,hte⟩:=Option.bind_eq_some_iff.1 h1
     obtain ⟨x,rfl,hx⟩:=tr_read hue hte
     exact ⟨x,hce,hx⟩
    refine ⟨.sl ⟨some a,len,cap⟩ xs,rfl,?_⟩
    unfold Tr.Ok
    have hwid:Wid ue.size (xs.map Tr.cells):=fun r hr=>by
     obtain ⟨x,hx,rfl⟩:=List.mem_map.1 hr
     obtain ⟨i,hi,rfl⟩:=List.getElem_of_mem hx
     have:=(cells?_cell (hxs i hi).1).1
     rw [this,hc]
    refine ⟨⟨⟨hwid,by simp [hxl],fun hne=>?_⟩,hlc⟩,by omega,Tr.okA_mk fun x hx=>by obtain ⟨i,hi,rfl⟩:=List.getElem_of_mem hx;exact (hxs i hi).2⟩
    -- the block
    have h0:0<xs.length:=by
     have:0<(xs.map Tr.cells).length:=List.length_pos_iff.2 hne
     simpa using this
    have hcell:∀ i (hi:i<xs.length) j,j<ue.size→W.cell? ((a.add (i * ue.size)).add j)=(xs[i].cells)[j]?:=fun i hi j hj=>by
     have:=(cells?_cell (hxs i hi).1).2 j (by rw [hc];exact hj)
     rw [hc] at this;exact this
    have hxl0:∀ i (hi:i<xs.length),(xs[i].cells).length=ue.size:=fun i hi=>by rw [(cells?_cell (hxs i hi).1).1,hc]
    have hc0:=hcell 0 h0 0 (by omega)
    rw [List.getElem?_eq_getElem (by rw [hxl0 0 h0];omega)] at hc0
    have hz0:(a.add (0 * ue.size)).add 0=a:=by rw [Nat.zero_mul];simp [Addr.add]
    rw [hz0] at hc0
    obtain ⟨hs,l,T,fr,hl,_⟩:=block_of_cell hc0
    refine ⟨a.block,a.off,l,T,fr,by cases a;simp_all,hl,fun i v hv=>?_⟩
    -- which row, which place
    have hlen:=hwid.len
    rw [List.length_map] at hlen
    have hi:i<(xs.map Tr.cells).flatten.length:=(List.getElem?_eq_some_iff.1 hv).1
    have hq:i / ue.size<xs.length:=by
     rw [hlen] at hi;exact Nat.div_lt_of_lt_mul (by rwa [Nat.mul_comm])
    have hm:i % ue.size<ue.size:=Nat.mod_lt _ (by omega)
    have hcc:=hcell (i / ue.size) hq (i % ue.size) hm
    rw [add_add a _ _ hs,show i / ue.size * ue.size + i % ue.size=i by rw [Nat.mul_comm];exact Nat.div_add_mod _ _] at hcc
    have e1:(xs.map Tr.cells).flatten[i]? =(xs[i / ue.size].cells)[i % ue.size]?:=by
     have h1:i=i / ue.size * ue.size + i % ue.size:=by rw [Nat.mul_comm];exact (Nat.div_add_mod _ _).symm
     conv=>lhs;rw [h1]
     rw [←List.getElem?_drop,hwid.drop_flat,List.drop_eq_getElem_cons (by simpa using hq),List.flatten_cons,List.getElem?_append_left (by rw [List.getElem_map,hxl0 _ hq];exact hm),List.getElem_map]
    rw [←e1,hv] at hcc
    simp only [World.cell?,hl,Option.isSome_none,Bool.false_eq_true,if_false] at hcc
    exact hcc
  ·rename_i fs ht
   split at h
   case h_2=>cases h
   rename_i us hus
   split at h
   case h_2=>cases h
   rename_i hc
   have hc:=Nat.eq_of_beq_eq_true hc
   cases h
   obtain ⟨xs,n,_,_,hl,hxl,hf⟩:=DataW.trod_struct ht hy
   obtain ⟨ts,hts,hto⟩:=fields_read (d:=d) (fun h h2=>tr_read h h2) (n:=n) (cs:=cs) (xs:=xs) fs.toList 0 us hus (fun i f hfi=>by
    have hfi2:fs[i]? =some f:=by simpa using hfi
    have hlt:i<xs.length:=by rw [hxl];exact (Array.getElem?_eq_some_iff.1 hfi2).1
    exact ⟨xs[i],by rw [hf i f hfi2];exact List.getElem?_eq_getElem hlt⟩) (by omega)
   refine ⟨.st ts,?_,by unfold Tr.Ok;exact hto⟩
   unfold Tr.cells
   rw [hts,List.drop_zero,List.take_of_length_le (by omega)]
  ·rename_i m e ht
   split at h
   case h_2=>cases h
   rename_i ue hue
   split at h
   case h_2=>cases h
   rename_i hc
   simp only [Bool.and_eq_true] at hc
   have hc1:=Nat.eq_of_beq_eq_true hc.1
   have hc2:=Nat.eq_of_beq_eq_true hc.2
   cases h
   obtain ⟨xs,n,_,_,hl,hxl,hf⟩:=DataW.trod_array ht hy
   obtain ⟨ts,hts,hto⟩:=reps_read (n:=n) (u:=ue) (s:=ue.size) (m:=m) (cs:=cs) (by rw [hl,hc2]) rfl (fun i hi=>by
    have:=hf i hi
    rw [hc1,List.getElem?_eq_getElem (by omega)] at this
    exact tr_read hue this)
   exact ⟨.st ts,by unfold Tr.cells;exact hts,by unfold Tr.Ok;exact hto⟩
  ·cases h
theorem tr_arg {d:Nat} {t:TypeId} {v:Value} {dt:DataW H} {p:List MemPlace} {u:U} (hu:uOf P d t=some u) (h:DataW.Trod enc P W base spare held t v dt p):IsTr (Cx.of W) u v.cells.toList:=by
 obtain ⟨fuel,hf⟩:=h
 exact tr_read hu hf
theorem sl_form {α:Type} {R:Cx} {u:U} {s:Sl} {xs:List Tr} (g:α→List Value) (Q:α→Prop) (ho:Tr.Ok R (.sl u) (.sl s xs)) (h:∀ x:Tr,x.Ok R u→∃ e:α,x.cells=g e∧Q e):
  ∃ es:List α,RoN u.size R s (es.map g)∧es.length≤maxLen∧∀ e∈es,Q e:=by
 unfold Tr.Ok at ho
 obtain ⟨⟨h1,_⟩,h2,h3⟩:=ho
 have key:∀ l:List Tr,(∀ x∈l,x.Ok R u)→∃ es:List α,l.map Tr.cells=es.map g∧es.length=l.length∧∀ e∈es,Q e:=fun l=>by
  induction l with
  |nil=>exact fun _=>⟨[],rfl,rfl,fun _ h=>by cases h⟩
  |cons x l ih=>
   intro hl
   obtain ⟨es,h1,h2,h3⟩:=ih fun y hy=>hl y (List.mem_cons_of_mem _ hy)
   obtain ⟨e,he,hq⟩:=h x (hl x List.mem_cons_self)
   exact ⟨e::es,by rw [List.map_cons,List.map_cons,he,h1],by simp [h2],fun y hy=>by
    rcases List.mem_cons.1 hy with rfl|hy
    ·exact hq
    ·exact h3 y hy⟩
 obtain ⟨es,e1,e2,e3⟩:=key xs (Tr.okA h3)
 rw [e1] at h1
 exact ⟨es,h1,by omega,e3⟩
theorem sl_cap {R:Cx} {u:U} {s:Sl} {xs:List Tr} (ho:Tr.Ok R (.sl u) (.sl s xs)):s.len≤s.cap:=by
 unfold Tr.Ok at ho
 exact ho.1.2
theorem RoN.one {R:Cx} {s:Sl} {vs:List Value} (h:RoN 1 R s (vs.map fun v=>[v])) (hb:vs.length≤maxLen):Ro R s vs:=by
 refine ⟨by have:=h.len;simpa using this,by unfold maxLen at hb;omega,fun hne=>?_⟩
 obtain ⟨b,off,l,T,fr,h1,h2,h3⟩:=h.mem (by simpa using hne)
 refine ⟨b,off,l,T,fr,h1,h2,fun i v hv=>h3 i v ?_⟩
 have:(vs.map fun v=>[v]).flatten=vs:=by
  clear h3 h hb hne hv
  induction vs with
  |nil=>rfl
  |cons v vs ih=>simp [ih]
 rw [this];exact hv
theorem ints_form {R:Cx} {k:IntKind} {s:Sl} {xs:List Tr} (ho:Tr.Ok R (.sl (.int k)) (.sl s xs)):∃ zs:List Int,Ro R s (zs.map (Value.int k))∧zs.length≤maxLen∧∀ z∈zs,(Lit.int k z).wf=true:=by
 obtain ⟨zs,h1,h2,h3⟩:=sl_form (fun z:Int=>[Value.int k z]) (fun z=>(Lit.int k z).wf=true) ho fun x hx=>by
  cases x<;>simp only [Tr.Ok] at hx
  rename_i k' z
  obtain ⟨rfl,hw⟩:=hx
  exact ⟨z,rfl,hw⟩
 refine ⟨zs,RoN.one ?_ (by simpa using h2),h2,h3⟩
 rw [List.map_map]
 exact h1
end
end Go.VC

/- SL, part 18: a range over a map of one's own, in whatever order. No condition. -/
namespace Go.VC
set_option linter.unusedVariables false
set_option linter.unusedSimpArgs false
theorem filter_push {α:Type} {l:List (En α)} {seen:Array Nat} {a b:List (En α)} {x:En α} (hn:(l.map (·.2.2)).Nodup) (h:l.filter (fun e=>!seen.contains e.2.2)=a++x::b):l.filter (fun e=>!(seen.push x.2.2).contains e.2.2)=a++b:=by
 have e1:l.filter (fun e=>!(seen.push x.2.2).contains e.2.2)=(l.filter fun e=>!seen.contains e.2.2).filter fun e=>!decide (e.2.2=x.2.2):=by
  rw [List.filter_filter]
  refine List.filter_congr fun y _=>?_
  rw [Array.contains_push,Bool.not_or,Bool.and_comm]
  congr 1
 rw [e1,h,List.filter_append,List.filter_cons]
 have hnd:((a++x::b).map (·.2.2)).Nodup:=by
  rw [←h]
  exact ((List.filter_sublist.map _).nodup hn)
 rw [List.map_append,List.map_cons,List.nodup_append,List.nodup_cons] at hnd
 rw [if_neg (by simp)]
 rw [List.filter_eq_self.2,List.filter_eq_self.2]
 ·intro y hy
  have:¬ y.2.2=x.2.2:=fun e=>hnd.2.1.1 (by rw [←e];exact List.mem_map.2 ⟨y,hy,rfl⟩)
  simpa using this
 ·intro y hy
  have:¬ y.2.2=x.2.2:=fun e=>hnd.2.2 _ (List.mem_map.2 ⟨y,hy,rfl⟩) x.2.2 (by simp) e
  simpa using this
def itLeft (r m:Nat) (w:World):Nat:=match w.heap[r]? with
 |some (.mapIter _ _ seen _)=>(match w.heap[m]? with
  |some (.map es _)=>(leftOf es seen).size
  |_=>0)
 |_=>0
section
variable {α:Type} [BEq α] [KeyK α] {P:Program} {R:Cx} {Hs:List HP} {w:World}
def ItAt (r m:Nat) (es left:List (α × Value)):HP:=exs fun l:List (En α)=>exs fun c:Nat=>exs fun seen:Array Nat=>
 Star [pur (strip l=es∧StampsOk l c∧strip (l.filter fun e=>!seen.contains e.2.2)=left),pts r (.mapIter (some m) c seen c),pts m (.map (l.map mkE).toArray c)]
theorem ItAt.iff {r m:Nat} {es left:List (α × Value)}:Sat R (ItAt r m es left::Hs) w↔∃ (l:List (En α)) (c:Nat) (seen:Array Nat),(strip l=es∧StampsOk l c∧strip (l.filter fun e=>!seen.contains e.2.2)=left)∧
  Sat R (pts r (.mapIter (some m) c seen c)::pts m (.map (l.map (mkE (α:=α))).toArray c)::Hs) w:=by
 unfold ItAt
 simp only [Sat.exs]
 constructor
 ·rintro ⟨l,c,seen,h⟩
  obtain ⟨h1,h2⟩:=Sat.pur.1 (Sat.star.1 h)
  exact ⟨l,c,seen,h1,h2⟩
 ·rintro ⟨l,c,seen,h1,h2⟩
  exact ⟨l,c,seen,Sat.star.2 (Sat.pur.2 ⟨h1,h2⟩)⟩
theorem ItAt.map {r m:Nat} {es left:List (α × Value)} (hw:Sat R (ItAt r m es left::Hs) w):Sat R (MapAt m es::Hs) w:=by
 obtain ⟨l,c,seen,⟨h1,h2,_⟩,hw⟩:=ItAt.iff.1 hw
 exact MapAt.iff.2 ⟨l,c,h1,h2,hw.drop⟩
theorem range_rule {T K E:TypeId} {m:Nat} {es:List (α × Value)} {Q:Option Addr→World→Prop} (hT:P.underlying T=some (.map K E)) (hw:Sat R (MapAt m es::Hs) w) (k:∀ r w',Sat R (ItAt r m es es::Hs) w'→Q (some ⟨r,0,none⟩) w'):
  ∃ w':World,∃ t:Option Addr,((Instr.range T (.map (some m))).run P w=.ok (.pointer t) w')∧Q t w':=by
 obtain ⟨l,c,h1,h2,hw⟩:=MapAt.iff.1 hw
 have hat:=hw.at
 refine ⟨w.alloc (.mapIter (some m) c #[] c),some ⟨w.heap.size,0,none⟩,?_,k _ _ (ItAt.iff.2 ⟨l,c,#[],⟨h1,h2,?_⟩,Sat.alloc _ hw⟩)⟩
 ·simp [Instr.range,run_underlying hT,getObj,Sem.run_bind,Sem.run,hat,Result.andThen]
 ·rw [show (l.filter fun e=>!(#[]:Array Nat).contains e.2.2)=l from List.filter_eq_self.2 (fun x _=>by simp)]
  exact h1
theorem itLeft_eq {r m:Nat} {es left:List (α × Value)} (hw:Sat R (ItAt r m es left::Hs) w):itLeft r m w=left.length:=by
 obtain ⟨l,c,seen,⟨h1,h2,h3⟩,hw⟩:=ItAt.iff.1 hw
 have hr:=hw.at
 have hm:=hw.swap.at
 unfold itLeft
 rw [hr]
 dsimp only
 rw [hm]
 dsimp only
 rw [←h3,←Array.length_toList]
 unfold leftOf strip
 rw [Array.toList_filter,List.length_map]
 have:∀ l:List (En α),((l.map mkE).filter fun e=>!seen.contains e.born).length=(l.filter fun e=>!seen.contains e.2.2).length:=fun l=>by
  rw [List.filter_map,List.length_map]
  rfl
 exact this l
theorem next_cases {r m:Nat} {T:TypeId} {es left:List (α × Value)} (hw:Sat R (ItAt r m es left::Hs) w):
  (left=[]∧(Instr.next (.pointer (some ⟨r,0,none⟩)) false T).run P w=.ok (.tuple #[.bool false]) w)∨
  ∃ a k v b w',left=a++(k,v)::b∧(Instr.next (.pointer (some ⟨r,0,none⟩)) false T).run P w=.ok (.tuple #[.bool true,KeyK.enc k,v]) w'∧(Instr.entry (.pointer (some ⟨r,0,none⟩))).run P w'=.ok (.tuple #[KeyK.enc k,v]) w'∧Sat R (ItAt r m es (a++b)::Hs) w':=by
 obtain ⟨l,c,seen,⟨h1,h2,h3⟩,hw⟩:=ItAt.iff.1 hw
 have hr:=hw.at
 have hm:=hw.swap.at
 rcases run_next_at (P:=P) w T r m c c seen (l.map mkE).toArray c hr hm (fun x hx=>by
   obtain ⟨e,he,rfl⟩:=List.mem_map.1 (show x∈l.map mkE from hx)
   exact h2.1 e he) (Nat.le_refl _) with ⟨h0,hrun⟩|⟨e,he,w1,hw1,hrun⟩
 ·left
  refine ⟨?_,hrun⟩
  rw [←h3]
  have:(l.filter fun e=>!seen.contains e.2.2)=[]:=by
   rw [List.filter_eq_nil_iff]
   intro x hx hn
   have hmem:mkE x∈(leftOf (l.map mkE).toArray seen).toList:=by
    unfold leftOf
    simp only [Array.toList_filter,List.mem_filter,List.mem_map]
    exact ⟨⟨x,hx,rfl⟩,hn⟩
   have:0<(leftOf (l.map mkE).toArray seen).toList.length:=List.length_pos_of_mem hmem
   rw [Array.length_toList] at this
   omega
  rw [this];rfl
 ·right
  have hx:∃ x∈l,e=mkE x∧(!seen.contains x.2.2)=true:=by
   unfold leftOf at he
   simp only [Array.toList_filter,List.mem_filter,List.mem_map] at he
   obtain ⟨⟨x,hx,rfl⟩,hn⟩:=he
   exact ⟨x,hx,rfl,hn⟩
  obtain ⟨x,hxl,rfl,hn⟩:=hx
  obtain ⟨a,b,hab⟩:=List.append_of_mem (List.mem_filter.2 ⟨hxl,hn⟩:x∈l.filter fun e=>!seen.contains e.2.2)
  have hw2:Sat R (pts r (.mapIter (some m) c seen c)::pts m (.map (l.map (mkE (α:=α))).toArray c)::Hs) w1:=by
   rcases hw1 with rfl|rfl
   ·exact hw
   ·exact hw.drew
  have hw3:=hw2.setPts (.mapIter (some m) c (seen.push x.2.2) c)
  refine ⟨strip a,x.1,x.2.1,strip b,_,?_,hrun,?_,?_⟩
  ·rw [←h3,hab]
   unfold strip
   rw [List.map_append,List.map_cons]
  ·exact run_entry_at (P:=P) _ r m c seen (l.map mkE).toArray c (mkE x) hw3.at hw3.swap.at (show mkE x∈l.map mkE from List.mem_map.2 ⟨x,hxl,rfl⟩) (by
    have e:((l.map mkE).map fun e:MapEntry=>e.born)=l.map (·.2.2):=by rw [List.map_map];rfl
    show ((l.map mkE).map fun e:MapEntry=>e.born).Nodup
    rw [e];exact h2.2)
  ·refine ItAt.iff.2 ⟨l,c,seen.push x.2.2,⟨h1,h2,?_⟩,hw3⟩
   rw [filter_push h2.2 hab]
   unfold strip
   rw [List.map_append]
end
end Go.VC
/- SL, part 19: rows of n cells: copy, append of zeros where there is no room, taking a part out. Condition: bounds on lengths. -/
namespace Go.VC
set_option linter.unusedVariables false
set_option linter.unusedSimpArgs false
open Go Go.RowKit
theorem run_copy_n {P:Program} {n:Nat} (w:World) (dT sT ty elem:TypeId) (b o dLen dCap:Nat) (a:Addr) (sLen sCap:Nat) (cs:List Value)
  (hu:P.underlying dT=some (.slice elem)) (hs:(P.info? elem).map (·.size)=some n) (hn:cs.length=Nat.min sLen dLen * n)
  (hsrc:∀ j v,cs[j]? =some v→w.cell? (a.add j)=some v) (hc:∀ j,j<cs.length→(w.cell? ⟨b,o + j,none⟩).isSome=true) (hf:∀ j,j<cs.length→w.frozen? ⟨b,o + j,none⟩=false) (h1:∀ v∈cs,v.oneCell'=true):
  (Builtin.copy_ #[dT,sT] ty #[.slice (some ⟨b,o,none⟩) dLen dCap,.slice (some a) sLen sCap]).run P w=.ok (goInt (Nat.min sLen dLen)) (w.setCells b o cs):=by
 have hl:=run_loadCells_list (P:=P) w a cs hsrc
 have hst:=run_storeCells_cells (P:=P) b o cs 0 w (by simpa using hc) (by simpa using hf) h1
 cases hq:P.info? elem with
 |none=>simp [hq] at hs
 |some i=>
  have hi:i.size=n:=by simpa [hq] using hs
  simp [Builtin.copy_,run_underlying hu,Builtin.lenOf,Builtin.firstCells,sizeOf,typeInfo,hq,hi,←hn,hl,hst]
theorem run_clear_n {P:Program} {n m:Nat} (w:World) (t e ty:TypeId) (z:Value) (ht:P.underlying t=some (.slice e)) (hv:∀ w,(zeroValue e).run P w=.ok z w) (hz:z.cells.size=n) (h1:∀ v∈(Builtin.zeroCells z.cells m).toList,v.oneCell'=true) (b o c:Nat) (hm:0<m)
  (hc:∀ j,j<m * n→(w.cell? ⟨b,o + j,none⟩).isSome=true) (hf:∀ j,j<m * n→w.frozen? ⟨b,o + j,none⟩=false):
  (Builtin.clear_ #[t] ty #[.slice (some ⟨b,o,none⟩) m c]).run P w=.ok (.tuple #[]) (w.setCells b o (Builtin.zeroCells z.cells m).toList):=by
 have hl:(Builtin.zeroCells z.cells m).toList.length=m * n:=by simp [Builtin.zeroCells,hz]
 have hst:=run_storeCells_cells (P:=P) b o (Builtin.zeroCells z.cells m).toList 0 w (by rw [hl];simpa using hc) (by rw [hl];simpa using hf) h1
 simp only [Nat.add_zero] at hst
 obtain ⟨k,rfl⟩:∃ k,m=k + 1:=⟨m - 1,by omega⟩
 simp [Builtin.clear_,run_underlying ht,hv,hst]
theorem rows_of {n:Nat}:∀ (m:Nat) (l:List Value),l.length=m * n→∃ ys:List (List Value),ys.length=m∧Wid n ys∧ys.flatten=l
 |0,l,h=>⟨[],rfl,Wid.nil,by have:l=[]:=List.length_eq_zero_iff.1 (by omega);rw [this];rfl⟩
 |m + 1,l,h=>by
  rw [Nat.add_mul,Nat.one_mul] at h
  obtain ⟨ys,h1,h2,h3⟩:=rows_of (n:=n) m (l.drop n) (by rw [List.length_drop];omega)
  refine ⟨l.take n::ys,by simp [h1],fun x hx=>?_,by simp [h3]⟩
  rcases List.mem_cons.1 hx with rfl|hx
  ·rw [List.length_take];omega
  ·exact h2 x hx
theorem putL_midN {A B C V:List Value} {p:Nat} (hp:A.length=p) (hB:B.length=V.length):putL (A++B++C) p V=A++V++C:=by
 rw [putL_eq _ _ _ (by simp only [List.length_append];omega)]
 have e1:(A++B++C).take p=A:=by rw [List.append_assoc,List.take_left' hp]
 have e2:(A++B++C).drop (p + V.length)=C:=by rw [List.drop_left' (by rw [List.length_append];omega)]
 rw [e1,e2]
theorem putN {A Y D X rest:List Value} {p:Nat} (hA:A.length=p) (hy:Y.length=X.length + D.length):putL (putL ((A++Y)++rest) p X) (p + X.length) D=(A++X++D)++rest:=by
 have h1:putL ((A++Y)++rest) p X=A++X++(Y.drop X.length++rest):=by
  have:=putL_midN (A:=A) (B:=Y.take X.length) (C:=Y.drop X.length++rest) (V:=X) hA (by rw [List.length_take];omega)
  rw [←this]
  congr 1
  rw [List.append_assoc,List.append_assoc,←List.append_assoc (Y.take _),List.take_append_drop]
 have h2:=putL_midN (A:=A++X) (B:=Y.drop X.length) (C:=rest) (V:=D) (p:=p + X.length) (by simp [hA]) (by rw [List.length_drop];omega)
 rw [h1,←List.append_assoc,h2]
theorem putN' {A D X rest:List Value} {p:Nat} (hA:A.length=p) (hr:X.length≤rest.length):putL (putL ((A++D)++rest) (p + X.length) D) p X=(A++X++D)++rest.drop X.length:=by
 have e:(A++D)++rest=(A++(D++rest).take X.length)++((D++rest).drop X.length).take D.length++rest.drop X.length:=by
  have h1:rest.drop X.length=(D++rest).drop (X.length + D.length):=by
   rw [Nat.add_comm,←List.drop_drop,List.drop_left]
  rw [h1,←List.drop_drop,List.append_assoc,List.append_assoc,List.append_assoc,List.take_append_drop,List.take_append_drop]
 have hl:((D++rest).take X.length).length=X.length:=by rw [List.length_take,List.length_append];omega
 rw [e,putL_midN (p:=p + X.length) (by rw [List.length_append,hl,hA]) (by rw [List.length_take,List.length_drop,List.length_append];omega)]
 have:=putL_midN (A:=A) (B:=(D++rest).take X.length) (C:=D++rest.drop X.length) (V:=X) hA (by rw [hl])
 rw [show (A++(D++rest).take X.length)++D++rest.drop X.length=A++(D++rest).take X.length++(D++rest.drop X.length) by simp,this];simp
section
variable {P:Program} {R:Cx} {Hs Rest:List HP} {w:World} {s:Sl} {T:TypeId} {n:Nat}
theorem copyN_rule {dT sT ty elem:TypeId} {b o dLen dCap sLen sCap:Nat} {a:Addr} {cs l:List Value} {fr:Nat × Nat} {K:Int→World→Prop} (hu:P.underlying dT=some (.slice elem)) (hs:(P.info? elem).map (·.size)=some n)
  (hw:Sat R (pts b (.cells l.toArray T fr)::Hs) w) (hfr:okFr l.length fr) (hn:cs.length=Nat.min sLen dLen * n) (hfit:o + cs.length≤l.length) (hsrc:∀ j v,cs[j]? =some v→w.cell? (a.add j)=some v) (h1:oneAll cs=true)
  (k:∀ t w',Sat R (pts b (.cells (putL l o cs).toArray T fr)::Hs) w'→K t w'):
  ∃ w',∃ t:Int,(Builtin.copy_ #[dT,sT] ty #[.slice (some ⟨b,o,none⟩) dLen dCap,.slice (some a) sLen sCap]).run P w=.ok (.int .i64 t) w'∧K t w':=by
 have hat:=hw.at
 have hr:=run_copy_n (P:=P) w dT sT ty elem b o dLen dCap a sLen sCap cs hu hs hn hsrc (fun j hj=>by rw [cell_of hat];simp;omega) (fun j hj=>frozen_no hat hfr (by omega)) (fun v hv=>List.all_eq_true.1 h1 v hv)
 exact ⟨_,_,hr,k _ _ (setCells_sat cs l o w hw)⟩
theorem zerosGrowN_rule {t1 t2 ty:TypeId} {bytes k m:Nat} {kd kn:IntKind} {rows:List (List Value)} {K:Sl→World→Prop} (ht:P.underlying t1=some (.slice T)) (htn:P.underlying t2=some (.int kn)) (hi:elBN P T n bytes=true) (hn1:0<n)
  (h0:0<m) (hk:k<rows.length) (hc:s.cap<k + m) (hb:2 * (k + m) * bytes≤281474976710656) (hb':k + m≤9223372036854775807) (hw:Sat R (OwnN n s T rows::Hs) w)
  (h:∀ t w' ys,ys.length=m→Sat R (OwnN n t T (rows.take k++ys)::OwnN n s T rows::Hs) w'→K t w'):
  ∃ w',∃ t:Sl,(Builtin.append_ #[t1,t2] ty #[.slice s.a k s.cap,.int kd m]).run P w=.ok (.slice t.a t.len t.cap) w'∧K t w':=by
 obtain ⟨i,z,hi,hz,hsize,hbytes,hzc⟩:=elBN_out hi
 obtain ⟨hwid,⟨_,rfl,_⟩|⟨b,rest,fr,cap,rfl,hl,hfr,hp⟩⟩:=OwnN.cases hw
 ·simp at hk
 have hat:=hp.at
 dsimp only at hc ⊢
 have hcap:Builtin.nextslicecap (k + m) cap * i.bytes≤281474976710656:=by
  have h2:Builtin.nextslicecap (k + m) cap≤2 * (k + m):=by
   unfold Builtin.nextslicecap
   split
   ·omega
   ·split
    ·omega
    ·have:=nextslicecap_le_wide hc
     unfold Builtin.nextslicecap at this
     rw [if_neg (by assumption),if_neg (by assumption)] at this
     omega
  rw [hbytes]
  exact Nat.le_trans (Nat.mul_le_mul_right _ h2) hb
 have hkl:(rows.take k).flatten.length=k * n:=by rw [hwid.take.len,List.length_take,Nat.min_eq_left (by omega)]
 have hold:(Builtin.firstCells i.size k (.slice (some ⟨b,0,none⟩) k cap)).run P w.drew=.ok (rows.take k).flatten.toArray w.drew:=by
  refine run_firstCells_some w.drew i.size k ⟨b,0,none⟩ k _ (rows.take k).flatten (by rw [hsize,hkl]) ?_
  intro j u hj
  rw [World.cell?_drew,add_off,cell_of hat,Nat.zero_add]
  obtain ⟨hlt,rfl⟩:=List.getElem?_eq_some_iff.1 hj
  rw [hkl] at hlt
  rw [←hj,←hwid.take_flat,List.getElem?_take,if_pos hlt]
  have:k * n≤rows.length * n:=Nat.mul_le_mul_right _ (by omega)
  rw [List.getElem?_append_left (by rw [hwid.len];omega)]
 have hwr:IntKind.i64.wrap (m:Int)=m:=by rw [IntKind.wrap_i64];omega
 have hn:¬ (k + m≤cap):=by omega
 have h63':¬ (9223372036854775807<((k:Int) + (m:Int))):=by omega
 have h48':¬ (281474976710656<Builtin.nextslicecap (k + m) cap * i.bytes):=by omega
 have h48i:¬ (281474976710656<(m:Int) * (i.bytes:Int)):=by
  rw [←Int.natCast_mul,hbytes]
  have:m * bytes≤2 * (k + m) * bytes:=Nat.mul_le_mul_right _ (by omega)
  omega
 have hneg:¬ ((m:Int)<0):=by omega
 have hn0:m≠0:=by omega
 have hns:¬ (m * i.size=0):=by
  rw [hsize]
  have:=Nat.mul_pos h0 hn1
  omega
 have hg:=grownCap_ge w (k + m) cap T
 have hr:(Builtin.append_ #[t1,t2] ty #[.slice (some ⟨b,0,none⟩) k cap,.int kd m]).run P w=
   .ok (.slice (some ⟨w.heap.size,0,none⟩) (k + m) (grownCap w (k + m) cap T)) (w.drew.alloc (.cells ((rows.take k).flatten.toArray++Builtin.zeroCells z.cells m++Builtin.zeroCells z.cells (grownCap w (k + m) cap T - (k + m))) T)):=by
  simp [Builtin.append_,run_underlying ht,run_underlying htn,sizeOf,typeInfo,zeroValue,hi,hz,asInt,asIntOf,hwr,hn,hneg,hns,h63',h48',h48i,Question.forced,hold,newRow,grownCap]
 have hzs:∀ m,(Builtin.zeroCells z.cells m).size=m * n:=fun m=>by simp [Builtin.zeroCells,hzc]
 obtain ⟨ys,hy1,hy2,hy3⟩:=rows_of m (Builtin.zeroCells z.cells m).toList (by rw [Array.length_toList,hzs])
 refine ⟨_,⟨some ⟨w.heap.size,0,none⟩,k + m,grownCap w (k + m) cap T⟩,hr,h _ _ ys hy1 ?_⟩
 have h3:=Sat.alloc (Obj.cells ((rows.take k).flatten.toArray++Builtin.zeroCells z.cells m++Builtin.zeroCells z.cells (grownCap w (k + m) cap T - (k + m))) T) (Sat.drew hp)
 have e:Obj.cells ((rows.take k).flatten.toArray++Builtin.zeroCells z.cells m++Builtin.zeroCells z.cells (grownCap w (k + m) cap T - (k + m))) T=.cells ((rows.take k++ys).flatten++(Builtin.zeroCells z.cells (grownCap w (k + m) cap T - (k + m))).toList).toArray T (0,0):=by
  congr 1
  apply Array.ext'
  rw [List.flatten_append,hy3]
  simp
 rw [e] at h3 ⊢
 have h4:=OwnN.of_pts hwid hl (Sat.swap h3) hfr
 have hwid2:Wid n (rows.take k++ys):=hwid.take.app hy2
 have hlk:(rows.take k++ys).length=k + m:=by rw [List.length_append,List.length_take,hy1,Nat.min_eq_left (by omega)]
 have h5:=OwnN.of_pts (cap:=grownCap w (k + m) cap T) hwid2 (by rw [List.length_append,hwid2.len,hlk,Array.length_toList,hzs,←Nat.add_mul];congr 1;omega) (Sat.swap h4)
 have e2:(⟨some ⟨w.drew.heap.size,0,none⟩,(rows.take k++ys).length,grownCap w (k + m) cap T⟩:Sl)=⟨some ⟨w.heap.size,0,none⟩,k + m,grownCap w (k + m) cap T⟩:=by
  rw [hlk,World.size_drew]
 rw [e2] at h5
 exact h5
theorem delN_rule {t1 ty ty':TypeId} {bytes i j:Nat} {z:Value} {rows:List (List Value)} {K:Sl→World→Prop} (ht:P.underlying t1=some (.slice T)) (hi:elBN P T n bytes=true) (hv:∀ w,(zeroValue T).run P w=.ok z w) (hzc:z.cells.size=n)
  (hz1:∀ m,∀ v∈(Builtin.zeroCells z.cells m).toList,v.oneCell'=true) (ho:oneAll rows.flatten=true)
  (hn1:0<n) (hij:i<j) (hj:j≤rows.length) (hw:Sat R (OwnN n s T rows::Hs) w) (k:∀ t w',Sat R (OwnN n t T (rows.take i++rows.drop j)::Hs) w'→K t w'):
  ∃ w',∃ t:Sl,(Builtin.append_ #[t1,t1] ty #[.slice s.a i s.cap,.slice (cutA s.a j s.cap n) (s.len - j) (s.cap - j)]).run P w=.ok (.slice t.a t.len t.cap) w'∧
   (0:Int)≤(s.len:Int)∧(s.len:Int)≤(t.cap:Int)∧(0:Int)≤(t.len:Int)∧(t.len:Int)≤(((s.len:Int).toNat:Nat):Int)∧
   ∃ w'',(Builtin.clear_ #[t1] ty' #[.slice (cutA t.a (t.len:Int).toNat t.cap n) ((s.len:Int).toNat - (t.len:Int).toNat) (t.cap - (t.len:Int).toNat)]).run P w'=.ok (.tuple #[]) w''∧K t w'':=by
 obtain ⟨ti,z',hi,hz',hsize,hbytes,hzc'⟩:=elBN_out hi
 obtain ⟨hwid,⟨_,rfl,_⟩|⟨b,rest,fr,cap,rfl,hl,hfr,hp⟩⟩:=OwnN.cases hw
 ·simp at hj;omega
 have hat:=hp.at
 have hl0:=hl
 rw [List.length_append,hwid.len] at hl
 have hcap:rows.length≤cap:=Nat.le_of_mul_le_mul_right (by omega:rows.length * n≤cap * n) hn1
 have hjn:j * n≤rows.length * n:=Nat.mul_le_mul_right _ hj
 have hin:i * n + (rows.length - j) * n + (j - i) * n=rows.length * n:=by
  rw [←Nat.add_mul,←Nat.add_mul]
  congr 1;omega
 have hdl:(rows.drop j).flatten.length=(rows.length - j) * n:=by rw [hwid.drop.len,List.length_drop]
 have hdo:∀ v∈(rows.drop j).flatten,v.oneCell'=true:=fun v hv=>List.all_eq_true.1 ho v (by
  obtain ⟨l,h1,h2⟩:=List.mem_flatten.1 hv
  exact List.mem_flatten.2 ⟨l,List.mem_of_mem_drop h1,h2⟩)
 have hsrc:Src P ti.size t1 (.slice (cutA (some ⟨b,0,none⟩) j cap n) (rows.length - j) (cap - j)) (rows.length - j) (rows.drop j).flatten w:=by
  rw [hsize]
  by_cases hjc:cap=j
  ·have hr:rows.length - j=0:=by omega
   have hd:rows.drop j=[]:=List.drop_eq_nil_of_le (by omega)
   rw [hr,hd]
   unfold cutA
   rw [if_pos hjc]
   exact Go.Src.ofSlice w ht _ 0 _ [] (by simp) (fun j u hj=>by simp at hj) (fun u hu=>by cases hu)
  ·unfold cutA
   rw [if_neg hjc]
   refine Go.Src.ofSlice w ht _ _ _ _ (by rw [hdl]) (fun x u hx=>?_) hdo
   show w.cell? (Addr.add (Addr.add ⟨b,0,none⟩ (j * n)) x)=some u
   rw [add_off,add_off,Nat.zero_add,cell_of hat]
   rw [←hwid.drop_flat,List.getElem?_drop] at hx
   have hlt:=(List.getElem?_eq_some_iff.1 hx).1
   rw [List.getElem?_append_left (by omega)]
   exact hx
 have hroom:i + (rows.length - j)≤cap:=by omega
 have hr:=run_append_room_src w t1 t1 ty T ti ht hi b 0 i cap _ (rows.length - j) (rows.drop j).flatten hsrc hroom
  (fun x hx=>by
   rw [cell_of hat,hsize,List.getElem?_eq_getElem (by rw [hl0];omega)];rfl) (fun x hx=>frozen_no hat hfr (by rw [hsize];omega))
 have h2:=setCells_sat (rows.drop j).flatten (rows.flatten++rest) (i * n) w hp
 rw [hsize,Nat.zero_add] at hr
 have e1:putL (rows.flatten++rest) (i * n) (rows.drop j).flatten=(rows.take i++rows.drop j).flatten++(rows.flatten++rest).drop (i * n + (rows.length - j) * n):=by
  rw [putL_eq _ _ _ (by rw [hdl,hl0];omega),hdl,List.take_append_of_le_length (by rw [hwid.len];omega),hwid.take_flat,List.flatten_append]
 rw [e1] at h2
 have hwid2:Wid n (rows.take i++rows.drop j):=hwid.take.app hwid.drop
 have hll:(rows.take i++rows.drop j).length=i + (rows.length - j):=by rw [List.length_append,List.length_take,List.length_drop,Nat.min_eq_left (by omega)]
 refine ⟨_,⟨some ⟨b,0,none⟩,i + (rows.length - j),cap⟩,hr,by dsimp only;omega,by dsimp only;omega,by dsimp only;omega,by dsimp only;omega,?_⟩
 dsimp only
 rw [Int.toNat_natCast,Int.toNat_natCast]
 have hca:cutA (some ⟨b,0,none⟩) (i + (rows.length - j)) cap n=some ⟨b,(i + (rows.length - j)) * n,none⟩:=by
  unfold cutA
  rw [if_neg (by omega)]
  simp [add_off]
 rw [hca]
 have hat2:=h2.at
 have hml:(rows.length - (i + (rows.length - j))) * n=(j - i) * n:=by congr 1;omega
 have hpos:(i + (rows.length - j)) * n=i * n + (rows.length - j) * n:=Nat.add_mul _ _ _
 have hlen2:((rows.take i++rows.drop j).flatten++(rows.flatten++rest).drop (i * n + (rows.length - j) * n)).length=cap * n:=by
  rw [List.length_append,hwid2.len,hll,List.length_drop,hl0,hpos];omega
 refine ⟨_,run_clear_n _ t1 T ty' z ht hv hzc (hz1 _) b ((i + (rows.length - j)) * n) _ (by omega) (fun x hx=>?_) (fun x hx=>?_),k _ _ ?_⟩
 ·rw [cell_of hat2,List.getElem?_eq_getElem (by rw [hlen2];omega)];rfl
 ·exact frozen_no hat2 hfr (by omega)
 ·have h3:=setCells_sat (Builtin.zeroCells z.cells (rows.length - (i + (rows.length - j)))).toList _ ((i + (rows.length - j)) * n) _ h2
  have hzl:(Builtin.zeroCells z.cells (rows.length - (i + (rows.length - j)))).toList.length=(j - i) * n:=by simp [Builtin.zeroCells,hzc,hml]
  rw [putL_eq _ _ _ (by rw [hzl,hlen2,hpos];omega),List.take_left' (by rw [hwid2.len,hll]),List.append_assoc] at h3
  have h4:=OwnN.of_pts (cap:=cap) hwid2 (by
   rw [List.length_append,List.length_append,hwid2.len,hll,hzl,List.length_drop,hlen2]
   omega) h3 hfr
  rw [hll] at h4
  exact h4
end
end Go.VC
/- Package queue: who may wait; who stands ahead; where one stands. Condition: a bound on the length. -/
namespace Go.Proofs.YtflgboncpbmikaaGreatDoor
set_option linter.unusedVariables false
set_option linter.unusedSimpArgs false
open Go Go.VC
open Classical
variable {R:Cx} {Hs Rest:List HP} {w:World}
abbrev wtA (x:Wt):Value:=.agg #[.int .i64 x.id,.int .i64 x.cls,.int .i64 x.many,.int .i64 x.time,.float .f64 x.sc]
abbrev wtC (b:Nat) (x:Wt):HP:=pts b (.cells (wtV x).toArray 174 (0,0))
abbrev wtD (b:Nat) (x:Wt):HP:=pts b (.cells (wtV x).toArray 147 (0,0))
theorem qwithin_spec {n lo hi:Int} (hw:Sat R Hs w):Gets Tryz.prog 143 #[.int .i64 n,.int .i64 lo,.int .i64 hi] w fun v w'=>v=.bool (decide (lo≤n∧n≤hi))∧Sat R Hs w':=by
 apply call143
 refine Br.d (fun h=>⟨?_,hw⟩) (fun h=>⟨?_,hw⟩)
 ·congr 1
  rw [decide_eq_decide];omega
 ·rw [decide_eq_false (by omega)]
theorem qright_spec {x:Wt} (hw:Sat R Hs w):Gets Tryz.prog 106 #[wtA x] w fun v w'=>v=.bool (decide x.Ok)∧Sat R Hs w':=by
 apply call106
 refine new_rule hw fun b w hw=>?_
 have hw:Sat R (wtC b x::Hs) w:=hw
 have no:∀ {w},¬ x.Ok→Sat R (wtC b x::Hs) w→(Value.bool false=.bool (decide x.Ok))∧Sat R Hs w:=fun h hw=>⟨by rw [decide_eq_false h],hw.drop⟩
 refine ⟨x.id,At.own (eqS hw) (by exact ⟨rfl,trivial⟩),?_⟩
 refine (qwithin_spec hw).use ?_
 clear hw
 rintro _ w ⟨rfl,hw⟩
 refine ⟨_,rfl,Br.d (fun h1=>?_) (fun h1=>no (fun h=>h1 h.1) hw)⟩
 refine ⟨x.cls,At.own (eqS hw) (by exact ⟨rfl,trivial⟩),?_⟩
 refine (qwithin_spec hw).use ?_
 clear hw
 rintro _ w ⟨rfl,hw⟩
 refine ⟨_,rfl,Br.d (fun h2=>?_) (fun h2=>no (fun h=>h2 h.2.1) hw)⟩
 refine ⟨x.many,At.own (eqS hw) (by exact ⟨rfl,trivial⟩),?_⟩
 refine (qwithin_spec hw).use ?_
 clear hw
 rintro _ w ⟨rfl,hw⟩
 refine ⟨_,rfl,Br.d (fun h3=>?_) (fun h3=>no (fun h=>h3 h.2.2.1) hw)⟩
 refine ⟨x.time,At.own (eqS hw) (by exact ⟨rfl,trivial⟩),?_⟩
 refine (qwithin_spec hw).use ?_
 clear hw
 rintro _ w ⟨rfl,hw⟩
 refine ⟨_,rfl,?_,hw.drop⟩
 congr 1
 rw [decide_eq_decide]
 exact ⟨fun h=>⟨h1,h2,h3,h⟩,fun h=>h.2.2.2⟩
def orL (l:List Int):Int:=(l.find? fun x=>decide (x≠0)).getD 0
theorem or_spec {s:Sl} {l:List Int} (hl:l.length≤1000000000) (hw:Sat R (Own s 3 (intsI l)::Hs) w):Gets Tryz.prog 146 #[.slice s.a s.len s.cap] w fun v w'=>v=.int .i64 (orL l)∧Sat R (Own s 3 (intsI l)::Hs) w':=by
 have hlen:=Own.len hw
 rw [List.length_map] at hlen
 apply call146
 refine ⟨fun i w=>∃ j:Nat,i=j∧j≤l.length∧(∀ x∈l.take j,x=0)∧Sat R (Own s 3 (intsI l)::Hs) w,fun i _=>l.length - i.toNat,⟨0,rfl,by omega,by simp,hw⟩,?_⟩
 clear hw
 rintro _ _ w ⟨j,rfl,hj,hz,hw⟩
 refine Br.d (fun h=>?_) (fun h=>?_)
 ·have hj2:j<l.length:=by omega
  refine Own.ix hw (eqS hw) j rfl hj2 ?_
  refine Br.ne (fun h2=>⟨?_,hw⟩) (fun h2=>?_)
  ·congr 1
   have e:l.find? (fun x=>decide (x≠0))=some l[j]:=by
    have h3:l=l.take j++l[j]::l.drop (j + 1):=by rw [←List.drop_eq_getElem_cons hj2,List.take_append_drop]
    rw [List.find?_eq_some_iff_append]
    exact ⟨by simpa using h2,l.take j,l.drop (j + 1),h3,fun x hx=>by simpa using hz x hx⟩
   unfold orL
   rw [e]
   rfl
  ·rw [wrap64 (by omega) (by omega)]
   refine ⟨⟨j + 1,by omega,by omega,fun x hx=>?_,hw⟩,by dsimp only;omega⟩
   rw [List.take_add_one,List.getElem?_eq_getElem hj2] at hx
   rcases List.mem_append.1 hx with hx|hx
   ·exact hz x hx
   ·simp at hx
    rw [hx];exact h2
 ·rw [List.take_of_length_le (by omega)] at hz
  refine ⟨?_,hw⟩
  congr 1
  unfold orL
  rw [List.find?_eq_none.2 (fun x hx=>by simpa using hz x hx)]
  rfl
theorem ord_orL {a b:Wt}:orL [rankF b.sc a.sc,cmpI a.time b.time,cmpI a.id b.id]=a.ord b:=by
 unfold orL Wt.ord cmpI
 by_cases h:rankF b.sc a.sc=0
 ·simp only [List.find?_cons,h,ne_eq,not_true_eq_false,decide_false]
  by_cases h1:a.time<b.time
  ·simp [h1]
  ·by_cases h2:b.time<a.time
   ·simp [h1,h2]
   ·by_cases h3:a.id<b.id
    ·simp [h1,h2,h3]
    ·by_cases h4:b.id<a.id
     ·simp [h1,h2,h3,h4]
     ·simp [h1,h2,h3,h4]
 ·simp [h]
theorem order_spec {a b:Wt} (hw:Sat R Hs w):Gets Tryz.prog 109 #[wtA a,wtA b] w fun v w'=>v=.int .i64 (a.ord b)∧Sat R Hs w':=by
 apply call109
 refine new_rule hw fun p w hw=>new_rule hw fun q w hw=>?_
 have hw:Sat R (wtC q b::wtC p a::Hs) w:=hw
 refine drw_ruleT hw fun w hw=>?_
 refine ⟨b.sc,At.own (fun _ h=>h) (by exact ⟨rfl,trivial⟩),a.sc,At.own (fun _ h=>h) (by exact ⟨rfl,trivial⟩),a.time,At.own (fun _ h=>h) (by exact ⟨rfl,trivial⟩),b.time,At.own (fun _ h=>h) (by exact ⟨rfl,trivial⟩),a.id,At.own (fun _ h=>h) (by exact ⟨rfl,trivial⟩),b.id,At.own (fun _ h=>h) (by exact ⟨rfl,trivial⟩),?_⟩
 refine (rank_spec hw).use ?_
 clear hw
 rintro _ w ⟨rfl,hw⟩
 refine ⟨_,rfl,hw,?_⟩
 refine (compareI_spec hw).use ?_
 clear hw
 rintro _ w ⟨rfl,hw⟩
 refine ⟨_,rfl,hw,?_⟩
 refine (compareI_spec hw).use ?_
 clear hw
 rintro _ w ⟨rfl,hw⟩
 refine ⟨_,rfl,hw,?_⟩
 refine new_rule hw fun r w hw=>⟨hw.absorb,?_⟩
 have hw:Sat R (pts r (.cells (intsI [rankF b.sc a.sc,cmpI a.time b.time,cmpI a.id b.id]).toArray 3 (0,0))::VC.tru::wtC q b::wtC p a::Hs) w:=hw
 refine (or_spec (l:=[rankF b.sc a.sc,cmpI a.time b.time,cmpI a.id b.id]) (by simp) (own_lit (n:=3) hw)).use ?_
 clear hw
 rintro _ w ⟨rfl,hw⟩
 rw [ord_orL]
 exact ⟨_,rfl,hw.absorb,rfl,hw.drop.drop.drop.drop⟩
abbrev wtT:TypeId:=174
theorem qidx_spec {s:Sl} {l:List Wt} {f:Value} {p:Wt→Bool} (hl:l.length≤1000000000)
  (hf:∀ x w,Sat R (OwnN 5 s wtT (l.map wtV)::Hs) w→CalW Tryz.prog cl f [wtA x] w fun e w'=>e=.returned (.bool (p x))∧Sat R (OwnN 5 s wtT (l.map wtV)::Hs) w')
  (hw:Sat R (OwnN 5 s wtT (l.map wtV)::Hs) w):
  Gets Tryz.prog 144 #[.slice s.a s.len s.cap,f] w fun v w'=>(∃ i:Int,v=.int .i64 i∧((i=-1∧l.any p=false)∨∃ k:Nat,i=k∧∃ (hk:k<l.length),p l[k]=true∧(l.take k).any p=false))∧Sat R (OwnN 5 s wtT (l.map wtV)::Hs) w':=by
 have hlen:=OwnN.len hw
 rw [List.length_map] at hlen
 apply call144
 refine ⟨fun i w=>∃ j:Nat,i=j∧j≤l.length∧(l.take j).any p=false∧Sat R (OwnN 5 s wtT (l.map wtV)::Hs) w,fun i _=>l.length - i.toNat,⟨0,rfl,by omega,by simp,hw⟩,?_⟩
 clear hw
 rintro _ _ w ⟨j,rfl,hj,hn,hw⟩
 refine Br.d (fun h=>?_) (fun h=>?_)
 ·have hj2:j<l.length:=by omega
  refine (OwnN.reads hw (eqS hw)).rngM (E:=l) (g:=wtV) hj2 fun a _ he=>?_
  refine ⟨_,_,_,_,_,he.z (by exact ⟨rfl,rfl,rfl,rfl,rfl,trivial⟩),?_⟩
  refine (hf l[j] _ hw).mono ?_
  rintro _ w ⟨rfl,hw⟩
  refine ⟨_,rfl,Br.mk (fun h=>⟨⟨j,rfl,.inr ⟨j,rfl,hj2,h,hn⟩⟩,hw⟩) (fun h=>?_)⟩
  rw [wrap64 (by omega) (by omega)]
  refine ⟨⟨j + 1,by omega,by omega,?_,hw⟩,by dsimp only;omega⟩
  rw [List.take_add_one,List.getElem?_eq_getElem hj2,List.any_append,hn]
  simp [h]
 ·rw [List.take_of_length_le (by omega)] at hn
  exact ⟨⟨-1,rfl,.inl ⟨rfl,hn⟩⟩,hw⟩
theorem isId_spec {b:Nat} {id:Int} {x:Wt} (hw:Sat R (pts b (.cells [.int .i64 id].toArray 3 (0,0))::Hs) w):Gets Tryz.prog 145 #[wtA x,.pointer (some ⟨b,0,none⟩)] w fun v w'=>v=.bool (decide (x.id=id))∧Sat R (pts b (.cells [.int .i64 id].toArray 3 (0,0))::Hs) w':=by
 apply call145
 refine new_rule hw fun p w hw=>?_
 have hw:Sat R (wtC p x::pts b (.cells [.int .i64 id].toArray 3 (0,0))::Hs) w:=hw
 refine ⟨x.id,At.own (eqS hw) (by exact ⟨rfl,trivial⟩),NilP.mk rfl ⟨id,At.own (eqS hw) (by exact ⟨rfl,trivial⟩),?_,hw.drop⟩⟩
 congr 1
theorem qplace_spec {q:Nat} {l:List Wt} {id:Int} (hl:l.length≤1000000000) (hw:Sat R (QuAt q l::Hs) w):
  Gets Tryz.prog 107 #[.pointer (some ⟨q,0,none⟩),.int .i64 id] w fun v w'=>(∃ i:Int,v=.int .i64 i∧((i=-1∧hasQ id l=false)∨∃ k:Nat,i=k∧∃ (hk:k<l.length),l[k].id=id∧hasQ id (l.take k)=false))∧Sat R (QuAt q l::Hs) w':=by
 obtain ⟨s,hw⟩:=Sat.qu.1 hw
 apply call107
 refine new_rule hw fun b w hw=>?_
 have hw:Sat R (pts q (quCell s)::pts b (.cells [.int .i64 id].toArray 3 (0,0))::OwnN 5 s wtT (l.map wtV)::Hs) w:=hw.swap
 refine NilP.mk rfl ⟨s,At.own (eqS hw) (by exact ⟨rfl,trivial⟩),?_⟩
 have hw:Sat R (OwnN 5 s wtT (l.map wtV)::pts b (.cells [.int .i64 id].toArray 3 (0,0))::pts q (quCell s)::Hs) w:=hw.arr
 refine (qidx_spec (p:=fun x=>decide (x.id=id)) hl (fun x w hw=>CalW.mk (by kernel_rfl) ((isId_spec hw.swap).use fun v w' h=>⟨by rw [h.1],h.2.swap⟩)) hw).use ?_
 clear hw
 rintro _ w ⟨⟨i,rfl,hi⟩,hw⟩
 refine ⟨i,rfl,⟨i,rfl,?_⟩,?_⟩
 ·rcases hi with hi|⟨k,rfl,hk,h1,h2⟩
  ·exact .inl hi
  ·exact .inr ⟨k,rfl,hk,of_decide_eq_true h1,h2⟩
 ·have hw:Sat R (pts b (.cells [.int .i64 id].toArray 3 (0,0))::pts q (quCell s)::OwnN 5 s wtT (l.map wtV)::Hs) w:=hw.arr
  exact Sat.qu.2 ⟨s,hw.drop⟩
end Go.Proofs.YtflgboncpbmikaaGreatDoor
/- Package slices: Insert of one who waits; Delete. Condition: a bound on the length. -/
namespace Go.Proofs.YtflgboncpbmikaaGreatDoor
set_option linter.unusedVariables false
set_option linter.unusedSimpArgs false
open Go Go.VC
open Classical
variable {R:Cx} {Hs Rest:List HP} {w:World}
theorem ovq_name : (Tryz.f149.name == "runtime.NumGoroutine") = false := by kernel_rfl
theorem ovq_body:Tryz.f149.body.isNone=true:=by kernel_rfl
theorem ovq_next:Extern.findNext Tryz.f149=none:=by kernel_rfl
theorem ovq_find:∃ tR,Extern.find Tryz.f149=some (Extern.SlicesOverlaps.overlaps #[ 170,170 ] #[tR]):=⟨4,by kernel_rfl⟩
theorem elW:ElN Tryz.prog 170 170 wtT 5 40:=⟨Tryz.underlying170,⟨_,Tryz.underlying170⟩,by kernel_rfl⟩
theorem szW1:szOf Tryz.prog wtT=5:=by kernel_rfl
theorem szW (w:World):(sizeOf wtT).run Tryz.prog w=.ok 5 w:=by
 obtain ⟨i,hi⟩:=szOf_pos (P:=Tryz.prog) (t:=wtT) (by rw [szW1];decide)
 have:=sizeOf_run hi w
 rw [szW1] at this
 exact this
theorem wtV_len (x:Wt):(wtV x).length=5:=rfl
theorem wtV_wid (l:List Wt):Wid 5 (l.map wtV):=fun y hy=>by
 obtain ⟨x,_,rfl⟩:=List.mem_map.1 hy
 rfl
theorem wtV_one (x:Wt):oneAll (wtV x)=true:=rfl
theorem wtV_all (l:List Wt):oneAll (l.map wtV).flatten=true:=by
 unfold oneAll
 rw [List.all_eq_true]
 intro v hv
 obtain ⟨r,h1,h2⟩:=List.mem_flatten.1 hv
 obtain ⟨x,_,rfl⟩:=List.mem_map.1 h1
 exact List.all_eq_true.1 (wtV_one x) v h2
theorem cut_5 {b k m:Nat} (h:m≠k):cutA (some ⟨b,0,none⟩) k m 5=some ⟨b,k * 5,none⟩:=by
 simp only [cutA,if_neg h,Option.map_some,add_off];simp
theorem overlapsQ_spec {b1 b2 o:Nat} {x:Wt} {T2:TypeId} {l:List Value} {fr:Nat × Nat} {la lc:Nat} {Q:Ending→World→Prop} (hl:l≠[])
  (hw:Sat R (pts b2 (.cells l.toArray T2 fr)::wtC b1 x::Hs) w) (k:Q (.returned (.bool false)) w):
  Ext Tryz.prog 149 #[.slice (some ⟨b1,0,none⟩) 1 1,.slice (some ⟨b2,o,none⟩) la lc] w Q:=by
 have h2:=hw.at
 have h1:=hw.swap.at
 have hne:b1≠b2:=by
  rintro rfl
  obtain ⟨h,hA,hd,h',hB,hd',_⟩:=hw
  rw [show h=_ from hA] at hd hd'
  rw [show h'=_ from hB] at hd'
  have:=hd' b1 (by simp [Heap.one])
  simp only [Cx.add,Heap.add,Heap.one] at this
  split at this<;>simp_all
 obtain ⟨tR,hf⟩:=ovq_find
 refine ⟨.bool false,w,?_,k⟩
 rw [run_callFunc_extern Tryz.func149 ovq_name ovq_body ovq_next hf]
 rw [Lib.run_overlaps_apart (P:=Tryz.prog) w 170 tR wtT Tryz.underlying170 5 (fun w=>szW w) ⟨b1,0,none⟩ ⟨b2,o,none⟩ 1 1 la lc hne wtT T2 5 l.length ?_ ?_ ?_ ?_ ?_]
 ·rfl
 ·simp only [World.shape?,h1];rfl
 ·simp only [World.shape?,h2];simp
 ·cases l with
  |nil=>exact absurd rfl hl
  |cons a l=>simp
 ·simp [World.frozen?,h1]
 ·simp [World.frozen?,h1]
theorem src_wt {b:Nat} {x:Wt} (h:w.heap[b]? =some (.cells (wtV x).toArray wtT (0,0))):∀ j v,(wtV x)[j]? =some v→w.cell? ((⟨b,0,none⟩:Addr).add j)=some v:=by
 intro j v hj
 rw [add_off,cell_of h,Nat.zero_add];exact hj
theorem src_partN {b o:Nat} {xs rest:List Value} {T:TypeId} {fr:Nat × Nat} (h:w.heap[b]? =some (.cells (xs++rest).toArray T fr)):∀ j v,(xs.drop o)[j]? =some v→w.cell? ((⟨b,o,none⟩:Addr).add j)=some v:=by
 intro j v hj
 rw [add_off,cell_of h]
 rw [List.getElem?_drop] at hj
 have hlt:=(List.getElem?_eq_some_iff.1 hj).1
 rw [List.getElem?_append_left (by omega)];exact hj
theorem qinsert_spec {s:Sl} {l:List Wt} {x:Wt} {p b:Nat} (hl:l.length≤1000000000) (hp:p≤l.length) (hw:Sat R (OwnN 5 s wtT (l.map wtV)::wtC b x::Hs) w):
  Gets Tryz.prog 110 #[.slice s.a s.len s.cap,.int .i64 p,.slice (some ⟨b,0,none⟩) 1 1] w fun v w'=>∃ t:Sl,v=.slice t.a t.len t.cap∧Sat R (OwnN 5 t wtT ((l.take p++x::l.drop p).map wtV)::wtC b x::Hs) w':=by
 have hlen:=OwnN.len hw
 have hcap:=OwnN.cap (by omega) hw
 rw [List.length_map] at hlen
 have hrl:(l.map wtV).length=l.length:=List.length_map _
 refine call110 s p ⟨some ⟨b,0,none⟩,1,1⟩ _ _ ?_
 unfold B110
 dsimp only
 have w1:IntKind.i64.wrap ((s.len:Int) + ((1:Nat):Int))=((l.length + 1:Nat):Int):=by rw [wrap64 (by omega) (by omega)];omega
 have w2:IntKind.i64.wrap (((l.length + 1:Nat):Int) - p)=((l.length + 1 - p:Nat):Int):=by rw [wrap64 (by omega) (by omega)];omega
 have w3:IntKind.i64.wrap ((p:Int) + ((1:Nat):Int))=((p + 1:Nat):Int):=by rw [wrap64 (by omega) (by omega)];omega
 rw [w1,w2,w3]
 simp only [Int.toNat_natCast]
 have hA:((l.map wtV).take p).flatten.length=p * 5:=by rw [(wtV_wid l).take.len,List.length_take,hrl,Nat.min_eq_left hp]
 have hD:((l.map wtV).drop p).flatten.length=(l.length - p) * 5:=by rw [(wtV_wid l).drop.len,List.length_drop,hrl]
 have hDo:oneAll ((l.map wtV).drop p).flatten=true:=by rw [←List.map_drop];exact wtV_all _
 have hrows:(l.map wtV).flatten=((l.map wtV).take p).flatten++((l.map wtV).drop p).flatten:=by rw [←List.flatten_append,List.take_append_drop]
 have hin:((l.map wtV).take p).flatten++wtV x++((l.map wtV).drop p).flatten=((l.take p++x::l.drop p).map wtV).flatten:=by simp [List.map_take,List.map_drop]
 have hinl:(l.take p++x::l.drop p).length=l.length + 1:=by simp;omega
 refine ⟨by omega,by omega,Br.f rfl (Br.e (fun h=>?_) (fun h=>Br.d (fun h2=>?_) (fun h2=>?_)))⟩
 ·-- behind all
  refine appendN_rule elW hw (SrcN_one elW.hk 1 hw rfl rfl) (Wid.one rfl) (by simp;omega) (by simp;omega) fun t w hw=>⟨t,rfl,?_⟩
  have e:l.map wtV++[wtV x]=(l.take p++x::l.drop p).map wtV:=by
   rw [List.take_of_length_le (by omega),List.drop_eq_nil_of_le (by omega)];simp
  rw [e] at hw;exact hw
 ·-- no room
  refine ⟨by omega,by omega,?_⟩
  refine zerosGrowN_rule Tryz.underlying170 Tryz.underlying3 elW.hi (by omega) (by omega) (by rw [hrl];omega) (by omega) (by omega) (by omega) hw fun t w ys hys hw=>?_
  have hyw:Wid 5 ys:=fun y hy=>OwnN.wid hw y (List.mem_append_right _ hy)
  have htl:=OwnN.len hw
  have hxs:((l.map wtV).take p++ys).length=l.length + 1:=by rw [List.length_append,List.length_take,hrl,hys,Nat.min_eq_left hp];omega
  rw [hxs] at htl
  refine ⟨by omega,by omega,?_⟩
  obtain ⟨hwid,⟨_,h0,_⟩|⟨b',rest,fr,cap,rfl,hcl,hfr,hw⟩⟩:=OwnN.cases hw
  ·have:=congrArg List.length h0
   rw [hxs] at this;cases this
  dsimp only at htl ⊢
  rw [List.flatten_append] at hw hcl
  have hY:ys.flatten.length=(l.length + 1 - p) * 5:=by rw [hyw.len,hys]
  have hcl2:=hcl
  rw [List.length_append,List.length_append,hA,hY] at hcl2
  have hb1:=(hw.takeP (b:=b) inferInstance).at
  rw [hxs,cut_5 (by omega)]
  refine copyN_rule Tryz.underlying170 (by kernel_rfl) hw (by rw [hcl];exact hfr) (cs:=wtV x) (by show 5=Nat.min 1 _ * 5;rw [show Nat.min 1 (l.length + 1 - p)=1 from Nat.min_eq_left (by omega)]) (by rw [hcl];show p * 5 + 5≤_;omega) (src_wt hb1) rfl fun _ w hw=>?_
  refine drw_rule hw fun w hw=>⟨by omega,by omega,by omega,by omega,?_⟩
  obtain ⟨_,⟨_,h0,_⟩|⟨bs,rest2,fr2,cap2,rfl,hcl3,hfr2,hws⟩⟩:=OwnN.cases hw.swap
  ·have h3:l.length=0:=by
    have:=congrArg List.length h0
    rw [hrl] at this;exact this
   omega
  clear w1 w2 w3
  dsimp only at hlen hcap h h2 ⊢
  rw [hrl] at h hcap
  have hsat:=hws.at
  rw [cut_5 (by omega),cut_5 (by omega)]
  have hdrop:(l.map wtV).flatten.drop (p * 5)=((l.map wtV).drop p).flatten:=(wtV_wid l).drop_flat p
  refine copyN_rule Tryz.underlying170 (by kernel_rfl) hws.swap (by rw [putL_len,hcl];exact hfr) (cs:=((l.map wtV).drop p).flatten) (by rw [hD,hrl,show Nat.min (l.length - p) (l.length + 1 - (p + 1))=l.length - p from Nat.min_eq_left (by omega)])
   (by rw [putL_len,hcl,hD];omega) (by rw [←hdrop];exact src_partN hsat) hDo fun _ w hw=>?_
  rw [show (p + 1) * 5=p * 5 + (wtV x).length by rw [wtV_len];omega,putN hA (by rw [hY,hD,wtV_len];omega),hin] at hw
  have hfin:=OwnN.of_pts (cap:=cap) (wtV_wid _) (by rw [List.length_append,(wtV_wid _).len,List.length_map,hinl];omega) hw hfr
  rw [List.length_map,hinl] at hfin
  refine ⟨⟨some ⟨b',0,none⟩,l.length + 1,cap⟩,rfl,?_⟩
  exact Sat.cons (fun R' h=>h.drop) hfin
 ·-- room
  obtain ⟨_,⟨_,h0,_⟩|⟨bs,rest,fr,cap,rfl,hcl,hfr,hws⟩⟩:=OwnN.cases hw
  ·have h3:l.length=0:=by
    have:=congrArg List.length h0
    rw [hrl] at this;exact this
   omega
  clear w1 w2 w3
  dsimp only at hlen hcap h h2 ⊢
  rw [hrl] at h hcap
  have hcl2:=hcl
  rw [List.length_append,(wtV_wid l).len,hrl] at hcl2
  have hroom:5≤rest.length:=by omega
  refine ⟨by omega,by omega,by omega,by omega,?_⟩
  rw [cut_5 (by omega)]
  refine overlapsQ_spec (by intro h0;have h5:=congrArg List.length h0;rw [hcl,List.length_nil] at h5;omega) hws ?_
  refine ⟨_,rfl,Br.t rfl ?_⟩
  refine drw_rule hws fun w hws=>⟨by omega,by omega,by omega,by omega,?_⟩
  rw [cut_5 (by omega)]
  have hsat:=hws.at
  have hdrop:(l.map wtV).flatten.drop (p * 5)=((l.map wtV).drop p).flatten:=(wtV_wid l).drop_flat p
  refine copyN_rule Tryz.underlying170 (by kernel_rfl) hws (by rw [hcl];exact hfr) (cs:=((l.map wtV).drop p).flatten) (by rw [hD,show Nat.min (l.length + 1 - p) (l.length + 1 - (p + 1))=l.length - p from (Nat.min_eq_right (by omega)).trans (by omega)])
   (by rw [hcl,hD];omega) (by rw [←hdrop];exact src_partN hsat) hDo fun _ w hw=>?_
  refine ⟨by omega,by omega,?_⟩
  have hb1:=hw.swap.at
  refine copyN_rule Tryz.underlying170 (by kernel_rfl) hw (by rw [putL_len,hcl];exact hfr) (cs:=wtV x) (by show 5=Nat.min 1 _ * 5;rw [show Nat.min 1 (l.length + 1 - p)=1 from Nat.min_eq_left (by omega)]) (by rw [putL_len,hcl];show p * 5 + 5≤_;omega) (src_wt hb1) rfl fun _ w hw=>?_
  rw [hrows,show (p + 1) * 5=p * 5 + (wtV x).length by rw [wtV_len];omega,putN' hA (by rw [wtV_len];exact hroom),hin] at hw
  have hfin:=OwnN.of_pts (cap:=cap) (wtV_wid _) (by rw [List.length_append,(wtV_wid _).len,List.length_map,hinl,List.length_drop,wtV_len];omega) hw hfr
  rw [List.length_map,hinl] at hfin
  exact ⟨_,rfl,hfin⟩
theorem zvW (w:World):(zeroValue wtT).run Tryz.prog w=.ok (.agg #[.int .i64 0,.int .i64 0,.int .i64 0,.int .i64 0,.float .f64 0]) w:=by
 rw [Tryz.zeroValue174 ]
theorem qdelete_spec {s:Sl} {l:List Wt} {k:Nat} (hl:l.length≤1000000000) (hk:k<l.length) (hw:Sat R (OwnN 5 s wtT (l.map wtV)::Hs) w):
  Gets Tryz.prog 115 #[.slice s.a s.len s.cap,.int .i64 k,.int .i64 ((k + 1:Nat):Int)] w fun v w'=>∃ t:Sl,v=.slice t.a t.len t.cap∧Sat R (OwnN 5 t wtT ((l.take k++l.drop (k + 1)).map wtV)::Hs) w':=by
 have hlen:=OwnN.len hw
 have hcap:=OwnN.cap (by omega) hw
 rw [List.length_map] at hlen
 apply call115
 unfold B115
 simp only [Int.toNat_natCast]
 refine ⟨by omega,by omega,by omega,by omega,by omega,by omega,Br.e (fun h=>by omega) (fun _=>?_)⟩
 refine drw_rule hw fun w hw=>⟨by omega,by omega,by omega,by omega,?_⟩
 refine delN_rule (z:=.agg #[.int .i64 0,.int .i64 0,.int .i64 0,.int .i64 0,.float .f64 0]) (i:=k) (j:=k + 1) (rows:=l.map wtV) elW.ht elW.hi zvW rfl (fun m v hv=>?_) (wtV_all l) (by omega) (by omega) (by rw [List.length_map];omega) hw fun t w hw=>⟨t,rfl,?_⟩
 ·unfold Builtin.zeroCells at hv
  rw [Array.mem_toList_iff,Array.mem_map] at hv
  obtain ⟨i,_,rfl⟩:=hv
  have h5:i % 5<5:=Nat.mod_lt _ (by omega)
  show ((#[Value.int .i64 0,.int .i64 0,.int .i64 0,.int .i64 0,.float .f64 0]:Array Value)[i % 5]!).oneCell'=true
  generalize i % 5=j at h5
  match j,h5 with
  |0,_=>rfl
  |1,_=>rfl
  |2,_=>rfl
  |3,_=>rfl
  |4,_=>rfl
 ·rw [List.map_append,List.map_take,List.map_drop]
  exact hw
end Go.Proofs.YtflgboncpbmikaaGreatDoor
/- Package queue: Add, Remove, First, All. Condition: a bound on the length. -/
namespace Go.Proofs.YtflgboncpbmikaaGreatDoor
set_option linter.unusedVariables false
set_option linter.unusedSimpArgs false
open Go Go.VC
open Classical
variable {R:Cx} {Hs Rest:List HP} {w:World}
theorem qst_lt {q:List Wt} (h:QSt q) {i j:Nat} (hij:i<j) (hj:j<q.length):q[i].ahead q[j]=true:=List.pairwise_iff_getElem.1 h i j (by omega) hj hij
theorem qsearch_spec {s:Sl} {l:List Wt} {x:Wt} (hl:l.length≤1000000000) (hst:QSt l) (hw:Sat R (OwnN 5 s wtT (l.map wtV)::Hs) w):
  Gets Tryz.prog 108 #[.slice s.a s.len s.cap,wtA x,.func (.func 109) #[] #[]] w fun v w'=>(∃ (p:Nat) (b:Bool),v=.tuple #[.int .i64 p,.bool b]∧p≤l.length∧(∀ k (h:k<l.length),k<p→l[k].ahead x=true)∧(∀ k (h:k<l.length),p≤k→l[k].ahead x=false))∧Sat R (OwnN 5 s wtT (l.map wtV)::Hs) w':=by
 have hlen:=OwnN.len hw
 rw [List.length_map] at hlen
 apply call108
 refine new_rule hw fun b w hw=>?_
 have ordC:∀ (y:Wt) w,Sat R (OwnN 5 s wtT (l.map wtV)::wtC b x::Hs) w→CalW Tryz.prog cl (.func (.func 109) #[] #[]) [wtA y,wtA x] w (fun e w'=>e=.returned (.int .i64 (y.ord x))∧Sat R (OwnN 5 s wtT (l.map wtV)::wtC b x::Hs) w'):=fun y w hw=>CalW.mk (by kernel_rfl) ((order_spec hw).use fun v w' h=>⟨by rw [h.1],h.2⟩)
 have hw:Sat R (OwnN 5 s wtT (l.map wtV)::wtC b x::Hs) w:=Sat.swap hw
 refine ⟨fun i j w=>∃ a b':Nat,i=a∧j=b'∧a≤b'∧b'≤l.length∧(∀ k (h:k<l.length),k<a→l[k].ahead x=true)∧(∀ k (h:k<l.length),b'≤k→l[k].ahead x=false)∧Sat R (OwnN 5 s wtT (l.map wtV)::wtC b x::Hs) w,fun i j _=>(j - i).toNat,⟨0,l.length,rfl,by omega,by omega,by omega,fun k _ hk=>by omega,fun k h hk=>by omega,hw⟩,?_⟩
 clear hw
 rintro _ _ _ w ⟨a,c,rfl,rfl,hac,hc,h1,h2,hw⟩
 refine Br.d (fun h=>?_) (fun h=>?_)
 ·refine drw_rule hw fun w hw=>?_
  rw [half_eq (by omega)]
  have hm:(a + c) / 2<l.length:=by omega
  refine (OwnN.reads (S:=Sat R (OwnN 5 s wtT (l.map wtV)::wtC b x::Hs)) hw (fun _ h=>h)).rngM (E:=l) (g:=wtV) hm fun ad _ he=>?_
  refine ⟨_,_,_,_,_,he.z (by exact ⟨rfl,rfl,rfl,rfl,rfl,trivial⟩),x.id,x.cls,x.many,x.time,x.sc,At.own (fun _ h=>h) (by exact ⟨rfl,rfl,rfl,rfl,rfl,trivial⟩),?_⟩
  refine (ordC l[(a + c) / 2] _ hw).mono ?_
  clear hw
  rintro _ w ⟨rfl,hw⟩
  refine ⟨_,rfl,Br.d (fun h3=>?_) (fun h3=>?_)⟩
  ·have ha:=ord_neg.1 h3
   rw [show IntKind.i64.wrap ((((a + c) / 2:Nat):Int) + 1)=(((a + c) / 2 + 1:Nat):Int) from wrap64 (by omega) (by omega)]
   refine ⟨⟨(a + c) / 2 + 1,c,rfl,rfl,by omega,hc,fun k hk hk2=>?_,h2,hw⟩,by dsimp only;omega⟩
   by_cases hkm:k=(a + c) / 2
   ·subst hkm;exact ha
   ·exact ahead_trans (qst_lt hst (show k<(a + c) / 2 by omega) hm) ha
  ·have ha:l[(a + c) / 2].ahead x=false:=by
    rw [←Bool.not_eq_true]
    exact fun h=>h3 (ord_neg.2 h)
   refine ⟨⟨a,(a + c) / 2,rfl,rfl,by omega,by omega,h1,fun k hk hk2=>?_,hw⟩,by dsimp only;omega⟩
   by_cases hkm:k=(a + c) / 2
   ·subst hkm;exact ha
   ·rw [←Bool.not_eq_true] at ha ⊢
    exact fun h=>ha (ahead_trans (qst_lt hst (show (a + c) / 2<k by omega) hk) h)
 ·obtain rfl:a=c:=by omega
  have fin:∀ (t:Bool) w,Sat R (OwnN 5 s wtT (l.map wtV)::wtC b x::Hs) w→(∃ (p:Nat) (b:Bool),Value.tuple #[.int .i64 a,.bool t]=.tuple #[.int .i64 p,.bool b]∧p≤l.length∧(∀ k (h:k<l.length),k<p→l[k].ahead x=true)∧(∀ k (h:k<l.length),p≤k→l[k].ahead x=false))∧Sat R (OwnN 5 s wtT (l.map wtV)::Hs) w:=fun t w hw=>⟨⟨a,t,rfl,hc,h1,h2⟩,hw.cons fun _ h=>h.drop⟩
  refine drw_rule hw fun w hw=>?_
  refine Br.d (fun h3=>?_) (fun h3=>fin _ _ hw)
  have ha:a<l.length:=by omega
  refine (OwnN.reads (S:=Sat R (OwnN 5 s wtT (l.map wtV)::wtC b x::Hs)) hw (fun _ h=>h)).rngM (E:=l) (g:=wtV) ha fun ad _ he=>?_
  refine ⟨_,_,_,_,_,he.z (by exact ⟨rfl,rfl,rfl,rfl,rfl,trivial⟩),x.id,x.cls,x.many,x.time,x.sc,At.own (fun _ h=>h) (by exact ⟨rfl,rfl,rfl,rfl,rfl,trivial⟩),?_⟩
  refine (ordC l[a] _ hw).mono ?_
  clear hw
  rintro _ w ⟨rfl,hw⟩
  exact ⟨_,rfl,fin _ _ hw⟩
theorem hasQ_tk {l:List Wt} {id:Int} {k:Nat} (hk:k<l.length) (h1:l[k].id=id) (h2:hasQ id (l.take k)=false):hasQ id l=true∧delQ id l=l.take k++l.drop (k + 1):=by
 induction l generalizing k with
 |nil=>simp at hk
 |cons w l ih=>
  cases k with
  |zero=>
   have h1:w.id=id:=h1
   refine ⟨by simp [hasQ,h1],?_⟩
   show (if w.id=id then l else _)=_
   rw [if_pos h1];simp
  |succ k=>
   rw [List.take_succ_cons] at h2
   have h3:¬ w.id=id∧hasQ id (l.take k)=false:=by simpa [hasQ] using h2
   obtain ⟨a1,a2⟩:=ih (by simpa using hk) (by simpa using h1) h3.2
   refine ⟨by simp only [hasQ,List.any_cons];rw [show l.any _=true from a1];simp,?_⟩
   show (if w.id=id then _ else w::delQ id l)=_
   rw [if_neg h3.1,a2];simp
theorem qremove_spec {q:Nat} {l:List Wt} {id:Int} (hl:l.length≤1000000000) (hw:Sat R (QuAt q l::Hs) w):
  Gets Tryz.prog 85 #[.pointer (some ⟨q,0,none⟩),.int .i64 id] w fun v w'=>v=.int .i64 (qrem l id).2∧Sat R (QuAt q (qrem l id).1::Hs) w':=by
 apply call85
 refine (qplace_spec hl hw).use ?_
 clear hw
 rintro _ w ⟨⟨i,rfl,hi⟩,hw⟩
 refine ⟨i,rfl,Br.d (fun h=>?_) (fun h=>?_)⟩
 ·rcases hi with ⟨_,h1⟩|⟨k,rfl,_⟩
  ·unfold qrem
   rw [h1]
   exact ⟨rfl,hw⟩
  ·omega
 rcases hi with ⟨h1,_⟩|⟨k,rfl,hk,h1,h2⟩
 ·omega
 obtain ⟨a1,a2⟩:=hasQ_tk hk h1 h2
 unfold qrem
 rw [a1,if_pos rfl,a2]
 obtain ⟨s,hw⟩:=Sat.qu.1 hw
 refine NilP.mk rfl ⟨s,At.own (eqS hw) (by exact ⟨rfl,trivial⟩),?_⟩
 rw [show IntKind.i64.wrap ((k:Int) + 1)=((k + 1:Nat):Int) from wrap64 (by omega) (by omega)]
 refine (qdelete_spec hl hk hw.swap).use ?_
 clear hw
 rintro _ w ⟨t,rfl,hw⟩
 refine ⟨t,rfl,NilP.mk rfl ?_⟩
 refine store_rule hw.swap (by kernel_rfl) rfl (by simp [Value.cells]) fun w hw=>?_
 have hw:=hw.re (pts q (quCell t))
 exact ⟨rfl,Sat.qu.2 ⟨t,hw⟩⟩
theorem qadd_spec {q:Nat} {l:List Wt} {x:Wt} (hq:QOk l) (hw:Sat R (QuAt q l::Hs) w):
  Gets Tryz.prog 80 #[.pointer (some ⟨q,0,none⟩),wtA x] w fun v w'=>v=.int .i64 (qadd l x).2∧Sat R (QuAt q (qadd l x).1::Hs) w':=by
 have hl:l.length≤1000000000:=by have:=hq.len;omega
 apply call80
 refine new_rule hw fun b1 w hw=>?_
 have hw:Sat R (wtD b1 x::QuAt q l::Hs) w:=hw
 refine ⟨x.id,x.cls,x.many,x.time,x.sc,At.own (eqS hw) (by exact ⟨rfl,rfl,rfl,rfl,rfl,trivial⟩),?_⟩
 refine new_rule hw fun b2 w hw=>?_
 refine store_rule hw (by kernel_rfl) rfl (by simp [Value.cells]) fun w hw=>?_
 have hw:=hw.re (wtC b2 x)
 refine ⟨x.id,x.cls,x.many,x.time,x.sc,At.own (eqS hw) (by exact ⟨rfl,rfl,rfl,rfl,rfl,trivial⟩),?_⟩
 refine (qright_spec hw).use ?_
 clear hw
 rintro _ w ⟨rfl,hw⟩
 refine ⟨_,rfl,Br.nd (fun h=>?_) (fun hok=>?_)⟩
 ·unfold qadd
  rw [if_pos h]
  exact ⟨rfl,hw.drop.drop⟩
 refine ⟨x.id,At.own (eqS hw) (by exact ⟨rfl,trivial⟩),?_⟩
 have hw:Sat R (QuAt q l::wtC b2 x::wtD b1 x::Hs) w:=hw.arr
 refine (qplace_spec hl hw).use ?_
 clear hw
 rintro _ w ⟨⟨i,rfl,hi⟩,hw⟩
 have close:∀ {w l},Sat R (QuAt q l::wtC b2 x::wtD b1 x::Hs) w→Sat R (QuAt q l::Hs) w:=fun h=>h.cons fun _ h=>h.drop.drop
 refine ⟨i,rfl,Br.d (fun h=>?_) (fun h=>?_)⟩
 ·rcases hi with ⟨h1,_⟩|⟨k,rfl,hk,h1,h2⟩
  ·omega
  unfold qadd
  rw [if_neg (fun h=>h hok),if_pos (hasQ_tk hk h1 h2).1]
  exact ⟨rfl,close hw⟩
 have hno:hasQ x.id l=false:=by
  rcases hi with ⟨_,h1⟩|⟨k,rfl,_⟩
  ·exact h1
  ·omega
 obtain ⟨s,hw⟩:=Sat.qu.1 hw
 have hlen:=OwnN.len hw.swap
 rw [List.length_map] at hlen
 refine NilP.mk rfl ⟨s,At.own (eqS hw) (by exact ⟨rfl,trivial⟩),Br.d (fun h3=>?_) (fun h3=>?_)⟩
 ·unfold qadd
  rw [if_neg (fun h=>h hok),hno,if_neg (by simp),if_pos (by omega)]
  exact ⟨rfl,close (Sat.qu.2 ⟨s,hw⟩)⟩
 have hadd:qadd l x=(insQ x l,0):=by
  unfold qadd
  rw [if_neg (fun h=>h hok),hno,if_neg (by simp),if_neg (by omega)]
 rw [hadd]
 refine drw_rule hw fun w hw=>NilP.mk rfl ?_
 refine ⟨s,At.own (fun _ h=>h) (by exact ⟨rfl,trivial⟩),x.id,x.cls,x.many,x.time,x.sc,At.own (fun _ h=>h) (by exact ⟨rfl,rfl,rfl,rfl,rfl,trivial⟩),?_⟩
 refine (qsearch_spec hl hq.st hw.swap).use ?_
 clear hw
 rintro _ w ⟨⟨p,fb,rfl,hp,h1,h2⟩,hw⟩
 refine ⟨_,_,rfl,?_⟩
 refine drw_rule' (Sat R [pts q (quCell s),wtC b2 x,VC.tru]) hw (fun w hw=>?_) fun w hw=>?_
 ·exact (hw.arr (Hs':=pts q (quCell s)::wtC b2 x::OwnN 5 s wtT (l.map wtV)::wtD b1 x::Hs)).cons fun _ h=>h.restTru2
 refine NilP.mk rfl ⟨s,At.own (fun _ h=>h) (by exact ⟨rfl,trivial⟩),x.id,x.cls,x.many,x.time,x.sc,At.own (fun _ h=>h) (by exact ⟨rfl,rfl,rfl,rfl,rfl,trivial⟩),?_⟩
 refine new_rule hw fun b3 w hw=>?_
 have hw:Sat R (wtC b3 x::OwnN 5 s wtT (l.map wtV)::pts q (quCell s)::wtC b2 x::wtD b1 x::Hs) w:=hw
 refine ⟨?_,?_⟩
 ·exact (hw.arr (Hs':=pts q (quCell s)::wtC b2 x::OwnN 5 s wtT (l.map wtV)::wtD b1 x::wtC b3 x::Hs)).cons fun _ h=>h.restTru2
 refine (qinsert_spec hl hp hw.swap).use ?_
 clear hw
 rintro _ w ⟨t,rfl,hw⟩
 refine ⟨t,rfl,?_,NilP.mk rfl ?_⟩
 ·exact (hw.arr (Hs':=pts q (quCell s)::wtC b2 x::OwnN 5 t wtT ((l.take p++x::l.drop p).map wtV)::wtD b1 x::wtC b3 x::Hs)).cons fun _ h=>h.restTru2
 have hw:Sat R (pts q (quCell s)::OwnN 5 t wtT ((l.take p++x::l.drop p).map wtV)::wtC b2 x::wtD b1 x::wtC b3 x::Hs) w:=hw.arr
 refine store_rule hw (by kernel_rfl) rfl (by simp [Value.cells]) fun w hw=>?_
 have hw:=hw.re (pts q (quCell t))
 have e:insQ x l=l.take p++x::l.drop p:=by
  refine insQ_at hq.st ?_ (fun h=>h2 p h (Nat.le_refl _)) hp
  by_cases h0:p=0
  ·exact .inl h0
  ·exact .inr ⟨by omega,h1 (p - 1) (by omega) (by omega)⟩
 rw [e]
 exact ⟨rfl,Sat.qu.2 ⟨t,hw.cons fun _ h=>h.cons fun _ h=>h.drop.drop.drop⟩⟩
end Go.Proofs.YtflgboncpbmikaaGreatDoor
/- SL, part 20: the next step over a string. No condition. -/
namespace Go.VC
set_option linter.unusedVariables false
set_option linter.unusedSimpArgs false
variable {R:Cx} {Hs:List HP} {w:World}
theorem dec_lo {s:ByteArray} {i:Nat} (h:(s.get! i).toNat<128):Utf8.decode s i=((s.get! i).toNat,1):=by
 unfold Utf8.decode
 simp only [Nat.add_zero]
 rw [if_pos h]
theorem dec_hi {s:ByteArray} {i:Nat} (h:¬ (s.get! i).toNat<128):128≤(Utf8.decode s i).1:=by
 unfold Utf8.decode
 simp only [Nat.add_zero]
 rw [if_neg h]
 have hr:128≤Utf8.runeError:=by decide
 repeat' split
 all_goals first|exact hr|(rename_i h1;simp only [Bool.and_eq_true,decide_eq_true_eq] at h1;dsimp only;omega)|(rename_i h1;dsimp only;omega)
theorem bytes_get {s:ByteArray} {i:Nat} (h:i<s.size):((s.get! i).toNat:Int)=(bytesL s)[i]'(by rw [bytesL_len];exact h):=by
 have h2:i<s.data.toList.length:=by simpa using h
 have e:s.get! i=s.data.toList[i]:=by
  show s.data[i]! =_
  rw [getElem!_pos s.data i (by simpa using h2)]
  simp
 rw [e]
 simp [bytesL]
theorem nextS_rule {b:Nat} {s:ByteArray} {pos:Nat} {A:Int→Int→World→Prop} {B:World→Prop} (hw:Sat R (pts b (.stringIter s pos)::Hs) w)
  (h1:pos<s.size→∀ w',Sat R (pts b (.stringIter s (pos + (Utf8.decode s pos).2))::Hs) w'→A (pos:Int) ((Utf8.decode s pos).1:Int) w') (h2:¬ pos<s.size→B w):NextS (some ⟨b,0,none⟩) A B w:=
 ⟨b,s,pos,rfl,hw.at,fun h=>h1 h _ (hw.setPts (.stringIter s (pos + (Utf8.decode s pos).2))),h2⟩
def strLeft (b:Nat) (w:World):Nat:=match w.heap[b]? with
 |some (.stringIter s pos)=>s.size - pos
 |_=>0
theorem strLeft_eq {b:Nat} {s:ByteArray} {pos:Nat} (hw:Sat R (pts b (.stringIter s pos)::Hs) w):strLeft b w=s.size - pos:=by
 unfold strLeft
 rw [hw.at]
end Go.VC
/- Package queue: First, All. Condition: a bound on the length. -/
namespace Go.Proofs.YtflgboncpbmikaaGreatDoor
set_option linter.unusedVariables false
set_option linter.unusedSimpArgs false
open Go Go.VC
open Classical
variable {R:Cx} {Hs Rest:List HP} {w:World}
theorem qfirst_step {l:List Wt} {left:List Int} {j:Nat} (hj:j<l.length) (h:(l.take j).any (fitsQ left)=false) (hf:fitsQ left l[j]=true):qfirst l left=some l[j]:=by
 unfold qfirst
 rw [List.find?_eq_some_iff_append]
 refine ⟨hf,l.take j,l.drop (j + 1),by rw [←List.drop_eq_getElem_cons hj,List.take_append_drop],fun x hx=>?_⟩
 rw [←Bool.not_eq_true,List.any_eq_true] at h
 cases hx2:fitsQ left x with
 |false=>rfl
 |true=>exact absurd ⟨x,hx,hx2⟩ h
theorem qfirst_end {l:List Wt} {left:List Int} (h:l.any (fitsQ left)=false):qfirst l left=none:=by
 unfold qfirst
 rw [List.find?_eq_none]
 intro x hx hx2
 rw [←Bool.not_eq_true,List.any_eq_true] at h
 exact h ⟨x,hx,hx2⟩
theorem fits_no {left:List Int} {x:Wt} (h:¬ (x.cls<left.length∧x.many≤left.getD x.cls.toNat 0)):fitsQ left x=false:=by
 unfold fitsQ
 rw [←Bool.not_eq_true,Bool.and_eq_true,decide_eq_true_iff,decide_eq_true_iff]
 exact h
def zeroW:Wt:=⟨0,0,0,0,0⟩
theorem qfirst_spec {q:Nat} {l:List Wt} {sl:Sl} {left:List Int} (hq:QOk l) (hL:RoI R sl left) (hw:Sat R (QuAt q l::Hs) w):
  Gets Tryz.prog 111 #[.pointer (some ⟨q,0,none⟩),.slice sl.a sl.len sl.cap] w fun v w'=>v=.tuple #[wtA ((qfirst l left).getD zeroW),.bool (qfirst l left).isSome]∧Sat R (QuAt q l::Hs) w':=by
 have hl:l.length≤1000000000:=by have:=hq.len;omega
 have hLl:=hL.len
 obtain ⟨s,hw⟩:=Sat.qu.1 hw
 apply call111
 refine new_rule hw fun b w hw=>?_
 have hw:Sat R (OwnN 5 s wtT (l.map wtV)::pts q (quCell s)::wtD b zeroW::Hs) w:=by
  have hw:Sat R (wtD b zeroW::pts q (quCell s)::OwnN 5 s wtT (l.map wtV)::Hs) w:=hw
  exact hw.arr
 have hlen:=OwnN.len hw
 rw [List.length_map] at hlen
 refine NilP.mk rfl ⟨s,At.own (eqS hw) (by exact ⟨rfl,trivial⟩),?_⟩
 have close:∀ {w x},Sat R (OwnN 5 s wtT (l.map wtV)::pts q (quCell s)::wtD b x::Hs) w→Sat R (QuAt q l::Hs) w:=fun {w x} h=>by
  have h:Sat R (pts q (quCell s)::OwnN 5 s wtT (l.map wtV)::wtD b x::Hs) w:=h.swap
  exact Sat.qu.2 ⟨s,h.cons fun _ h=>h.cons fun _ h=>h.drop⟩
 refine ⟨fun i w=>∃ j:Nat,i=j∧j≤l.length∧(l.take j).any (fitsQ left)=false∧Sat R (OwnN 5 s wtT (l.map wtV)::pts q (quCell s)::wtD b zeroW::Hs) w,fun i _=>l.length - i.toNat,⟨0,rfl,by omega,by simp,hw⟩,?_⟩
 clear hw
 rintro _ _ w ⟨j,rfl,hj,hn,hw⟩
 refine Br.d (fun h=>?_) (fun h=>?_)
 ·have hj2:j<l.length:=by omega
  have hx:=hq.ok l[j] (List.getElem_mem hj2)
  have next:fitsQ left l[j]=false→(l.take (j + 1)).any (fitsQ left)=false:=fun h=>by
   rw [List.take_add_one,List.getElem?_eq_getElem hj2,List.any_append,hn]
   simp [h]
  rw [wrap64 (x:=(j:Int) + 1) (by omega) (by omega)]
  refine (OwnN.reads hw (eqS hw)).rngM (E:=l) (g:=wtV) hj2 fun a _ he=>?_
  refine ⟨_,_,_,_,_,he.z (by exact ⟨rfl,rfl,rfl,rfl,rfl,trivial⟩),?_⟩
  refine new_rule hw fun b2 w hw=>?_
  refine store_rule hw (by kernel_rfl) rfl (by simp [Value.cells]) fun w hw=>?_
  have hw:=hw.re (wtC b2 l[j])
  refine drw_rule hw fun w hw=>?_
  refine ⟨l[j].cls,At.own (fun _ h=>h) (by exact ⟨rfl,trivial⟩),Br.d (fun h1=>?_) (fun h1=>⟨⟨j + 1,by omega,by omega,next (fits_no fun h=>h1 (by omega)),hw.drop⟩,by dsimp only;omega⟩)⟩
  have hc:l[j].cls=(l[j].cls.toNat:Int):=by have:=hx.2.1.1;omega
  have hc2:l[j].cls.toNat<left.length:=by omega
  refine ⟨l[j].many,At.own (fun _ h=>h) (by exact ⟨rfl,trivial⟩),l[j].cls,At.own (fun _ h=>h) (by exact ⟨rfl,trivial⟩),?_⟩
  refine Ro.ix hL (fun _ h=>h) l[j].cls.toNat hc hc2 ?_
  refine Br.d (fun h2=>?_) (fun h2=>⟨⟨j + 1,by omega,by omega,next (fits_no fun h=>h2 ?_),hw.drop⟩,by dsimp only;omega⟩)
  ·have hf:fitsQ left l[j]=true:=by
    unfold fitsQ
    rw [Bool.and_eq_true,decide_eq_true_iff,decide_eq_true_iff]
    refine ⟨by omega,?_⟩
    rw [List.getD_eq_getElem?_getD,List.getElem?_eq_getElem hc2]
    exact h2
   refine ⟨l[j].id,l[j].cls,l[j].many,l[j].time,l[j].sc,At.own (eqS hw) (by exact ⟨rfl,rfl,rfl,rfl,rfl,trivial⟩),?_⟩
   have hw:Sat R (wtD b zeroW::wtC b2 l[j]::OwnN 5 s wtT (l.map wtV)::pts q (quCell s)::Hs) w:=hw.arr
   refine store_rule hw (by kernel_rfl) rfl (by simp [Value.cells,wtV]) fun w hw=>?_
   have hw:=hw.re (wtD b l[j])
   refine ⟨l[j].id,l[j].cls,l[j].many,l[j].time,l[j].sc,At.own (eqS hw) (by exact ⟨rfl,rfl,rfl,rfl,rfl,trivial⟩),?_⟩
   have hw:Sat R (wtC b2 l[j]::OwnN 5 s wtT (l.map wtV)::pts q (quCell s)::wtD b l[j]::Hs) w:=hw.arr
   rw [qfirst_step hj2 hn hf]
   exact ⟨rfl,close hw.drop⟩
  ·have:=h.2
   rwa [List.getD_eq_getElem?_getD,List.getElem?_eq_getElem hc2] at this
 ·rw [List.take_of_length_le (by omega)] at hn
  have hw:Sat R (wtD b zeroW::OwnN 5 s wtT (l.map wtV)::pts q (quCell s)::Hs) w:=hw.arr
  refine store_rule hw (by kernel_rfl) rfl (by simp [Value.cells,wtV]) fun w hw=>?_
  have hw:=hw.re (wtD b zeroW)
  refine ⟨0,0,0,0,0,At.own (eqS hw) (by exact ⟨rfl,rfl,rfl,rfl,rfl,trivial⟩),?_⟩
  rw [qfirst_end hn]
  have hw:Sat R (OwnN 5 s wtT (l.map wtV)::pts q (quCell s)::wtD b zeroW::Hs) w:=hw.arr
  exact ⟨rfl,close hw⟩
theorem elWt:ElN Tryz.prog 151 151 147 5 40:=⟨Tryz.underlying151,⟨_,Tryz.underlying151⟩,by kernel_rfl⟩
theorem qall_spec {q:Nat} {l:List Wt} (hl:l.length≤1000000000) (hw:Sat R (QuAt q l::Hs) w):
  Gets Tryz.prog 84 #[.pointer (some ⟨q,0,none⟩)] w fun v w'=>∃ t:Sl,v=.slice t.a t.len t.cap∧Sat R (OwnN 5 t 147 (l.map wtV)::QuAt q l::Hs) w':=by
 obtain ⟨s,hw⟩:=Sat.qu.1 hw
 apply call84
 refine NilP.mk rfl ⟨s,At.own (eqS hw) (by exact ⟨rfl,trivial⟩),?_⟩
 have hlen:=OwnN.len hw.swap
 rw [List.length_map] at hlen
 refine ⟨fun t i w=>∃ j:Nat,i=j∧j≤l.length∧Sat R (OwnN 5 t 147 ((l.take j).map wtV)::OwnN 5 s wtT (l.map wtV)::pts q (quCell s)::Hs) w,fun _ i _=>l.length - i.toNat,⟨0,rfl,by omega,OwnN.nil hw.swap⟩,?_⟩
 clear hw
 rintro _ t _ w ⟨j,rfl,hj,hw⟩
 refine Br.d (fun h=>?_) (fun h=>?_)
 ·have hj2:j<l.length:=by omega
  have hw2:=hw.swap
  refine (OwnN.reads hw2 (S:=fun w'=>w'=w) (Hs':=OwnN 5 t 147 ((l.take j).map wtV)::pts q (quCell s)::Hs) (fun w' e=>by rw [e];exact hw2)).rngM (E:=l) (g:=wtV) hj2 fun a _ he=>?_
  refine ⟨_,_,_,_,_,he.z (by exact ⟨rfl,rfl,rfl,rfl,rfl,trivial⟩),?_⟩
  refine new_rule hw fun b2 w hw=>?_
  refine store_rule hw (by kernel_rfl) rfl (by simp [Value.cells]) fun w hw=>?_
  have hw:=hw.re (wtC b2 l[j])
  refine ⟨l[j].id,l[j].cls,l[j].many,l[j].time,l[j].sc,At.own (eqS hw) (by exact ⟨rfl,rfl,rfl,rfl,rfl,trivial⟩),?_⟩
  have hw:=hw.drop
  refine pushN_rule (x:=wtV l[j]) elWt hw rfl rfl (by rw [List.length_map,List.length_take];omega) (by rw [List.length_map,List.length_take];omega) fun t2 w hw=>⟨?_,?_⟩
  ·refine ⟨j + 1,wrap64 (by omega) (by omega),by omega,?_⟩
   rw [List.take_add_one,List.getElem?_eq_getElem hj2,List.map_append]
   exact hw
  ·rw [wrap64 (x:=(j:Int) + 1) (by omega) (by omega)]
   dsimp only;omega
 ·rw [List.take_of_length_le (by omega)] at hw
  exact ⟨t,rfl,hw.cons fun _ h=>Sat.qu.2 ⟨s,h.swap⟩⟩
end Go.Proofs.YtflgboncpbmikaaGreatDoor
/- Package locator: a number is read. Condition: none. -/
namespace Go.Proofs.YtflgboncpbmikaaGreatDoor
set_option linter.unusedVariables false
set_option linter.unusedSimpArgs false
open Go Go.VC
open Classical
variable {R:Cx} {Hs Rest:List HP} {w:World}
theorem ix_name : (Tryz.f175.name == "runtime.NumGoroutine") = false := by kernel_rfl
theorem ix_body:Tryz.f175.body.isNone=true:=by kernel_rfl
theorem ix_next:Extern.findNext Tryz.f175=none:=by kernel_rfl
theorem ix_find:Extern.find Tryz.f175=some Extern.BytealgIndexByte.indexByte:=by kernel_rfl
abbrev signsA:ByteArray:=ByteArray.mk #[65,66,67,68,69,70,71,72,74,75,76,77,78,80,81,82,84,85,86,87,88,89,90,50,51,52,53,54,55,56,57]
theorem ix_all:(List.range 256).all (fun c=>Lib.indexByte signsA.data.toList c.toUInt8==worthT c && (decide (worthT c<0)||decide (c≤90)))=true:=by kernel_rfl
theorem ix_worth {c:Int} (h:0≤c∧c<256):Lib.indexByte signsA.data.toList c.toNat.toUInt8=worthT c∧(worthT c<0∨c≤90):=by
 have:=List.all_eq_true.1 ix_all c.toNat (List.mem_range.2 (by omega))
 rw [Bool.and_eq_true,Bool.or_eq_true,decide_eq_true_iff,decide_eq_true_iff,beq_iff_eq,show ((c.toNat:Nat):Int)=c by omega] at this
 exact ⟨this.1,this.2.imp id (by omega)⟩
theorem sindex_spec {c:Int} (h:0≤c∧c<256) (hw:Sat R Hs w):Gets Tryz.prog 122 #[.string signsA,.int .u8 c] w fun v w'=>v=.int .i64 (worthT c)∧Sat R Hs w':=by
 apply call122
 have h1:Gets Tryz.prog 159 #[.string signsA,.int .u8 c] w fun v w'=>v=.int .i64 (worthT c)∧Sat R Hs w':=by
  apply call159
  refine ⟨.int .i64 (worthT c),w,?_,_,rfl,rfl,hw⟩
  rw [run_callFunc_extern Tryz.func175 ix_name ix_body ix_next ix_find,Lib.run_indexByteString,(ix_worth h).1]
  rfl
 refine h1.use ?_
 clear hw
 rintro _ w ⟨rfl,hw⟩
 exact ⟨_,rfl,rfl,hw⟩
abbrev intB (b:Nat) (n:Int):HP:=pts b (.cells [.int .i64 n].toArray 3 (0,0))
theorem weighed_spec (hw:Sat R Hs w):Gets Tryz.prog 121 #[] w fun v w'=>∃ b1 b2,v=.func (.func 158) #[] #[.pointer (some ⟨b1,0,none⟩),.pointer (some ⟨b2,0,none⟩)]∧Sat R (intB b1 0::intB b2 2::Hs) w':=by
 apply call121
 refine new_rule hw fun b1 w hw=>new_rule hw fun b2 w hw=>?_
 have hw:Sat R (intB b1 0::intB b2 0::Hs) w:=Sat.swap hw
 refine store_rule hw (by kernel_rfl) rfl (by simp [Value.cells]) fun w hw=>?_
 have hw:=(hw.re (intB b1 0)).swap
 refine store_rule hw (by kernel_rfl) rfl (by simp [Value.cells]) fun w hw=>?_
 have hw:=(hw.re (intB b2 2)).swap
 exact ⟨b1,b2,rfl,hw⟩
theorem wadd_spec {b1 b2:Nat} {s k d:Int} (hs:0≤s∧s<31) (hk:0≤k∧k≤100) (hd:0≤d∧d<31) (hw:Sat R (intB b1 s::intB b2 k::Hs) w):
  Gets Tryz.prog 158 #[.int .i64 d,.pointer (some ⟨b1,0,none⟩),.pointer (some ⟨b2,0,none⟩)] w fun v w'=>v=.int .i64 ((s + k * d) % 31)∧Sat R (intB b1 ((s + k * d) % 31)::intB b2 (k + 1)::Hs) w':=by
 have hkd:0≤k * d∧k * d≤100 * 31:=⟨Int.mul_nonneg hk.1 hd.1,Int.mul_le_mul hk.2 (by omega) hd.1 (by omega)⟩
 apply call158
 refine NilP.mk rfl ⟨s,At.own (eqS hw) (by exact ⟨rfl,trivial⟩),NilP.mk rfl ⟨k,At.own (eqS hw) (by exact ⟨rfl,trivial⟩),?_⟩⟩
 rw [wrap64 (x:=k * d) (by omega) (by omega),wrap64 (x:=s + k * d) (by omega) (by omega),Int.tmod_eq_emod_of_nonneg (by omega)]
 refine store_rule hw (by kernel_rfl) rfl (by simp [Value.cells]) fun w hw=>?_
 have hw:=(hw.re (intB b1 ((s + k * d) % 31))).swap
 refine NilP.mk rfl ⟨k,At.own (eqS hw) (by exact ⟨rfl,trivial⟩),?_⟩
 rw [wrap64 (x:=k + 1) (by omega) (by omega)]
 refine store_rule hw (by kernel_rfl) rfl (by simp [Value.cells]) fun w hw=>?_
 have hw:=(hw.re (intB b2 (k + 1))).swap
 exact NilP.mk rfl ⟨_,At.own (eqS hw) (by exact ⟨rfl,trivial⟩),rfl,hw⟩
theorem wsum_step {l:List Int} {d:Int} {k:Nat} (hk:l.length=k):(wsum 2 l % 31 + (2 + (k:Int)) * d) % 31=wsum 2 (l++[d]) % 31:=by
 rw [wsum_app,hk]
 simp only [wsum,Int.add_zero]
 rw [Int.emod_add_emod]
theorem p31 {k:Nat} (h:k<5):(31:Int) ^ k≤923521:=by
 rcases (show k=0∨k=1∨k=2∨k=3∨k=4 by omega) with rfl|rfl|rfl|rfl|rfl<;>simp
theorem locRd_no {bs:List Int} (h:∃ c∈bs,worthT c<0):locRd bs=(0,6):=by
 unfold locRd
 rw [if_pos (.inr h)]
theorem worths_bd {l:List Int} (h:∀ c∈l,0≤worthT c):∀ d∈l.map worthT,0≤d∧d<31:=by
 intro d hd
 obtain ⟨c,hc,rfl⟩:=List.mem_map.1 hd
 have h1:=h c hc
 have:=worth_bd c
 omega
theorem lread_spec {s:ByteArray} (hw:Sat R Hs w):Gets Tryz.prog 88 #[.string s] w fun v w'=>v=.tuple #[.int .i64 (locRd (bytesL s)).1,.int .i64 (locRd (bytesL s)).2]∧Sat R Hs w':=by
 apply call88
 suffices H:∀ K:Value→World→Prop,(∀ w',Sat R Hs w'→K (.tuple #[.int .i64 (locRd (bytesL s)).1,.int .i64 (locRd (bytesL s)).2]) w')→B88 s K w from H _ fun w' h=>⟨rfl,h⟩
 intro K hK
 have hbl:=bytesL_len s
 obtain ⟨bs,hbs⟩:∃ bs,bs=bytesL s:=⟨_,rfl⟩
 rw [←hbs] at hK hbl
 refine Br.ne (fun h=>?_) (fun h=>?_)
 ·have:=hK w hw
  unfold locRd at this
  rw [if_pos (.inl (by omega))] at this
  exact this
 have hsz:s.size=6:=by omega
 have hl6:bs.length=6:=by omega
 refine (weighed_spec hw).use ?_
 clear hw
 rintro _ w ⟨b1,b2,rfl,hw⟩
 refine ⟨_,rfl,?_⟩
 refine new_rule hw fun it w hw=>?_
 refine ⟨fun n sum w=>∃ k:Nat,k≤6∧(∀ c∈bs.take k,0≤worthT c)∧n=locN ((bs.take (min k 5)).map worthT)∧sum=wsum 2 ((bs.take (min k 5)).map worthT) % 31∧(k=6→(wsum 2 ((bs.take 5).map worthT) + worthT (bs.getD 5 0)) % 31=0)∧
  Sat R (pts it (.stringIter s k)::intB b1 (wsum 2 ((bs.take (min k 5)).map worthT) % 31)::intB b2 (2 + (min k 5:Nat))::Hs) w,fun _ _ w=>strLeft it w,⟨0,by omega,by simp,by simp [locN],by simp [wsum],by omega,by simpa [wsum] using hw⟩,?_⟩
 clear hw
 rintro _ _ _ w ⟨k,hk,hpos,rfl,rfl,hlast,hw⟩
 have hm:strLeft it w=6 - k:=by rw [strLeft_eq hw,hsz]
 refine nextS_rule hw (fun hlt w hw=>?_) (fun hge=>?_)
 ·rw [hsz] at hlt
  have hkl:k<bs.length:=by omega
  have hxb:0≤bs[k]∧bs[k]<256:=by
   subst hbs
   exact bytesL_bd s _ (List.getElem_mem _)
  have hget:((s.get! k).toNat:Int)=bs[k]:=by subst hbs;exact bytes_get (by omega)
  have err:∀ {w A},worthT bs[k]<0→Sat R (A::intB b1 (wsum 2 ((bs.take (min k 5)).map worthT) % 31)::intB b2 (2 + (min k 5:Nat))::Hs) w→K (.tuple #[.int .i64 0,.int .i64 6]) w:=fun {w A} h hw=>by
   have:=hK w hw.drop.drop.drop
   rw [locRd_no ⟨_,List.getElem_mem hkl,h⟩] at this
   exact this
  by_cases hlo:(s.get! k).toNat<128
  ·rw [dec_lo hlo] at hw ⊢
   dsimp only at hw ⊢
   rw [hget]
   rw [show IntKind.u8.wrap bs[k]=bs[k] by rw [IntKind.wrap_u8];omega]
   refine (sindex_spec hxb hw).use ?_
   clear hw
   rintro _ w ⟨rfl,hw⟩
   have h90:=(ix_worth hxb).2
   refine ⟨_,rfl,fun t w=>(t=true↔worthT bs[k]<0)∧Sat R (pts it (.stringIter s (k + 1))::intB b1 (wsum 2 ((bs.take (min k 5)).map worthT) % 31)::intB b2 (2 + (min k 5:Nat))::Hs) w,?_,?_⟩
   ·exact Br.d (fun h=>⟨⟨fun _=>h,fun _=>rfl⟩,hw⟩) (fun h=>⟨⟨fun h2=>by have:=of_decide_eq_true h2;omega,fun h2=>absurd h2 h⟩,hw⟩)
   clear hw
   rintro _ t w ⟨ht,hw⟩
   refine Br.mk (fun h=>err (ht.1 h) hw) (fun h=>?_)
   have hd0:0≤worthT bs[k]:=by
    rw [←Bool.not_eq_true] at h
    have:¬ worthT bs[k]<0:=fun h2=>h (ht.2 h2)
    omega
   have hdb:0≤worthT bs[k]∧worthT bs[k]<31:=by have:=worth_bd bs[k];omega
   have hpos':∀ c∈bs.take (k + 1),0≤worthT c:=fun c hc=>by
    rw [List.take_add_one,List.getElem?_eq_getElem hkl] at hc
    rcases List.mem_append.1 hc with hc|hc
    ·exact hpos c hc
    ·simp at hc;rw [hc];exact hd0
   have hsb:0≤wsum 2 ((bs.take (min k 5)).map worthT) % 31∧wsum 2 ((bs.take (min k 5)).map worthT) % 31<31:=by omega
   refine Br.d (fun h5=>?_) (fun h5=>?_)
   ·have hk5:k<5:=by omega
    rw [show min k 5=k by omega] at hw hsb ⊢
    have htk:(bs.take k).length=k:=by rw [List.length_take];omega
    have hw:Sat R (intB b1 (wsum 2 ((bs.take k).map worthT) % 31)::intB b2 (2 + (k:Int))::pts it (.stringIter s (k + 1))::Hs) w:=hw.arr
    have hadd:CalW Tryz.prog cl (.func (.func 158) #[] #[.pointer (some ⟨b1,0,none⟩),.pointer (some ⟨b2,0,none⟩)]) [.int .i64 (worthT bs[k])] w fun e w'=>e=.returned (.int .i64 ((wsum 2 ((bs.take k).map worthT) % 31 + (2 + (k:Int)) * worthT bs[k]) % 31))∧Sat R (intB b1 ((wsum 2 ((bs.take k).map worthT) % 31 + (2 + (k:Int)) * worthT bs[k]) % 31)::intB b2 (2 + (k:Int) + 1)::pts it (.stringIter s (k + 1))::Hs) w':=
     CalW.mk (by kernel_rfl) ((wadd_spec hsb (by omega) hdb hw).use fun v w' h=>⟨by rw [h.1],h.2⟩)
    refine hadd.mono ?_
    clear hw hadd
    rintro _ w ⟨rfl,hw⟩
    have htk1:(bs.take (k + 1)).map worthT=(bs.take k).map worthT++[worthT bs[k]]:=by
     rw [List.take_add_one,List.getElem?_eq_getElem hkl,List.map_append];rfl
    rw [wsum_step (by rw [List.length_map,htk]),←htk1] at hw ⊢
    have hnb:=locN_bd (worths_bd hpos)
    rw [List.length_map,htk] at hnb
    have hp31:=p31 hk5
    refine ⟨_,rfl,⟨k + 1,by omega,hpos',?_,?_,fun h=>by omega,?_⟩,?_⟩
    ·rw [show min (k + 1) 5=k + 1 by omega,htk1,locN_app,wrap64 (x:=locN ((bs.take k).map worthT) * 31) (by omega) (by omega),wrap64 (by omega) (by omega)]
    ·rw [show min (k + 1) 5=k + 1 by omega]
    ·rw [show min (k + 1) 5=k + 1 by omega,show (2:Int) + ((k + 1:Nat):Int)=2 + (k:Int) + 1 by omega]
     exact hw.arr
    ·have hw:Sat R (pts it (.stringIter s (k + 1))::intB b1 (wsum 2 ((bs.take (k + 1)).map worthT) % 31)::intB b2 (2 + (k:Int) + 1)::Hs) w:=hw.arr
     rw [strLeft_eq hw,hsz,hm]
     omega
   ·have hk5:k=5:=by omega
    subst hk5
    rw [show min 5 5=5 from rfl] at hw hsb
    have hx5:bs.getD 5 0=bs[5]:=by rw [List.getD_eq_getElem?_getD,List.getElem?_eq_getElem hkl];rfl
    have e1:(wsum 2 ((bs.take 5).map worthT) % 31 + worthT bs[5]) % 31=(wsum 2 ((bs.take 5).map worthT) + worthT (bs.getD 5 0)) % 31:=by rw [hx5];omega
    rw [show min 5 5=5 from rfl,wrap64 (by omega) (by omega),Int.tmod_eq_emod_of_nonneg (by omega)]
    have hall:¬ ∃ c∈bs,worthT c<0:=by
     rintro ⟨c,hc,h⟩
     have:=hpos' c (by rw [List.take_of_length_le (by omega)];exact hc)
     omega
    refine Br.ne (fun hne=>?_) (fun he=>?_)
    ·have:=hK w hw.drop.drop.drop
     unfold locRd at this
     rw [if_neg (fun h=>h.elim (fun h=>h hl6) hall),if_pos (by rw [←e1];exact hne)] at this
     exact this
    ·refine ⟨⟨6,by omega,hpos',by rw [show min 6 5=5 from rfl],by rw [show min 6 5=5 from rfl],fun _=>by rw [←e1];exact he,?_⟩,?_⟩
     ·rw [show min 6 5=5 from rfl]
      exact hw
     ·rw [strLeft_eq hw,hsz,hm]
      omega
  ·have hhi:=dec_hi hlo
   obtain ⟨c,hc⟩:∃ c:Int,c=((Utf8.decode s k).1:Int):=⟨_,rfl⟩
   rw [←hc]
   have hc128:128≤c:=by omega
   have hneg:worthT bs[k]<0:=by
    have:=(ix_worth hxb).2
    omega
   refine (sindex_spec (by rw [IntKind.wrap_u8];omega) hw).use ?_
   clear hw
   rintro _ w ⟨rfl,hw⟩
   refine ⟨_,rfl,fun t w=>t=true∧Sat R (pts it (.stringIter s (k + (Utf8.decode s k).2))::intB b1 (wsum 2 ((bs.take (min k 5)).map worthT) % 31)::intB b2 (2 + (min k 5:Nat))::Hs) w,?_,?_⟩
   ·exact Br.d (fun _=>⟨rfl,hw⟩) (fun _=>⟨decide_eq_true (by omega),hw⟩)
   clear hw
   rintro _ t w ⟨rfl,hw⟩
   exact Br.t rfl (err hneg hw)
 ·have hk6:k=6:=by omega
  subst hk6
  have hall:¬ ∃ c∈bs,worthT c<0:=by
   rintro ⟨c,hc,h⟩
   have:=hpos c (by rw [List.take_of_length_le (by omega)];exact hc)
   omega
  have:=hK w hw.drop.drop.drop
  unfold locRd at this
  rw [if_neg (fun h=>h.elim (fun h=>h hl6) hall),if_neg (fun h=>h (hlast rfl))] at this
  exact this
end Go.Proofs.YtflgboncpbmikaaGreatDoor
/- Package locator: of a number. Condition: none. -/
namespace Go.Proofs.YtflgboncpbmikaaGreatDoor
set_option linter.unusedVariables false
set_option linter.unusedSimpArgs false
open Go Go.VC
open Classical
variable {R:Cx} {Hs Rest:List HP} {w:World}
abbrev outB (b:Nat) (l:List Int):HP:=pts b (.cells (b8 l).toArray 230 (0,0))
abbrev wosB (b:Nat) (l:List Int):HP:=pts b (.cells (intsI l).toArray 231 (0,0))
def stgW:Nat→Int→List Int
 |0,_=>[0,0,0,0,0]
 |1,n=>[0,0,0,0,n % 31]
 |2,n=>[0,0,0,n / 31 % 31,n % 31]
 |3,n=>[0,0,n / 961 % 31,n / 31 % 31,n % 31]
 |4,n=>[0,n / 29791 % 31,n / 961 % 31,n / 31 % 31,n % 31]
 |_,n=>digs n
def stgN:Nat→Int→Int
 |0,n=>n
 |1,n=>n / 31
 |2,n=>n / 961
 |3,n=>n / 29791
 |4,n=>n / 923521
 |_,_=>0
theorem stg_step {n:Int} (h:0≤n∧n<28629151):∀ {k:Nat},k<5→0≤stgN k n∧stgN k n<28629151∧stgN (k + 1) n=stgN k n / 31∧putL (intsI (stgW k n)) (0 + (4 - k)) [.int .i64 (stgN k n % 31)]=intsI (stgW (k + 1) n)
 |0,_=>⟨h.1,h.2,rfl,rfl⟩
 |1,_=>⟨by show 0≤n / 31;omega,by show n / 31<_;omega,by show n / 961=n / 31 / 31;omega,rfl⟩
 |2,_=>⟨by show 0≤n / 961;omega,by show n / 961<_;omega,by show n / 29791=n / 961 / 31;omega,rfl⟩
 |3,_=>⟨by show 0≤n / 29791;omega,by show n / 29791<_;omega,by show n / 923521=n / 29791 / 31;omega,rfl⟩
 |4,_=>⟨by show 0≤n / 923521;omega,by show n / 923521<_;omega,by show 0=n / 923521 / 31;omega,rfl⟩
theorem stgW_len {n:Int}:∀ {k:Nat},k≤5→(stgW k n).length=5
 |0,_=>rfl|1,_=>rfl|2,_=>rfl|3,_=>rfl|4,_=>rfl|5,_=>rfl
def outL (n:Int) (k:Nat):List Int:=((digs n).take k).map signAt++List.replicate (6 - k) 0
theorem outL_step {n:Int}:∀ {k:Nat} (hk:k<5),putL (b8 (outL n k)) (0 + k) [.int .u8 (signAt ((digs n)[k]'hk))]=b8 (outL n (k + 1))
 |0,_=>rfl|1,_=>rfl|2,_=>rfl|3,_=>rfl|4,_=>rfl
theorem outL_end {n:Int}:putL (b8 (outL n 5)) 5 [.int .u8 (signAt (chkD n))]=b8 (locB n):=rfl
theorem outL_len {n:Int}:∀ {k:Nat},k≤5→(b8 (outL n k)).length=6
 |0,_=>rfl|1,_=>rfl|2,_=>rfl|3,_=>rfl|4,_=>rfl|5,_=>rfl
theorem sign_get {d:Int} (h:0≤d∧d<31):signsA[d.toNat]? =some (UInt8.ofNat (signAt d).toNat)∧((UInt8.ofNat (signAt d).toNat).toNat:Int)=signAt d:=by
 have:∀ j:Fin 31,signsA[j.val]? =some (UInt8.ofNat (signB.getD j.val 0).toNat)∧((UInt8.ofNat (signB.getD j.val 0).toNat).toNat:Int)=signB.getD j.val 0:=by decide
 exact this ⟨d.toNat,by omega⟩
set_option maxHeartbeats 1000000 in
theorem lof_spec {n:Int} (hn:0≤n∧n<28629151) (hw:Sat R Hs w):Gets Tryz.prog 112 #[.int .i64 n] w fun v w'=>v=.tuple #[.string (locS n),.int .i64 0]∧Sat R Hs w':=by
 apply call112
 refine ⟨fun w=>Sat R Hs w,Br.d (fun h=>by omega) (fun _=>Br.d (fun h=>by omega) (fun _=>hw)),?_⟩
 clear hw
 rintro _ w hw
 refine new_rule hw fun bo w hw=>new_rule hw fun bw w hw=>?_
 have hw:Sat R (wosB bw (stgW 0 n)::outB bo (outL n 0)::Hs) w:=hw
 refine ⟨fun m i w=>∃ k:Nat,k≤5∧m=stgN k n∧i=4 - (k:Int)∧Sat R (wosB bw (stgW k n)::outB bo (outL n 0)::Hs) w,fun _ i _=>(i + 1).toNat,⟨0,by omega,rfl,rfl,hw⟩,?_⟩
 clear hw
 rintro _ _ _ w ⟨k,hk,rfl,rfl,hw⟩
 refine Br.d (fun h=>?_) (fun h=>?_)
 ·have hk5:k<5:=by omega
  obtain ⟨s1,s2,s3,s4⟩:=stg_step hn hk5
  rw [Int.tmod_eq_emod_of_nonneg s1,Int.tdiv_eq_ediv_of_nonneg s1,wrap64 (x:=stgN k n / 31) (by omega) (by omega),wrap64 (x:=4 - (k:Int) - 1) (by omega) (by omega)]
  refine Rng.mk (by omega) (by omega) ?_
  rw [add_off,show (4 - (k:Int)).toNat=4 - k by omega]
  refine store_rule hw (by kernel_rfl) rfl (by rw [List.length_map,stgW_len (by omega)];show 0 + (4 - k) + 1≤5;omega) fun w hw=>?_
  have hw:Sat R (wosB bw (stgW (k + 1) n)::outB bo (outL n 0)::Hs) w:=by
   unfold wosB
   rw [←s4]
   exact hw
  exact ⟨⟨k + 1,by omega,s3.symm,by omega,hw⟩,by dsimp only;omega⟩
 ·have hk5:k=5:=by omega
  subst hk5
  refine (weighed_spec hw).use ?_
  clear hw
  rintro _ w ⟨b1,b2,rfl,hw⟩
  have hw:Sat R (intB b1 0::intB b2 2::wosB bw (digs n)::outB bo (outL n 0)::Hs) w:=hw
  have hw:Sat R (wosB bw (digs n)::outB bo (outL n 0)::intB b1 0::intB b2 2::Hs) w:=hw.arr
  have hw0:Sat R (outB bo (outL n 0)::intB b1 0::intB b2 2::wosB bw (digs n)::Hs) w:=hw.arr
  refine ⟨_,rfl,intsI (digs n),rfl,At.own (eqS hw) (by exact ⟨rfl,rfl,rfl,rfl,rfl,trivial⟩),?_⟩
  refine ⟨fun sum i w=>∃ k:Nat,i=k∧k≤5∧sum=wsum 2 ((digs n).take k) % 31∧Sat R (outB bo (outL n k)::intB b1 (wsum 2 ((digs n).take k) % 31)::intB b2 (2 + (k:Int))::wosB bw (digs n)::Hs) w,fun _ i _=>(5 - i).toNat,⟨0,rfl,by omega,rfl,hw0⟩,?_⟩
  clear hw hw0
  rintro _ _ _ w ⟨k,rfl,hk,rfl,hw⟩
  refine Br.d (fun h=>?_) (fun h=>?_)
  ·have hk5:k<5:=by omega
   have hkl:k<(digs n).length:=hk5
   have hd:=digs_bd n _ (List.getElem_mem hkl)
   obtain ⟨g1,g2⟩:=sign_get hd
   refine Rng.mk (by omega) (by omega) ⟨(digs n)[k],?_,_,hd.1,g1,?_⟩
   ·rw [Int.toNat_natCast,List.getElem?_toArray,List.getElem?_map,List.getElem?_eq_getElem hkl]
    rfl
   refine Rng.mk (by omega) (by omega) ?_
   rw [add_off,Int.toNat_natCast,g2]
   refine store_rule hw (by kernel_rfl) rfl (by rw [outL_len (by omega)];show 0 + k + 1≤6;omega) fun w hw=>?_
   have hw:Sat R (outB bo (outL n (k + 1))::intB b1 (wsum 2 ((digs n).take k) % 31)::intB b2 (2 + (k:Int))::wosB bw (digs n)::Hs) w:=by
    unfold outB
    rw [←outL_step (n:=n) hk5]
    exact hw
   have hsb:0≤wsum 2 ((digs n).take k) % 31∧wsum 2 ((digs n).take k) % 31<31:=by omega
   have hw:Sat R (intB b1 (wsum 2 ((digs n).take k) % 31)::intB b2 (2 + (k:Int))::outB bo (outL n (k + 1))::wosB bw (digs n)::Hs) w:=hw.arr
   have hadd:CalW Tryz.prog cl (.func (.func 158) #[] #[.pointer (some ⟨b1,0,none⟩),.pointer (some ⟨b2,0,none⟩)]) [.int .i64 (digs n)[k]] w fun e w'=>e=.returned (.int .i64 ((wsum 2 ((digs n).take k) % 31 + (2 + (k:Int)) * (digs n)[k]) % 31))∧Sat R (intB b1 ((wsum 2 ((digs n).take k) % 31 + (2 + (k:Int)) * (digs n)[k]) % 31)::intB b2 (2 + (k:Int) + 1)::outB bo (outL n (k + 1))::wosB bw (digs n)::Hs) w':=
    CalW.mk (by kernel_rfl) ((wadd_spec hsb (by omega) hd hw).use fun v w' h=>⟨by rw [h.1],h.2⟩)
   refine hadd.mono ?_
   clear hw hadd
   rintro _ w ⟨rfl,hw⟩
   have htk:((digs n).take k).length=k:=by rw [List.length_take];omega
   have htk1:(digs n).take (k + 1)=(digs n).take k++[(digs n)[k]]:=by
    rw [List.take_add_one,List.getElem?_eq_getElem hkl];rfl
   rw [wsum_step htk,←htk1] at hw ⊢
   rw [wrap64 (x:=(k:Int) + 1) (by omega) (by omega)]
   refine ⟨_,rfl,⟨k + 1,by omega,by omega,rfl,?_⟩,by dsimp only;omega⟩
   rw [show (2:Int) + ((k + 1:Nat):Int)=2 + (k:Int) + 1 by omega]
   exact hw.arr
  ·have hk5:k=5:=by omega
   subst hk5
   have hcd:=chkD_bd n
   have e:(31 - wsum 2 ((digs n).take 5) % 31).tmod 31=chkD n:=by
    rw [List.take_of_length_le (by exact Nat.le_refl 5),Int.tmod_eq_emod_of_nonneg (by omega)]
    rfl
   rw [wrap64 (x:=31 - wsum 2 ((digs n).take 5) % 31) (by omega) (by omega),e]
   obtain ⟨g1,g2⟩:=sign_get hcd
   refine ⟨_,hcd.1,g1,?_⟩
   rw [add_off,g2]
   refine store_rule hw (by kernel_rfl) rfl (by rw [outL_len (by omega)];show 0 + 5 + 1≤6;omega) fun w hw=>?_
   have hw:Sat R (outB bo (locB n)::intB b1 (wsum 2 ((digs n).take 5) % 31)::intB b2 (2 + ((5:Nat):Int))::wosB bw (digs n)::Hs) w:=by
    unfold outB
    rw [←outL_end (n:=n)]
    exact hw
   have hw2:Sat R (Own ⟨some ⟨bo,0,none⟩,6,6⟩ 230 (b8 (locB n))::intB b1 (wsum 2 ((digs n).take 5) % 31)::intB b2 (2 + ((5:Nat):Int))::wosB bw (digs n)::Hs) w:=own_lit (n:=6) hw
   obtain ⟨R1,h1,_,h3,_⟩:=Own.lend hw2 (by rw [List.length_map,locB_len];omega)
   refine ⟨_,rfl,VC.strOf (locB n),fun w' e=>?_,?_⟩
   ·rw [show w'=w from e]
    exact convS_ro (s:=⟨some ⟨bo,0,none⟩,6,6⟩) (xs:=locB n) Tryz.underlying22 Tryz.underlying5 Tryz.underlying9 h3 h1
   ·exact ⟨rfl,hw.drop.drop.drop.drop⟩
end Go.Proofs.YtflgboncpbmikaaGreatDoor
/- Package booking: the book in memory, opened at a flight, at a booking; at, named. Condition: none. -/
namespace Go.Proofs.YtflgboncpbmikaaGreatDoor
set_option linter.unusedVariables false
set_option linter.unusedSimpArgs false
open Go Go.VC
open Classical
variable {R:Cx} {Hs Rest:List HP} {w:World}
theorem star_mid {A C:List HP} {x:HP}:Sat R (Star (A++x::C)::Hs) w↔Sat R (x::Star (A++C)::Hs) w:=by
 have hp:((A++x::C)++Hs).Perm (x::((A++C)++Hs)):=List.perm_middle.append_right Hs
 constructor
 ·intro h
  exact ((Sat.star.1 h).perm hp).cons fun _ h=>Sat.star.2 h
 ·intro h
  have h2:Sat R (x::((A++C)++Hs)) w:=h.cons fun _ h=>Sat.star.1 h
  exact Sat.star.2 (h2.perm hp.symm)
theorem fls_mid {A C:List FE} {f q:Nat} {p:Pl}:Sat R (FlsAt (A++(f,q,p)::C)::Hs) w↔Sat R (LoneAt f p.r::QuAt q p.q::FlsAt (A++C)::Hs) w:=by
 unfold FlsAt
 rw [List.map_append,List.map_cons,star_mid,List.map_append]
 exact Sat.star
theorem bks_mid {A C:List BE} {a:Nat} {x:Bk}:Sat R (BksAt (A++(a,x)::C)::Hs) w↔Sat R (pts a (bkObj x)::BksAt (A++C)::Hs) w:=by
 unfold BksAt
 rw [List.map_append,List.map_cons,star_mid,List.map_append]
 exact Iff.rfl
theorem getM_mid {β:Type} {k:Int} {v:β} {a b:List (Int × β)} (h:∀ e∈a,e.1≠k):getM k (a++(k,v)::b)=some v:=getM_app (getM_ne.2 h) (by simp)
theorem delM_mid {β:Type} {k:Int} {v:β} {a b:List (Int × β)} (h:∀ e∈a,e.1≠k):delM k (a++(k,v)::b)=a++b:=delM_app (getM_ne.2 h) (by simp)
structure FlMid (A C:List FE) (n:Int) (p:Pl):Prop where
 num:p.n=n
 a:∀ e∈A,e.2.2.n≠n
 c:∀ e∈C,e.2.2.n≠n
structure BkMid (A C:List BE) (x:Bk):Prop where
 a:∀ e∈A,e.2.id≠x.id
 c:∀ e∈C,e.2.id≠x.id
theorem fl_split {b:Book} {fs:List FE} {xs:List BE} (hl:BookL b fs xs) (c:KRise Pl.n b.fl) {n:Int} {p:Pl} (h:b.at n=some p):∃ A f q C,fs=A++(f,q,p)::C∧FlMid A C n p:=by
 have h1:=kget_some h
 obtain ⟨⟨f,q,p'⟩,he,hp⟩:=List.mem_map.1 (hl.fl.mem_iff.2 h1.1)
 dsimp only at hp
 subst hp
 obtain ⟨A,C,rfl⟩:=List.append_of_mem he
 have hnd:((A++(f,q,p')::C).map fun e=>e.2.2).Pairwise fun a b=>a.n≠b.n:=(hl.fl.pairwise_iff (fun h=>Ne.symm h)).2 (KRise.ne c)
 rw [List.map_append,List.map_cons,List.pairwise_append,List.pairwise_cons] at hnd
 refine ⟨A,f,q,C,rfl,h1.2,fun e he2=>?_,fun e he2=>?_⟩
 ·have:=hnd.2.2 e.2.2 (List.mem_map.2 ⟨e,he2,rfl⟩) p' (by simp)
  rw [←h1.2];exact this
 ·have:=hnd.2.1.1 e.2.2 (List.mem_map.2 ⟨e,he2,rfl⟩)
  rw [←h1.2];exact this.symm
theorem fl_get {A C:List FE} {f q:Nat} {n:Int} {p:Pl} (h:FlMid A C n p):getM n ((A++(f,q,p)::C).map flV)=some (.agg #[.pointer (some ⟨f,0,none⟩),.pointer (some ⟨q,0,none⟩)]):=by
 rw [List.map_append,List.map_cons]
 unfold flV
 dsimp only
 rw [h.num]
 exact getM_mid fun e he=>by
  obtain ⟨e',h1,rfl⟩:=List.mem_map.1 he
  exact h.a e' h1
theorem bk_split {b:Book} {fs:List FE} {xs:List BE} (hl:BookL b fs xs) (c:KRise Bk.id b.L) {x:Bk} (h:x∈b.L):∃ A a C,xs=A++(a,x)::C∧BkMid A C x:=by
 rw [←hl.bk] at h
 obtain ⟨⟨a,x'⟩,he,hp⟩:=List.mem_map.1 h
 dsimp only at hp
 subst hp
 obtain ⟨A,C,rfl⟩:=List.append_of_mem he
 have hnd:((A++(a,x')::C).map fun e=>e.2).Pairwise fun a b=>a.id≠b.id:=by rw [hl.bk];exact KRise.ne c
 rw [List.map_append,List.map_cons,List.pairwise_append,List.pairwise_cons] at hnd
 refine ⟨A,a,C,rfl,fun e he2=>?_,fun e he2=>?_⟩
 ·exact hnd.2.2 e.2 (List.mem_map.2 ⟨e,he2,rfl⟩) x' (by simp)
 ·exact (hnd.2.1.1 e.2 (List.mem_map.2 ⟨e,he2,rfl⟩)).symm
theorem bk_get {A C:List BE} {a:Nat} {x:Bk} (h:BkMid A C x):getM x.id ((A++(a,x)::C).map bkV)=some (.pointer (some ⟨a,0,none⟩)):=by
 rw [List.map_append,List.map_cons]
 exact getM_mid fun e he=>by
  obtain ⟨e',h1,rfl⟩:=List.mem_map.1 he
  exact h.a e' h1
theorem bk_none {b:Book} {fs:List FE} {xs:List BE} (hl:BookL b fs xs) {n:Int}:getM n (xs.map bkV)=none↔b.bk n=none:=by
 unfold Book.bk
 rw [getM_ne,kget_none,←hl.bk]
 constructor
 ·intro h x hx
  obtain ⟨e,he,rfl⟩:=List.mem_map.1 hx
  exact h (bkV e) (List.mem_map.2 ⟨e,he,rfl⟩)
 ·rintro h _ he
  obtain ⟨e,h1,rfl⟩:=List.mem_map.1 he
  exact h e.2 (List.mem_map.2 ⟨e,h1,rfl⟩)
theorem bk_len {b:Book} {fs:List FE} {xs:List BE} (hl:BookL b fs xs):xs.length=b.L.length:=by
 have:=congrArg List.length hl.bk
 rwa [List.length_map] at this
theorem BookL.fset {b:Book} {A C:List FE} {xs:List BE} {f q:Nat} {n:Int} {p:Pl} (hl:BookL b (A++(f,q,p)::C) xs) (h:FlMid A C n p) (g:Pl→Pl):((A++(f,q,g p)::C).map fun e=>e.2.2).Perm (kset Pl.n n g b.fl):=by
 have h1:=hl.fl.map fun x=>if x.n=n then g x else x
 unfold kset
 refine List.Perm.trans (List.Perm.of_eq ?_) h1
 have key:∀ L:List FE,(∀ e∈L,e.2.2.n≠n)→(L.map fun e=>e.2.2).map (fun x=>if x.n=n then g x else x)=L.map fun e=>e.2.2:=fun L hL=>by
  rw [List.map_map]
  refine List.map_congr_left fun e he=>?_
  show (if e.2.2.n=n then _ else _)=_
  rw [if_neg (hL e he)]
 rw [List.map_append,List.map_cons,List.map_append,List.map_cons,List.map_append,List.map_cons,key A h.a,key C h.c]
 rw [if_pos h.num]
theorem BookL.bset {b:Book} {A C:List BE} {fs:List FE} {a:Nat} {x:Bk} (hl:BookL b fs (A++(a,x)::C)) (c:KRise Bk.id b.L) (g:Bk→Bk):(A++(a,g x)::C).map (fun e=>e.2)=kset Bk.id x.id g b.L:=by
 have e:=hl.bk
 rw [List.map_append,List.map_cons] at e ⊢
 rw [←e] at c ⊢
 exact (kset_mid rfl c).symm
theorem BookL.bdel {b:Book} {A C:List BE} {fs:List FE} {a:Nat} {x:Bk} (hl:BookL b fs (A++(a,x)::C)) (c:KRise Bk.id b.L):(A++C).map (fun e=>e.2)=kdel Bk.id x.id b.L:=by
 have e:=hl.bk
 rw [List.map_append,List.map_cons] at e
 rw [List.map_append]
 rw [←e] at c ⊢
 exact (kdel_mid rfl c).symm
theorem fl_vals {A C:List FE} {f q:Nat} {n:Int} {p p':Pl} (h:p.n=n) (h':p'.n=n):(A++(f,q,p')::C).map flV=(A++(f,q,p)::C).map flV:=by
 rw [List.map_append,List.map_append,List.map_cons,List.map_cons]
 unfold flV
 dsimp only
 rw [h,h']
theorem bk_vals {A C:List BE} {a:Nat} {x x':Bk} (h:x'.id=x.id):(A++(a,x')::C).map bkV=(A++(a,x)::C).map bkV:=by
 rw [List.map_append,List.map_append,List.map_cons,List.map_cons]
 unfold bkV
 dsimp only
 rw [h]
theorem bk_vdel {A C:List BE} {a:Nat} {x:Bk} (h:BkMid A C x):delM x.id ((A++(a,x)::C).map bkV)=(A++C).map bkV:=by
 rw [List.map_append,List.map_cons,List.map_append]
 exact delM_mid fun e he=>by
  obtain ⟨e',h1,rfl⟩:=List.mem_map.1 he
  exact h.a e' h1
abbrev plC (b:Nat) (v1 v2:Option Addr):HP:=pts b (.cells [.pointer v1,.pointer v2].toArray 119 (0,0))
theorem fl_shape {n:Int} {fs:List FE}:∃ v1 v2:Option Addr,(getM n (fs.map flV)).getD (.agg #[.pointer none,.pointer none])=.agg #[.pointer v1,.pointer v2]:=by
 cases hgm:getM n (fs.map flV) with
 |none=>exact ⟨none,none,rfl⟩
 |some v=>
  obtain ⟨A,C,e,_⟩:=getM_split hgm
  have:(n,v)∈fs.map flV:=by rw [e];simp
  obtain ⟨x,_,hx⟩:=List.mem_map.1 this
  have hx2:=congrArg Prod.snd hx
  exact ⟨_,_,hx2.symm⟩
theorem bk_shape {n:Int} {xs:List BE}:∃ v:Option Addr,(getM n (xs.map bkV)).getD (.pointer none)=.pointer v:=by
 cases hgm:getM n (xs.map bkV) with
 |none=>exact ⟨none,rfl⟩
 |some v=>
  obtain ⟨A,C,e,_⟩:=getM_split hgm
  have:(n,v)∈xs.map bkV:=by rw [e];simp
  obtain ⟨x,_,hx⟩:=List.mem_map.1 this
  have hx2:=congrArg Prod.snd hx
  exact ⟨_,hx2.symm⟩
theorem bat_spec {p m1 m2:Nat} {b:Book} {fs:List FE} {n:Int} (hw:Sat R (pts p (bookC b m1 m2)::MapAt m1 (fs.map flV)::Hs) w):
  GetsX Tryz.prog 78 #[.pointer (some ⟨p,0,none⟩),.int .i64 n] w
   (fun ch w'=>ch=errP 2∧getM n (fs.map flV)=none∧Sat R (pts p (bookC b m1 m2)::MapAt m1 (fs.map flV)::Hs) w')
   (fun v w'=>(∃ v1 v2,getM n (fs.map flV)=some (.agg #[.pointer v1,.pointer v2])∧v=.agg #[.pointer v1,.pointer v2])∧Sat R (pts p (bookC b m1 m2)::MapAt m1 (fs.map flV)::Hs) w'):=by
 obtain ⟨v1,v2,hv⟩:=fl_shape (n:=n) (fs:=fs)
 apply call78
 refine new_rule hw fun b4 w hw=>?_
 refine NilP.mk rfl ⟨some m1,At.own (eqS hw) (by exact ⟨rfl,trivial⟩),v1,v2,(getM n (fs.map flV)).isSome,fun w' e=>?_,?_⟩
 ·rw [show w'=w from e]
  have hm:Sat R (MapAt m1 (fs.map flV)::pts p (bookC b m1 m2)::plC b4 none none::Hs) w:=hw.arr
  have:=MapAt.look pMap hm n true
  rw [hv] at this
  exact this
 refine new_rule hw fun b5 w hw=>?_
 refine store_rule hw (by kernel_rfl) rfl (by simp [Value.cells]) fun w hw=>?_
 have hw:=hw.re (plC b5 v1 v2)
 refine need_c (fun hn=>.inl ⟨rfl,?_⟩) (fun hn=>.inr ⟨_,rfl,rfl,?_,hw.drop.drop⟩)
 ·refine ⟨v1,v2,At.own (eqS hw) (by exact ⟨rfl,rfl,trivial⟩),?_⟩
  have hw:Sat R (plC b4 none none::plC b5 v1 v2::pts p (bookC b m1 m2)::MapAt m1 (fs.map flV)::Hs) w:=hw.swap
  refine store_rule hw (by kernel_rfl) rfl (by simp [Value.cells]) fun w hw=>?_
  have hw:=hw.re (plC b4 v1 v2)
  refine ⟨v1,v2,At.own (eqS hw) (by exact ⟨rfl,rfl,trivial⟩),⟨v1,v2,?_,rfl⟩,hw.drop.drop⟩
  obtain ⟨v,hs⟩:=Option.isSome_iff_exists.1 hn
  rw [hs] at hv ⊢
  exact congrArg some hv
 ·cases hg:getM n (fs.map flV) with
  |none=>rfl
  |some v=>rw [hg] at hn;cases hn
theorem bnamed_spec {p m1 m2:Nat} {b:Book} {xs:List BE} {s:ByteArray} (hw:Sat R (pts p (bookC b m1 m2)::MapAt m2 (xs.map bkV)::Hs) w):
  GetsX Tryz.prog 52 #[.pointer (some ⟨p,0,none⟩),.string s] w
   (fun ch w'=>(∃ e,ch=errP e∧(((locRd (bytesL s)).2≠0∧e=(locRd (bytesL s)).2)∨((locRd (bytesL s)).2=0∧e=2∧getM (locRd (bytesL s)).1 (xs.map bkV)=none)))∧Sat R (pts p (bookC b m1 m2)::MapAt m2 (xs.map bkV)::Hs) w')
   (fun v w'=>(∃ v1,(locRd (bytesL s)).2=0∧getM (locRd (bytesL s)).1 (xs.map bkV)=some (.pointer v1)∧v=.pointer v1)∧Sat R (pts p (bookC b m1 m2)::MapAt m2 (xs.map bkV)::Hs) w'):=by
 obtain ⟨v1,hv⟩:=bk_shape (n:=(locRd (bytesL s)).1) (xs:=xs)
 apply call52
 refine (lread_spec hw).use ?_
 clear hw
 rintro _ w ⟨rfl,hw⟩
 refine .inl ⟨_,_,rfl,?_⟩
 refine mustE_c (fun h0=>.inl ⟨rfl,?_⟩) (fun h0=>.inr ⟨_,rfl,⟨_,rfl,.inl ⟨h0,rfl⟩⟩,hw⟩)
 refine NilP.mk rfl ⟨some m2,At.own (eqS hw) (by exact ⟨rfl,trivial⟩),v1,(getM (locRd (bytesL s)).1 (xs.map bkV)).isSome,fun w' e=>?_,?_⟩
 ·rw [show w'=w from e]
  have:=MapAt.look bMap hw.swap (locRd (bytesL s)).1 true
  rw [hv] at this
  exact this
 refine need_c (fun hn=>.inl ⟨rfl,⟨v1,h0,?_,rfl⟩,hw⟩) (fun hn=>.inr ⟨_,rfl,⟨_,rfl,.inr ⟨h0,rfl,?_⟩⟩,hw⟩)
 ·obtain ⟨v,hs⟩:=Option.isSome_iff_exists.1 hn
  rw [hs] at hv ⊢
  exact congrArg some hv
 ·cases hg:getM (locRd (bytesL s)).1 (xs.map bkV) with
  |none=>rfl
  |some v=>rw [hg] at hn;cases hn
end Go.Proofs.YtflgboncpbmikaaGreatDoor
/- Package booking: a booking is told. Condition: none. -/
namespace Go.Proofs.YtflgboncpbmikaaGreatDoor
set_option linter.unusedVariables false
set_option linter.unusedSimpArgs false
open Go Go.VC
open Classical
variable {R:Cx} {Hs Rest:List HP} {w:World}
set_option maxHeartbeats 1000000 in
theorem told_spec {p m1 m2 a f q:Nat} {b:Book} {A C:List FE} {x:Bk} {pl:Pl} (hid:0≤x.id∧x.id<28629151) (hm:FlMid A C x.flt pl)
  (hw:Sat R (pts p (bookC b m1 m2)::MapAt m1 ((A++(f,q,pl)::C).map flV)::pts a (bkObj x)::LoneAt f pl.r::Hs) w):
  Gets Tryz.prog 82 #[.pointer (some ⟨p,0,none⟩),.pointer (some ⟨a,0,none⟩)] w fun v w'=>∃ sl sb:Sl,v=.agg (rpV (tellP pl x) sl sb).toArray∧
   Sat R (Own sl 3 (intsI (rleftsF pl.r))::Own sb 9 ((rlabelsF pl.r x.id).map Value.string)::pts p (bookC b m1 m2)::MapAt m1 ((A++(f,q,pl)::C).map flV)::pts a (bkObj x)::LoneAt f pl.r::Hs) w':=by
 obtain ⟨M,hM⟩:∃ M,M=(A++(f,q,pl)::C).map flV:=⟨_,rfl⟩
 have hget:getM x.flt M=some (.agg #[.pointer (some ⟨f,0,none⟩),.pointer (some ⟨q,0,none⟩)]):=by rw [hM];exact fl_get hm
 rw [←hM] at hw ⊢
 apply call82
 refine new_rule hw fun b4 w hw=>?_
 have hw:Sat R (rpNew b4::pts p (bookC b m1 m2)::MapAt m1 M::pts a (bkObj x)::LoneAt f pl.r::Hs) w:=hw
 refine drw_ruleT hw fun w hw=>?_
 refine NilP.mk rfl ⟨some m1,At.own (fun _ h=>h) (by exact ⟨rfl,trivial⟩),NilP.mk rfl ⟨x.flt,At.own (fun _ h=>h) (by exact ⟨rfl,trivial⟩),some ⟨f,0,none⟩,some ⟨q,0,none⟩,fun w' h=>?_,?_⟩⟩
 ·have hm1:Sat R (MapAt m1 M::VC.tru::rpNew b4::pts p (bookC b m1 m2)::pts a (bkObj x)::LoneAt f pl.r::Hs) w':=Sat.arr h
  have:=MapAt.look pMap hm1 x.flt false
  rw [hget] at this
  exact this
 refine new_rule hw fun b5 w hw=>⟨hw.absorb,?_⟩
 refine store_rule hw (by kernel_rfl) rfl (by simp [Value.cells]) fun w hw=>?_
 have hw:=hw.re (plC b5 (some ⟨f,0,none⟩) (some ⟨q,0,none⟩))
 have hw:Sat R (plC b5 (some ⟨f,0,none⟩) (some ⟨q,0,none⟩)::rpNew b4::pts p (bookC b m1 m2)::MapAt m1 M::pts a (bkObj x)::LoneAt f pl.r::Hs) w:=hw.cons fun _ h=>h.drop
 refine NilP.mk rfl ⟨x.id,At.own (eqS hw) (by exact ⟨rfl,trivial⟩),?_⟩
 refine (lof_spec hid hw).use ?_
 clear hw
 rintro _ w ⟨rfl,hw⟩
 refine ⟨_,_,rfl,?_⟩
 refine drw_rule' (Sat R [pts a (bkObj x),plC b5 (some ⟨f,0,none⟩) (some ⟨q,0,none⟩),VC.tru]) hw (fun w hw=>?_) fun w hw=>?_
 ·exact (hw.arr (Hs':=pts a (bkObj x)::plC b5 (some ⟨f,0,none⟩) (some ⟨q,0,none⟩)::rpNew b4::pts p (bookC b m1 m2)::MapAt m1 M::LoneAt f pl.r::Hs)).cons fun _ h=>h.restTru2
 refine NilP.mk rfl ⟨x.state,At.own (fun _ h=>h) (by exact ⟨rfl,trivial⟩),NilP.mk rfl ⟨x.flt,At.own (fun _ h=>h) (by exact ⟨rfl,trivial⟩),NilP.mk rfl ⟨x.cls,At.own (fun _ h=>h) (by exact ⟨rfl,trivial⟩),NilP.mk rfl ⟨x.many,At.own (fun _ h=>h) (by exact ⟨rfl,trivial⟩),NilP.mk rfl ⟨x.till,At.own (fun _ h=>h) (by exact ⟨rfl,trivial⟩),some ⟨f,0,none⟩,At.own (fun _ h=>h) (by exact ⟨rfl,trivial⟩),some ⟨f,0,none⟩,At.own (fun _ h=>h) (by exact ⟨rfl,trivial⟩),NilP.mk rfl ⟨x.id,At.own (fun _ h=>h) (by exact ⟨rfl,trivial⟩),?_⟩⟩⟩⟩⟩⟩
 have hw:Sat R (LoneAt f pl.r::pts a (bkObj x)::plC b5 (some ⟨f,0,none⟩) (some ⟨q,0,none⟩)::rpNew b4::pts p (bookC b m1 m2)::MapAt m1 M::Hs) w:=hw.arr
 refine (lone_left hw).use ?_
 clear hw
 rintro _ w ⟨sl,rfl,hw⟩
 refine ⟨sl,rfl,?_,?_⟩
 ·exact (hw.arr (Hs':=pts a (bkObj x)::plC b5 (some ⟨f,0,none⟩) (some ⟨q,0,none⟩)::Own sl 3 (intsI (rleftsF pl.r))::LoneAt f pl.r::rpNew b4::pts p (bookC b m1 m2)::MapAt m1 M::Hs)).cons fun _ h=>h.restTru2
 have hw:Sat R (LoneAt f pl.r::pts a (bkObj x)::plC b5 (some ⟨f,0,none⟩) (some ⟨q,0,none⟩)::rpNew b4::Own sl 3 (intsI (rleftsF pl.r))::pts p (bookC b m1 m2)::MapAt m1 M::Hs) w:=hw.arr
 refine (lone_labels hw).use ?_
 clear hw
 rintro _ w ⟨sb,rfl,hw⟩
 refine ⟨sb,rfl,?_,?_⟩
 ·exact (hw.arr (Hs':=pts a (bkObj x)::plC b5 (some ⟨f,0,none⟩) (some ⟨q,0,none⟩)::Own sb 9 ((rlabelsF pl.r x.id).map Value.string)::LoneAt f pl.r::rpNew b4::Own sl 3 (intsI (rleftsF pl.r))::pts p (bookC b m1 m2)::MapAt m1 M::Hs)).cons fun _ h=>h.restTru2
 have hw:Sat R (rpNew b4::plC b5 (some ⟨f,0,none⟩) (some ⟨q,0,none⟩)::Own sl 3 (intsI (rleftsF pl.r))::Own sb 9 ((rlabelsF pl.r x.id).map Value.string)::pts p (bookC b m1 m2)::MapAt m1 M::pts a (bkObj x)::LoneAt f pl.r::Hs) w:=hw.arr
 refine store_rule hw (by kernel_rfl) rfl (by simp [Value.cells]) fun w hw=>?_
 have hw:=hw.re (rpC b4 (tellP pl x) sl sb)
 refine ⟨0,locS x.id,x.state,x.flt,x.cls,x.many,x.till,sl,sb,At.own (eqS hw) (by exact ⟨rfl,rfl,rfl,rfl,rfl,rfl,rfl,rfl,rfl,trivial⟩),sl,sb,rfl,hw.drop.drop⟩
end Go.Proofs.YtflgboncpbmikaaGreatDoor
/- Package booking: room is given to those who wait. Condition: none. -/
namespace Go.Proofs.YtflgboncpbmikaaGreatDoor
set_option linter.unusedVariables false
set_option linter.unusedSimpArgs false
open Go Go.VC
open Classical
variable {R:Cx} {Hs Rest:List HP} {w:World}
def quLen (q:Nat) (w:World):Nat:=match w.heap[q]? with
 |some (.cells l _ _)=>(match l[0]? with|some (Value.slice _ n _)=>n|_=>0)
 |_=>0
theorem quLen_eq {q:Nat} {l:List Wt} (hw:Sat R (QuAt q l::Hs) w):quLen q w=l.length:=by
 obtain ⟨s,hw⟩:=Sat.qu.1 hw
 have h:=OwnN.len hw.swap
 rw [List.length_map] at h
 unfold quLen
 rw [hw.at]
 exact h
theorem first_own {q:Nat} {l:List Wt} {sl:Sl} {left:List Int} (hq:QOk l) (hb:left.length≤9223372036854775807) (hw:Sat R (Own sl 3 (intsI left)::QuAt q l::Hs) w):
  Gets Tryz.prog 111 #[.pointer (some ⟨q,0,none⟩),.slice sl.a sl.len sl.cap] w fun v w'=>v=.tuple #[wtA ((qfirst l left).getD zeroW),.bool (qfirst l left).isSome]∧Sat R (QuAt q l::Hs) w':=by
 obtain ⟨R1,e1,g1,hw⟩:=Own.leak hw
 refine (qfirst_spec hq (g1.ro (by rw [List.length_map];exact hb)) hw).use ?_
 clear hw
 rintro _ w ⟨rfl,hw⟩
 exact ⟨_,rfl,rfl,e1.back hw⟩
abbrev fqC (b f q:Nat):HP:=plC b (some ⟨f,0,none⟩) (some ⟨q,0,none⟩)
structure PromI (n:Int) (b:Book) (A C:List FE) (f q:Nat) (MB:List (Int × Value)) (j:Nat) (b':Book) (pl:Pl) (xs:List BE):Prop where
 prom:promote n b=promB j n b'
 len:pl.q.length<j
 core:Core b'
 here:b'.at n=some pl
 now:b'.now=b.now
 next:b'.next=b.next
 book:BookL b' (A++(f,q,pl)::C) xs
 mb:xs.map bkV=MB
abbrev promH (R:Cx) (Hs:List HP) (p m1 m2 f q b4 bw:Nat) (b:Book) (pl:Pl) (A C:List FE) (MF MB:List (Int × Value)) (xs:List BE) (w:World):Prop:=
 Sat R (LoneAt f pl.r::QuAt q pl.q::pts p (bookC b m1 m2)::MapAt m1 MF::MapAt m2 MB::FlsAt (A++C)::BksAt xs::fqC b4 f q::wtD bw ((qfirst pl.q (rleftsF pl.r)).getD zeroW)::Hs) w
theorem lefts_len8 {r:RF} (g:Good r):(rleftsF r).length≤9223372036854775807:=by have:=(lefts_bd g).1;omega
set_option maxHeartbeats 2000000 in
theorem promote_spec {p m1 m2:Nat} {b:Book} {fs:List FE} {xs:List BE} {n:Int} {pl:Pl} (k:Core b) (hl:BookL b fs xs) (hat:b.at n=some pl)
  (hw:Sat R (pts p (bookC b m1 m2)::MapAt m1 (fs.map flV)::MapAt m2 (xs.map bkV)::FlsAt fs::BksAt xs::Hs) w):
  Gets Tryz.prog 81 #[.pointer (some ⟨p,0,none⟩),.int .i64 n] w fun v w'=>v=.tuple #[]∧∃ fs' xs',BookL (promote n b) fs' xs'∧fs'.map flV=fs.map flV∧xs'.map bkV=xs.map bkV∧
   Sat R (pts p (bookC (promote n b) m1 m2)::MapAt m1 (fs.map flV)::MapAt m2 (xs.map bkV)::FlsAt fs'::BksAt xs'::Hs) w':=by
 obtain ⟨A,f,q,C,rfl,hm⟩:=fl_split hl k.nums hat
 obtain ⟨MF,hMF⟩:∃ M,M=(A++(f,q,pl)::C).map flV:=⟨_,rfl⟩
 obtain ⟨MB,hMB⟩:∃ M,M=xs.map bkV:=⟨_,rfl⟩
 have hget:getM n MF=some (.agg #[.pointer (some ⟨f,0,none⟩),.pointer (some ⟨q,0,none⟩)]):=by rw [hMF];exact fl_get hm
 rw [←hMF,←hMB] at hw ⊢
 have hpl:=at_some hat
 apply call81
 refine NilP.mk rfl ⟨some m1,At.own (eqS hw) (by exact ⟨rfl,trivial⟩),some ⟨f,0,none⟩,some ⟨q,0,none⟩,fun w' e=>?_,?_⟩
 ·rw [show w'=w from e]
  have:=MapAt.look pMap hw.swap n false
  rw [hget] at this
  exact this
 refine new_rule hw fun b4 w hw=>?_
 refine store_rule hw (by kernel_rfl) rfl (by simp [Value.cells]) fun w hw=>?_
 have hw:=hw.re (fqC b4 f q)
 have hw:Sat R (FlsAt (A++(f,q,pl)::C)::pts p (bookC b m1 m2)::MapAt m1 MF::MapAt m2 MB::BksAt xs::fqC b4 f q::Hs) w:=hw.arr
 have hw:=fls_mid.1 hw
 have hg:Good pl.r:=k.good pl hpl.1
 have hqok:QOk pl.q:=k.qok pl hpl.1
 have hi0:PromI n b A C f q MB 201 b pl xs:=⟨rfl,by have:=hqok.len;omega,k,hat,rfl,rfl,hl,hMB.symm⟩
 refine ⟨fun w5 fits w=>∃ bw,w5=some ⟨bw,0,none⟩∧fits=(qfirst pl.q (rleftsF pl.r)).isSome∧promH R Hs p m1 m2 f q b4 bw b pl A C MF MB xs w,?_,?_⟩
 ·refine drw_rule' (Sat R [fqC b4 f q,VC.tru]) hw (fun w hw=>?_) fun w hw=>?_
  ·exact (hw.arr (Hs':=fqC b4 f q::LoneAt f pl.r::QuAt q pl.q::FlsAt (A++C)::pts p (bookC b m1 m2)::MapAt m1 MF::MapAt m2 MB::BksAt xs::Hs)).cons fun _ h=>h.allTru
  refine ⟨some ⟨q,0,none⟩,At.own (fun _ h=>h) (by exact ⟨rfl,trivial⟩),some ⟨f,0,none⟩,At.own (fun _ h=>h) (by exact ⟨rfl,trivial⟩),?_,?_⟩
  ·refine (lone_left hw).use ?_
   clear hw
   rintro _ w ⟨sl,rfl,hw⟩
   refine ⟨sl,rfl,?_,?_,?_⟩
   ·exact (hw.arr (Hs':=fqC b4 f q::Own sl 3 (intsI (rleftsF pl.r))::LoneAt f pl.r::QuAt q pl.q::FlsAt (A++C)::pts p (bookC b m1 m2)::MapAt m1 MF::MapAt m2 MB::BksAt xs::Hs)).cons fun _ h=>h.allTru
   ·have hw:Sat R (Own sl 3 (intsI (rleftsF pl.r))::QuAt q pl.q::LoneAt f pl.r::FlsAt (A++C)::pts p (bookC b m1 m2)::MapAt m1 MF::MapAt m2 MB::BksAt xs::fqC b4 f q::Hs) w:=hw.arr
    refine (first_own hqok (lefts_len8 hg) hw).use ?_
    clear hw
    rintro _ w ⟨rfl,hw⟩
    refine ⟨_,_,_,_,_,_,rfl,?_,?_⟩
    ·exact (hw.arr (Hs':=fqC b4 f q::LoneAt f pl.r::QuAt q pl.q::FlsAt (A++C)::pts p (bookC b m1 m2)::MapAt m1 MF::MapAt m2 MB::BksAt xs::Hs)).cons fun _ h=>h.allTru
    refine new_rule hw fun bw w hw=>?_
    have hw:Sat R (wtD bw zeroW::QuAt q pl.q::LoneAt f pl.r::FlsAt (A++C)::pts p (bookC b m1 m2)::MapAt m1 MF::MapAt m2 MB::BksAt xs::fqC b4 f q::Hs) w:=hw
    refine ⟨?_,?_⟩
    ·exact (hw.arr (Hs':=fqC b4 f q::wtD bw zeroW::LoneAt f pl.r::QuAt q pl.q::FlsAt (A++C)::pts p (bookC b m1 m2)::MapAt m1 MF::MapAt m2 MB::BksAt xs::Hs)).cons fun _ h=>h.allTru
    refine store_rule hw (by kernel_rfl) rfl (by simp [Value.cells,wtV]) fun w hw=>?_
    have hw:=hw.re (wtD bw ((qfirst pl.q (rleftsF pl.r)).getD zeroW))
    exact ⟨bw,rfl,rfl,hw.arr⟩
   ·refine new_rule hw fun bw w hw=>?_
    have hw:Sat R (wtD bw zeroW::Own sl 3 (intsI (rleftsF pl.r))::LoneAt f pl.r::QuAt q pl.q::FlsAt (A++C)::pts p (bookC b m1 m2)::MapAt m1 MF::MapAt m2 MB::BksAt xs::fqC b4 f q::Hs) w:=hw
    refine ⟨?_,?_⟩
    ·exact (hw.arr (Hs':=fqC b4 f q::wtD bw zeroW::Own sl 3 (intsI (rleftsF pl.r))::LoneAt f pl.r::QuAt q pl.q::FlsAt (A++C)::pts p (bookC b m1 m2)::MapAt m1 MF::MapAt m2 MB::BksAt xs::Hs)).cons fun _ h=>h.allTru
    have hw:Sat R (wtD bw zeroW::Own sl 3 (intsI (rleftsF pl.r))::LoneAt f pl.r::QuAt q pl.q::FlsAt (A++C)::pts p (bookC b m1 m2)::MapAt m1 MF::MapAt m2 MB::BksAt xs::fqC b4 f q::Hs) w:=hw
    have hw:Sat R (Own sl 3 (intsI (rleftsF pl.r))::QuAt q pl.q::wtD bw zeroW::LoneAt f pl.r::FlsAt (A++C)::pts p (bookC b m1 m2)::MapAt m1 MF::MapAt m2 MB::BksAt xs::fqC b4 f q::Hs) w:=hw.arr
    refine (first_own hqok (lefts_len8 hg) hw).use ?_
    clear hw
    rintro _ w ⟨rfl,hw⟩
    refine ⟨_,_,_,_,_,_,rfl,?_,?_⟩
    ·exact (hw.arr (Hs':=fqC b4 f q::wtD bw zeroW::LoneAt f pl.r::QuAt q pl.q::FlsAt (A++C)::pts p (bookC b m1 m2)::MapAt m1 MF::MapAt m2 MB::BksAt xs::Hs)).cons fun _ h=>h.allTru
    have hw:Sat R (wtD bw zeroW::QuAt q pl.q::LoneAt f pl.r::FlsAt (A++C)::pts p (bookC b m1 m2)::MapAt m1 MF::MapAt m2 MB::BksAt xs::fqC b4 f q::Hs) w:=hw.arr
    refine store_rule hw (by kernel_rfl) rfl (by simp [Value.cells,wtV]) fun w hw=>?_
    have hw:=hw.re (wtD bw ((qfirst pl.q (rleftsF pl.r)).getD zeroW))
    exact ⟨bw,rfl,rfl,hw.arr⟩
  ·refine new_rule hw fun bw w hw=>?_
   have hw:Sat R (wtD bw zeroW::LoneAt f pl.r::QuAt q pl.q::FlsAt (A++C)::pts p (bookC b m1 m2)::MapAt m1 MF::MapAt m2 MB::BksAt xs::fqC b4 f q::Hs) w:=hw
   refine ⟨?_,?_⟩
   ·exact (hw.arr (Hs':=fqC b4 f q::wtD bw zeroW::LoneAt f pl.r::QuAt q pl.q::FlsAt (A++C)::pts p (bookC b m1 m2)::MapAt m1 MF::MapAt m2 MB::BksAt xs::Hs)).cons fun _ h=>h.allTru
   have hw:Sat R (wtD bw zeroW::LoneAt f pl.r::QuAt q pl.q::FlsAt (A++C)::pts p (bookC b m1 m2)::MapAt m1 MF::MapAt m2 MB::BksAt xs::fqC b4 f q::Hs) w:=hw
   refine (lone_left hw.swap).use ?_
   clear hw
   rintro _ w ⟨sl,rfl,hw⟩
   refine ⟨sl,rfl,?_,?_⟩
   ·exact (hw.arr (Hs':=fqC b4 f q::wtD bw zeroW::Own sl 3 (intsI (rleftsF pl.r))::LoneAt f pl.r::QuAt q pl.q::FlsAt (A++C)::pts p (bookC b m1 m2)::MapAt m1 MF::MapAt m2 MB::BksAt xs::Hs)).cons fun _ h=>h.allTru
   have hw:Sat R (Own sl 3 (intsI (rleftsF pl.r))::QuAt q pl.q::wtD bw zeroW::LoneAt f pl.r::FlsAt (A++C)::pts p (bookC b m1 m2)::MapAt m1 MF::MapAt m2 MB::BksAt xs::fqC b4 f q::Hs) w:=hw.arr
   refine (first_own hqok (lefts_len8 hg) hw).use ?_
   clear hw
   rintro _ w ⟨rfl,hw⟩
   refine ⟨_,_,_,_,_,_,rfl,?_,?_⟩
   ·exact (hw.arr (Hs':=fqC b4 f q::wtD bw zeroW::LoneAt f pl.r::QuAt q pl.q::FlsAt (A++C)::pts p (bookC b m1 m2)::MapAt m1 MF::MapAt m2 MB::BksAt xs::Hs)).cons fun _ h=>h.allTru
   have hw:Sat R (wtD bw zeroW::QuAt q pl.q::LoneAt f pl.r::FlsAt (A++C)::pts p (bookC b m1 m2)::MapAt m1 MF::MapAt m2 MB::BksAt xs::fqC b4 f q::Hs) w:=hw.arr
   refine store_rule hw (by kernel_rfl) rfl (by simp [Value.cells,wtV]) fun w hw=>?_
   have hw:=hw.re (wtD bw ((qfirst pl.q (rleftsF pl.r)).getD zeroW))
   exact ⟨bw,rfl,rfl,hw.arr⟩
 clear hw
 rintro _ _ _ w ⟨bw,rfl,rfl,hw⟩
 refine ⟨fun w5 fits w=>∃ j b' pl xs' bw,PromI n b A C f q MB j b' pl xs'∧w5=some ⟨bw,0,none⟩∧fits=(qfirst pl.q (rleftsF pl.r)).isSome∧promH R Hs p m1 m2 f q b4 bw b pl A C MF MB xs' w,fun _ _ w=>quLen q w,⟨201,b,pl,xs,bw,hi0,rfl,rfl,hw⟩,?_⟩
 clear hw hi0 hqok hg hpl
 rintro _ _ _ w ⟨j,b',pl',xs',bw,hi,rfl,rfl,hw⟩
 have hql:quLen q w=pl'.q.length:=quLen_eq hw.swap
 have hpl:=at_some hi.here
 have hg:=hi.core.good pl' hpl.1
 have hqok:=hi.core.qok pl' hpl.1
 have hm':FlMid A C n pl':=⟨hpl.2,hm.a,hm.c⟩
 obtain ⟨j,rfl⟩:∃ i,j=i + 1:=⟨j - 1,by have:=hi.len;omega⟩
 have hprom:=hi.prom
 unfold promB at hprom
 rw [hi.here] at hprom
 dsimp only at hprom
 cases hf:qfirst pl'.q (rleftsF pl'.r) with
 |none=>
  rw [hf] at hprom
  dsimp only at hprom
  refine Br.f rfl ⟨rfl,A++(f,q,pl')::C,xs',?_,?_,hi.mb,?_⟩
  ·rw [hprom];exact hi.book
  ·rw [hMF];exact fl_vals hm.num hpl.2
  ·rw [hprom,show bookC b' m1 m2=bookC b m1 m2 by unfold bookC;rw [hi.now,hi.next]]
   have hw:Sat R (LoneAt f pl'.r::QuAt q pl'.q::FlsAt (A++C)::pts p (bookC b m1 m2)::MapAt m1 MF::MapAt m2 MB::BksAt xs'::fqC b4 f q::wtD bw ((qfirst pl'.q (rleftsF pl'.r)).getD zeroW)::Hs) w:=hw.arr
   have hw:=fls_mid.2 hw
   have hw:Sat R (pts p (bookC b m1 m2)::MapAt m1 MF::MapAt m2 MB::FlsAt (A++(f,q,pl')::C)::BksAt xs'::fqC b4 f q::wtD bw ((qfirst pl'.q (rleftsF pl'.r)).getD zeroW)::Hs) w:=hw.arr
   exact hw.cons fun _ h=>h.cons fun _ h=>h.cons fun _ h=>h.cons fun _ h=>h.cons fun _ h=>h.drop.drop
 |some x=>
  rw [hf] at hprom
  dsimp only at hprom
  obtain ⟨hx,hfit,htk⟩:=fit_take hi.core hpl.1 hf
  obtain ⟨y,hyL,hyid,hyf,hys,hyc,hym⟩:=hi.core.waits hpl.1 hx
  obtain ⟨A2,a,C2,rfl,hbm⟩:=bk_split hi.book hi.core.ids hyL
  have hgetb:getM x.id MB=some (.pointer (some ⟨a,0,none⟩)):=by rw [←hi.mb,←hyid];exact bk_get hbm
  have hhas:hasQ x.id pl'.q=true:=hasQ_iff.2 ⟨x,hx,rfl⟩
  have hrem:qrem pl'.q x.id=(delQ x.id pl'.q,0):=by unfold qrem;rw [if_pos hhas]
  have hdl:=delQ_len hhas
  have hw:Sat R (LoneAt f pl'.r::QuAt q pl'.q::pts p (bookC b m1 m2)::MapAt m1 MF::MapAt m2 MB::FlsAt (A++C)::BksAt (A2++(a,y)::C2)::fqC b4 f q::wtD bw x::Hs) w:=by
   have:=hw
   unfold promH at this
   rw [hf] at this
   exact this
  refine Br.t rfl ⟨some ⟨q,0,none⟩,At.own (eqS hw) (by exact ⟨rfl,trivial⟩),NilP.mk rfl ⟨x.id,At.own (eqS hw) (by exact ⟨rfl,trivial⟩),?_⟩⟩
  refine (qremove_spec (by have:=hqok.len;omega) hw.swap).use ?_
  clear hw
  rintro _ w ⟨rfl,hw⟩
  rw [hrem] at hw ⊢
  refine ⟨_,rfl,some ⟨f,0,none⟩,At.own (eqS hw) (by exact ⟨rfl,trivial⟩),NilP.mk rfl ⟨x.id,At.own (eqS hw) (by exact ⟨rfl,trivial⟩),NilP.mk rfl ⟨x.cls,At.own (eqS hw) (by exact ⟨rfl,trivial⟩),NilP.mk rfl ⟨x.many,At.own (eqS hw) (by exact ⟨rfl,trivial⟩),?_⟩⟩⟩⟩
  refine (lone_take hw.swap).use ?_
  clear hw
  rintro _ w ⟨rfl,hw⟩
  refine ⟨_,rfl,?_⟩
  refine drw_rule hw fun w hw=>NilP.mk rfl ⟨some m2,At.own (fun _ h=>h) (by exact ⟨rfl,trivial⟩),NilP.mk rfl ⟨x.id,At.own (fun _ h=>h) (by exact ⟨rfl,trivial⟩),some ⟨a,0,none⟩,fun w' h=>?_,NilP.mk rfl ?_⟩⟩
  ·have hm1:Sat R (MapAt m2 MB::LoneAt f (rtakeF pl'.r x.id x.cls x.many).1::QuAt q (delQ x.id pl'.q)::pts p (bookC b m1 m2)::MapAt m1 MF::FlsAt (A++C)::BksAt (A2++(a,y)::C2)::fqC b4 f q::wtD bw x::Hs) w':=Sat.arr h
   have:=MapAt.look bMap hm1 x.id false
   rw [hgetb] at this
   exact this
  have hw:Sat R (BksAt (A2++(a,y)::C2)::LoneAt f (rtakeF pl'.r x.id x.cls x.many).1::QuAt q (delQ x.id pl'.q)::pts p (bookC b m1 m2)::MapAt m1 MF::MapAt m2 MB::FlsAt (A++C)::fqC b4 f q::wtD bw x::Hs) w:=hw.arr
  have hw:=bks_mid.1 hw
  refine store_rule hw (by kernel_rfl) rfl (by simp [Value.cells]) fun w hw=>?_
  have hw:=bks_mid.2 (hw.re (pts a (bkObj (bookX y))))
  refine NilP.mk rfl ⟨x.id,x.cls,x.many,x.time,x.sc,At.own (eqS hw) (by exact ⟨rfl,rfl,rfl,rfl,rfl,trivial⟩),?_⟩
  refine new_rule hw fun bw2 w hw=>?_
  refine store_rule hw (by kernel_rfl) rfl (by simp [Value.cells]) fun w hw=>?_
  have hw:=hw.re (wtD bw2 x)
  have hcore:Core (moveB b' n x):=core_move hi.core hpl.1 hpl.2 hf
  have hat2:(moveB b' n x).at n=some (takeW x pl'):=move_at hi.core hi.here
  have hpl2:=at_some hat2
  have hi2:PromI n b A C f q MB j (moveB b' n x) (takeW x pl') (A2++(a,bookX y)::C2):=
   ⟨hprom,by have:=hi.len;show (delQ x.id pl'.q).length<j;omega,hcore,hat2,hi.now,hi.next,⟨hi.book.fset hm' (takeW x),by
    have:=hi.book.bset hi.core.ids bookX
    rw [hyid] at this
    exact this⟩,(bk_vals (show (bookX y).id=y.id from rfl)).trans hi.mb⟩
  obtain ⟨pl2,hpe⟩:∃ pl2,pl2=takeW x pl':=⟨_,rfl⟩
  have hw:Sat R (LoneAt f pl2.r::QuAt q pl2.q::wtD bw2 x::pts p (bookC b m1 m2)::MapAt m1 MF::MapAt m2 MB::FlsAt (A++C)::BksAt (A2++(a,bookX y)::C2)::fqC b4 f q::wtD bw x::Hs) w:=by
   have hw:Sat R (wtD bw2 x::BksAt (A2++(a,bookX y)::C2)::LoneAt f pl2.r::QuAt q pl2.q::pts p (bookC b m1 m2)::MapAt m1 MF::MapAt m2 MB::FlsAt (A++C)::fqC b4 f q::wtD bw x::Hs) w:=by
    rw [hpe];exact hw
   exact hw.arr
  have hql2:pl2.q.length + 1=pl'.q.length:=by rw [hpe];exact hdl
  rw [←hpe] at hi2 hat2 hpl2
  have hg2:=hcore.good pl2 hpl2.1
  have hqok2:=hcore.qok pl2 hpl2.1
  clear hpe
  refine drw_rule' (Sat R [fqC b4 f q,VC.tru]) hw (fun w hw=>?_) fun w hw=>?_
  ·exact (hw.arr (Hs':=fqC b4 f q::LoneAt f pl2.r::QuAt q pl2.q::wtD bw2 x::pts p (bookC b m1 m2)::MapAt m1 MF::MapAt m2 MB::FlsAt (A++C)::BksAt (A2++(a,bookX y)::C2)::wtD bw x::Hs)).cons fun _ h=>h.allTru
  refine ⟨some ⟨q,0,none⟩,At.own (fun _ h=>h) (by exact ⟨rfl,trivial⟩),some ⟨f,0,none⟩,At.own (fun _ h=>h) (by exact ⟨rfl,trivial⟩),?_⟩
  refine (lone_left hw).use ?_
  clear hw
  rintro _ w ⟨sl,rfl,hw⟩
  refine ⟨sl,rfl,?_,?_⟩
  ·exact (hw.arr (Hs':=fqC b4 f q::Own sl 3 (intsI (rleftsF pl2.r))::LoneAt f pl2.r::QuAt q pl2.q::wtD bw2 x::pts p (bookC b m1 m2)::MapAt m1 MF::MapAt m2 MB::FlsAt (A++C)::BksAt (A2++(a,bookX y)::C2)::wtD bw x::Hs)).cons fun _ h=>h.allTru
  have hw:Sat R (Own sl 3 (intsI (rleftsF pl2.r))::QuAt q pl2.q::wtD bw2 x::LoneAt f pl2.r::pts p (bookC b m1 m2)::MapAt m1 MF::MapAt m2 MB::FlsAt (A++C)::BksAt (A2++(a,bookX y)::C2)::fqC b4 f q::wtD bw x::Hs) w:=hw.arr
  refine (first_own hqok2 (lefts_len8 hg2) hw).use ?_
  clear hw
  rintro _ w ⟨rfl,hw⟩
  refine ⟨_,_,_,_,_,_,rfl,?_,?_⟩
  ·exact (hw.arr (Hs':=fqC b4 f q::LoneAt f pl2.r::QuAt q pl2.q::wtD bw2 x::pts p (bookC b m1 m2)::MapAt m1 MF::MapAt m2 MB::FlsAt (A++C)::BksAt (A2++(a,bookX y)::C2)::wtD bw x::Hs)).cons fun _ h=>h.allTru
  have hw:Sat R (wtD bw2 x::QuAt q pl2.q::LoneAt f pl2.r::pts p (bookC b m1 m2)::MapAt m1 MF::MapAt m2 MB::FlsAt (A++C)::BksAt (A2++(a,bookX y)::C2)::fqC b4 f q::wtD bw x::Hs) w:=hw.arr
  refine store_rule hw (by kernel_rfl) rfl (by simp [Value.cells,wtV]) fun w hw=>?_
  have hw:=hw.re (wtD bw2 ((qfirst pl2.q (rleftsF pl2.r)).getD zeroW))
  have hw:Sat R (wtD bw x::LoneAt f pl2.r::QuAt q pl2.q::pts p (bookC b m1 m2)::MapAt m1 MF::MapAt m2 MB::FlsAt (A++C)::BksAt (A2++(a,bookX y)::C2)::fqC b4 f q::wtD bw2 ((qfirst pl2.q (rleftsF pl2.r)).getD zeroW)::Hs) w:=hw.arr
  have hw:=hw.drop
  refine ⟨⟨j,_,pl2,_,bw2,hi2,rfl,rfl,hw⟩,?_⟩
  show quLen q _<quLen q _
  rw [quLen_eq hw.swap,hql]
  omega
end Go.Proofs.YtflgboncpbmikaaGreatDoor
/- Package booking: a booking is held. Condition: bounds. -/
namespace Go.Proofs.YtflgboncpbmikaaGreatDoor
set_option linter.unusedVariables false
set_option linter.unusedSimpArgs false
open Go Go.VC
open Classical
variable {R:Cx} {Hs Rest:List HP} {w:World}
theorem book_close {p m1 m2 f q:Nat} {b:Book} {A C:List FE} {xs:List BE} {pl:Pl} (hl:BookL b (A++(f,q,pl)::C) xs) {MF MB:List (Int × Value)} (hF:MF=(A++(f,q,pl)::C).map flV) (hB:MB=xs.map bkV)
  (hw:Sat R (LoneAt f pl.r::QuAt q pl.q::pts p (bookC b m1 m2)::MapAt m1 MF::MapAt m2 MB::FlsAt (A++C)::BksAt xs::Hs) w):Sat R (BookAt p b::Hs) w:=by
 subst hF hB
 have hw:Sat R (LoneAt f pl.r::QuAt q pl.q::FlsAt (A++C)::pts p (bookC b m1 m2)::MapAt m1 ((A++(f,q,pl)::C).map flV)::MapAt m2 (xs.map bkV)::BksAt xs::Hs) w:=hw.arr
 have hw:=fls_mid.2 hw
 have hw:Sat R (pts p (bookC b m1 m2)::MapAt m1 ((A++(f,q,pl)::C).map flV)::MapAt m2 (xs.map bkV)::FlsAt (A++(f,q,pl)::C)::BksAt xs::Hs) w:=hw.arr
 exact Sat.book.2 ⟨m1,m2,_,xs,hl,hw⟩
theorem fl_found {b:Book} {fs:List FE} {xs:List BE} (hl:BookL b fs xs) (k:Core b) {n:Int} {v:Value} (h:getM n (fs.map flV)=some v):
  ∃ A f q C pl,fs=A++(f,q,pl)::C∧FlMid A C n pl∧b.at n=some pl∧v=.agg #[.pointer (some ⟨f,0,none⟩),.pointer (some ⟨q,0,none⟩)]:=by
 cases hat:b.at n with
 |none=>rw [(fl_none hl).2 hat] at h;cases h
 |some pl=>
  obtain ⟨A,f,q,C,rfl,hm⟩:=fl_split hl k.nums hat
  rw [fl_get hm] at h
  exact ⟨A,f,q,C,pl,rfl,hm,rfl,(Option.some.inj h).symm⟩
theorem bk_fresh {b:Book} {fs:List FE} {xs:List BE} (hl:BookL b fs xs) (k:Core b) (v:Value):putM b.next v (xs.map bkV)=xs.map bkV++[(b.next,v)]:=by
 have:getM b.next (xs.map bkV)=none:=by
  rw [bk_none hl]
  unfold Book.bk
  rw [kget_none]
  intro x hx e
  have:=(k.each x hx).id.2
  omega
 unfold putM
 rw [this]
 rfl
theorem bks_snoc {xs:List BE} {a:Nat} {x:Bk} (hw:Sat R (pts a (bkObj x)::BksAt xs::Hs) w):Sat R (BksAt (xs++[(a,x)])::Hs) w:=by
 have:Sat R (pts a (bkObj x)::BksAt (xs++[])::Hs) w:=by rw [List.append_nil];exact hw
 exact bks_mid.2 this
set_option maxHeartbeats 2000000 in
theorem ask2_spec {p:Nat} {b:Book} {c:Cm} {sg sp:Sl} (hk:c.kind=2) (k:Core b) (hr:RightC c) (hw:Sat R (BookAt p b::Hs) w):
  GetsX Tryz.prog 48 #[.pointer (some ⟨p,0,none⟩),.agg #[.int .i64 c.kind,.string c.pnr,.int .i64 c.flt,.int .i64 c.cls,.int .i64 c.many,.int .i64 c.time,.float .f64 c.sc,.string c.lab,.int .i64 c.rows,.slice sg.a sg.len sg.cap,.slice sp.a sp.len sp.cap]] w
   (fun ch w'=>∃ e,ch=errP e∧heldB b c=(b,errR e)∧Sat R (BookAt p b::Hs) w')
   (fun v w'=>∃ sl sb:Sl,v=.agg (rpV (heldB b c).2 sl sb).toArray∧Sat R (Own sl 3 (intsI (heldB b c).2.left)::Own sb 9 ((heldB b c).2.labs.map Value.string)::BookAt p (heldB b c).1::Hs) w'):=by
 apply call48
 suffices H:∀ (X:List PanicEntry→World→Prop) (K:Value→World→Prop),(∀ e w',heldB b c=(b,errR e)→Sat R (BookAt p b::Hs) w'→X (errP e) w')→
   (∀ sl sb w',Sat R (Own sl 3 (intsI (heldB b c).2.left)::Own sb 9 ((heldB b c).2.labs.map Value.string)::BookAt p (heldB b c).1::Hs) w'→K (.agg (rpV (heldB b c).2 sl sb).toArray) w')→B48 (some ⟨p,0,none⟩) c.kind c.pnr c.flt c.cls c.many c.time c.sc c.lab c.rows sg sp X K w from
  H _ _ (fun e w' h1 h2=>⟨e,rfl,h1,h2⟩) (fun sl sb w' h2=>⟨sl,sb,rfl,h2⟩)
 intro X K hX hK
 obtain ⟨m1,m2,fs,xs,hl,hw⟩:=Sat.book.1 hw
 have hxl:=bk_len hl
 refine new_rule hw fun b3 w hw=>new_rule hw fun b4 w hw=>?_
 have hw:Sat R (rpNew b4::cmC b3 c sg sp::pts p (bookC b m1 m2)::MapAt m1 (fs.map flV)::MapAt m2 (xs.map bkV)::FlsAt fs::BksAt xs::Hs) w:=hw
 refine ⟨c.flt,At.own (eqS hw) (by exact ⟨rfl,trivial⟩),?_⟩
 have hw:Sat R (pts p (bookC b m1 m2)::MapAt m1 (fs.map flV)::rpNew b4::cmC b3 c sg sp::MapAt m2 (xs.map bkV)::FlsAt fs::BksAt xs::Hs) w:=hw.arr
 refine (bat_spec hw).use ?_ ?_
 rotate_left
 ·clear hw
  rintro _ w ⟨rfl,hno,hw⟩
  refine .inr ⟨_,rfl,hX 2 w ?_ ?_⟩
  ·unfold heldB
   rw [(fl_none hl).1 hno]
  ·have hw:Sat R (rpNew b4::cmC b3 c sg sp::pts p (bookC b m1 m2)::MapAt m1 (fs.map flV)::MapAt m2 (xs.map bkV)::FlsAt fs::BksAt xs::Hs) w:=hw.arr
   exact Sat.book.2 ⟨m1,m2,fs,xs,hl,hw.drop.drop⟩
 clear hw
 rintro _ w ⟨⟨v1,v2,hgm,rfl⟩,hw⟩
 obtain ⟨A,f,q,C,pl,rfl,hm,hat,hv⟩:=fl_found hl k hgm
 simp only [Value.agg.injEq,Array.mk.injEq,List.cons.injEq,Value.pointer.injEq,and_true] at hv
 obtain ⟨rfl,rfl⟩:=hv
 obtain ⟨MF,hMF⟩:∃ M,M=(A++(f,q,pl)::C).map flV:=⟨_,rfl⟩
 obtain ⟨MB,hMB⟩:∃ M,M=xs.map bkV:=⟨_,rfl⟩
 have hMBl:MB.length=b.L.length:=by rw [hMB,List.length_map];exact hxl
 rw [←hMF,←hMB] at hw
 have hw:Sat R (FlsAt (A++(f,q,pl)::C)::cmC b3 c sg sp::rpNew b4::pts p (bookC b m1 m2)::MapAt m1 MF::MapAt m2 MB::BksAt xs::Hs) w:=hw.arr
 have hw:=fls_mid.1 hw
 refine .inl ⟨_,_,rfl,?_⟩
 refine new_rule hw fun b5 w hw=>?_
 refine store_rule hw (by kernel_rfl) rfl (by simp [Value.cells]) fun w hw=>?_
 have hw:=hw.re (fqC b5 f q)
 refine drw_ruleT hw fun w hw=>?_
 refine NilP.mk rfl ⟨b.next,At.own (fun _ h=>h) (by exact ⟨rfl,trivial⟩),c.flt,At.own (fun _ h=>h) (by exact ⟨rfl,trivial⟩),c.cls,At.own (fun _ h=>h) (by exact ⟨rfl,trivial⟩),c.many,At.own (fun _ h=>h) (by exact ⟨rfl,trivial⟩),c.time,At.own (fun _ h=>h) (by exact ⟨rfl,trivial⟩),?_⟩
 refine new_rule hw fun bx w hw=>⟨hw.absorb,?_⟩
 have hw:Sat R (pts bx (bkObj (heldX b c))::fqC b5 f q::LoneAt f pl.r::QuAt q pl.q::FlsAt (A++C)::cmC b3 c sg sp::rpNew b4::pts p (bookC b m1 m2)::MapAt m1 MF::MapAt m2 MB::BksAt xs::Hs) w:=by
  have hw:Sat R (pts bx (bkObj (heldX b c))::VC.tru::fqC b5 f q::LoneAt f pl.r::QuAt q pl.q::FlsAt (A++C)::cmC b3 c sg sp::rpNew b4::pts p (bookC b m1 m2)::MapAt m1 MF::MapAt m2 MB::BksAt xs::Hs) w:=hw
  exact hw.cons fun _ h=>h.drop
 have close:∀ {w},Sat R (pts bx (bkObj (heldX b c))::fqC b5 f q::LoneAt f pl.r::QuAt q pl.q::FlsAt (A++C)::cmC b3 c sg sp::rpNew b4::pts p (bookC b m1 m2)::MapAt m1 MF::MapAt m2 MB::BksAt xs::Hs) w→Sat R (BookAt p b::Hs) w:=fun {w} hw=>by
  have hw:Sat R (pts bx (bkObj (heldX b c))::fqC b5 f q::cmC b3 c sg sp::rpNew b4::LoneAt f pl.r::QuAt q pl.q::pts p (bookC b m1 m2)::MapAt m1 MF::MapAt m2 MB::FlsAt (A++C)::BksAt xs::Hs) w:=hw.arr
  exact book_close hl hMF hMB hw.drop.drop.drop.drop
 have hheld:∀ {e},heldB b c=e↔(if c.time≤b.now then (b,errR 1) else if b.full then (b,errR 3)
   else if (rtakeF pl.r b.next c.cls c.many).2≠0 then (b,errR (rtakeF pl.r b.next c.cls c.many).2)
   else ({ b.put c.flt (takeP b.next c.cls c.many) (b.L++[heldX b c]) with next:=b.next + 1 },tellP (takeP b.next c.cls c.many pl) (heldX b c)))=e:=by
  intro e
  unfold heldB
  rw [hat]
 refine ⟨fun w=>¬ c.time≤b.now∧Sat R (pts bx (bkObj (heldX b c))::fqC b5 f q::LoneAt f pl.r::QuAt q pl.q::FlsAt (A++C)::cmC b3 c sg sp::rpNew b4::pts p (bookC b m1 m2)::MapAt m1 MF::MapAt m2 MB::BksAt xs::Hs) w,?_,?_⟩
 ·refine ⟨c.kind,At.own (eqS hw) (by exact ⟨rfl,trivial⟩),Br.e (fun _=>?_) (fun h=>absurd hk h)⟩
  refine drw_rule hw fun w hw=>⟨c.time,At.own (fun _ h=>h) (by exact ⟨rfl,trivial⟩),NilP.mk rfl ⟨b.now,At.own (fun _ h=>h) (by exact ⟨rfl,trivial⟩),?_⟩⟩
  refine need_c (fun h=>.inl ⟨rfl,hw,?_,hw⟩) (fun h=>.inr ⟨_,rfl,hX 1 w ?_ (close hw)⟩)
  ·have:=of_decide_eq_true h;omega
  ·have:=of_decide_eq_false h
   exact hheld.2 (by rw [if_pos (by omega)])
 clear hw
 rintro _ w ⟨ht,hw⟩
 refine ⟨fun w=>¬ b.full∧Sat R (pts bx (bkObj (heldX b c))::fqC b5 f q::LoneAt f pl.r::QuAt q pl.q::FlsAt (A++C)::cmC b3 c sg sp::rpNew b4::pts p (bookC b m1 m2)::MapAt m1 MF::MapAt m2 MB::BksAt xs::Hs) w,?_,?_⟩
 ·refine NilP.mk rfl ⟨some m2,At.own (eqS hw) (by exact ⟨rfl,trivial⟩),(MB.length:Int),fun w' e=>?_,?_⟩
  ·rw [show w'=w from e]
   have hm1:Sat R (MapAt m2 MB::pts bx (bkObj (heldX b c))::fqC b5 f q::LoneAt f pl.r::QuAt q pl.q::FlsAt (A++C)::cmC b3 c sg sp::rpNew b4::pts p (bookC b m1 m2)::MapAt m1 MF::BksAt xs::Hs) w:=hw.arr
   exact MapAt.len (by kernel_rfl) hm1
  rw [hMBl]
  with_reducible refine Br.d (fun h3=>?_) (fun h3=>?_)
  ·refine NilP.mk rfl ⟨b.next,At.own (eqS hw) (by exact ⟨rfl,trivial⟩),?_⟩
   refine need_c (fun h=>.inl ⟨rfl,?_,hw⟩) (fun h=>.inr ⟨_,rfl,hX 3 w ?_ (close hw)⟩)
   ·have:=of_decide_eq_true h
    unfold Book.full
    omega
   ·have:=of_decide_eq_false h
    exact hheld.2 (by rw [if_neg ht,if_pos (.inr (by omega))])
  ·exact need_c (fun h=>by cases h) (fun h=>.inr ⟨_,rfl,hX 3 w (hheld.2 (by rw [if_neg ht,if_pos (.inl (by omega))])) (close hw)⟩)
 clear hw
 rintro _ w ⟨hf,hw⟩
 have hnext:=k.next
 have hf2:b.L.length<300∧b.next<28629151:=by unfold Book.full at hf;omega
 obtain ⟨r2,hr2⟩:∃ r2,r2=(rtakeF pl.r b.next c.cls c.many).1:=⟨_,rfl⟩
 refine ⟨fun w=>(rtakeF pl.r b.next c.cls c.many).2=0∧Sat R (pts bx (bkObj (heldX b c))::fqC b5 f q::LoneAt f r2::QuAt q pl.q::FlsAt (A++C)::cmC b3 c sg sp::rpNew b4::pts p (bookC b m1 m2)::MapAt m1 MF::MapAt m2 MB::BksAt xs::Hs) w,?_,?_⟩
 ·refine ⟨c.kind,At.own (eqS hw) (by exact ⟨rfl,trivial⟩),Br.e (fun _=>?_) (fun h=>absurd hk h)⟩
  refine drw_rule' (Sat R [fqC b5 f q,pts bx (bkObj (heldX b c)),VC.tru]) hw (fun w hw=>?_) fun w hw=>?_
  ·exact (hw.arr (Hs':=fqC b5 f q::pts bx (bkObj (heldX b c))::LoneAt f pl.r::QuAt q pl.q::FlsAt (A++C)::cmC b3 c sg sp::rpNew b4::pts p (bookC b m1 m2)::MapAt m1 MF::MapAt m2 MB::BksAt xs::Hs)).cons fun _ h=>h.restTru2
  refine ⟨some ⟨f,0,none⟩,At.own (fun _ h=>h) (by exact ⟨rfl,trivial⟩),b.next,At.own (fun _ h=>h) (by exact ⟨rfl,trivial⟩),c.cls,At.own (fun _ h=>h) (by exact ⟨rfl,trivial⟩),c.many,At.own (fun _ h=>h) (by exact ⟨rfl,trivial⟩),?_⟩
  have hw:Sat R (LoneAt f pl.r::pts bx (bkObj (heldX b c))::fqC b5 f q::QuAt q pl.q::FlsAt (A++C)::cmC b3 c sg sp::rpNew b4::pts p (bookC b m1 m2)::MapAt m1 MF::MapAt m2 MB::BksAt xs::Hs) w:=hw.arr
  refine (lone_take hw).use ?_
  clear hw
  rintro _ w ⟨rfl,hw⟩
  refine .inl ⟨_,rfl,?_⟩
  refine mustE_c (fun h0=>.inl ⟨rfl,?_,h0,?_⟩) (fun h0=>.inr ⟨_,rfl,hX _ w (hheld.2 (by rw [if_neg ht,if_neg hf,if_pos h0])) ?_⟩)
  ·exact (hw.arr (Hs':=fqC b5 f q::pts bx (bkObj (heldX b c))::LoneAt f (rtakeF pl.r b.next c.cls c.many).1::QuAt q pl.q::FlsAt (A++C)::cmC b3 c sg sp::rpNew b4::pts p (bookC b m1 m2)::MapAt m1 MF::MapAt m2 MB::BksAt xs::Hs)).cons fun _ h=>h.restTru2
  ·rw [hr2];exact hw.arr
  ·rw [take_no h0] at hw
   have hw:Sat R (pts bx (bkObj (heldX b c))::fqC b5 f q::LoneAt f pl.r::QuAt q pl.q::FlsAt (A++C)::cmC b3 c sg sp::rpNew b4::pts p (bookC b m1 m2)::MapAt m1 MF::MapAt m2 MB::BksAt xs::Hs) w:=hw.arr
   exact close hw
 clear hw
 rintro _ w ⟨h0,hw⟩
 have hcore:=core_hold k hr hat hf h0
 have hres:heldB b c=({ b.put c.flt (takeP b.next c.cls c.many) (b.L++[heldX b c]) with next:=b.next + 1 },tellP (takeP b.next c.cls c.many pl) (heldX b c)):=hheld.2 (by rw [if_neg ht,if_neg hf,if_neg (fun h=>h h0)])
 obtain ⟨nb,hnb⟩:∃ nb,nb={ b.put c.flt (takeP b.next c.cls c.many) (b.L++[heldX b c]) with next:=b.next + 1 }:=⟨_,rfl⟩
 obtain ⟨pl2,hp2⟩:∃ pl2,pl2=takeP b.next c.cls c.many pl:=⟨_,rfl⟩
 rw [←hnb] at hres hcore
 rw [←hp2] at hres
 have hn2:pl2.n=c.flt:=by rw [hp2];exact (take_num (r:=pl.r) (o:=b.next) (c:=c.cls) (m:=c.many)).1.trans hm.num
 have hm2:FlMid A C c.flt pl2:=⟨hn2,hm.a,hm.c⟩
 have hMF2:MF=(A++(f,q,pl2)::C).map flV:=by rw [hMF];exact fl_vals hn2 hm.num
 have hl2:BookL nb (A++(f,q,pl2)::C) (xs++[(bx,heldX b c)]):=by
  refine ⟨?_,?_⟩
  ·rw [hnb,hp2]
   exact hl.fset hm (takeP b.next c.cls c.many)
  ·rw [hnb,List.map_append,hl.bk]
   rfl
 have hMB2:MB++[(b.next,Value.pointer (some ⟨bx,0,none⟩))]=(xs++[(bx,heldX b c)]).map bkV:=by rw [hMB,List.map_append];rfl
 have hput:putM b.next (.pointer (some ⟨bx,0,none⟩)) MB=MB++[(b.next,Value.pointer (some ⟨bx,0,none⟩))]:=by rw [hMB];exact bk_fresh hl k _
 have hr22:r2=pl2.r:=by rw [hr2,hp2];rfl
 have hq2:pl.q=pl2.q:=by rw [hp2];rfl
 rw [hr22,hq2] at hw
 refine drw_rule hw fun w hw=>NilP.mk rfl ⟨some m2,At.own (fun _ h=>h) (by exact ⟨rfl,trivial⟩),b.next,At.own (fun _ h=>h) (by exact ⟨rfl,trivial⟩),?_⟩
 have hw:Sat R (MapAt m2 MB::pts bx (bkObj (heldX b c))::fqC b5 f q::LoneAt f pl2.r::QuAt q pl2.q::FlsAt (A++C)::cmC b3 c sg sp::rpNew b4::pts p (bookC b m1 m2)::MapAt m1 MF::BksAt xs::Hs) w:=hw.arr
 refine MapAt.put bMap hw b.next (.pointer (some ⟨bx,0,none⟩)) fun w hw=>?_
 rw [hput] at hw
 refine NilP.mk rfl ⟨b.next,At.own (eqS hw) (by exact ⟨rfl,trivial⟩),NilP.mk rfl ?_⟩
 have hw:Sat R (pts p (bookC b m1 m2)::MapAt m2 (MB++[(b.next,Value.pointer (some ⟨bx,0,none⟩))])::pts bx (bkObj (heldX b c))::fqC b5 f q::LoneAt f pl2.r::QuAt q pl2.q::FlsAt (A++C)::cmC b3 c sg sp::rpNew b4::MapAt m1 MF::BksAt xs::Hs) w:=hw.arr
 rw [wrap64 (x:=b.next + 1) (by omega) (by omega)]
 refine store_rule hw (by kernel_rfl) rfl (by simp [Value.cells]) fun w hw=>?_
 have hw:Sat R (pts p (bookC nb m1 m2)::MapAt m2 (MB++[(b.next,Value.pointer (some ⟨bx,0,none⟩))])::pts bx (bkObj (heldX b c))::fqC b5 f q::LoneAt f pl2.r::QuAt q pl2.q::FlsAt (A++C)::cmC b3 c sg sp::rpNew b4::MapAt m1 MF::BksAt xs::Hs) w:=by
  rw [hnb]
  exact hw.re (pts p (bookC { b.put c.flt (takeP b.next c.cls c.many) (b.L++[heldX b c]) with next:=b.next + 1 } m1 m2))
 refine ⟨c.kind,At.own (eqS hw) (by exact ⟨rfl,trivial⟩),Br.e (fun h=>by omega) (fun _=>?_)⟩
 have hw:Sat R (pts p (bookC nb m1 m2)::MapAt m1 ((A++(f,q,pl2)::C).map flV)::pts bx (bkObj (heldX b c))::LoneAt f pl2.r::MapAt m2 (MB++[(b.next,Value.pointer (some ⟨bx,0,none⟩))])::fqC b5 f q::QuAt q pl2.q::FlsAt (A++C)::cmC b3 c sg sp::rpNew b4::BksAt xs::Hs) w:=by
  rw [←hMF2];exact hw.arr
 refine (told_spec (x:=heldX b c) (by show 0≤b.next∧b.next<28629151;omega) hm2 hw).use ?_
 clear hw
 rintro _ w ⟨sl,sb,rfl,hw⟩
 refine .inl ⟨_,_,_,_,_,_,_,sl,sb,rfl,?_⟩
 rw [←hMF2] at hw
 have hw:Sat R (rpNew b4::Own sl 3 (intsI (rleftsF pl2.r))::Own sb 9 ((rlabelsF pl2.r (heldX b c).id).map Value.string)::pts bx (bkObj (heldX b c))::BksAt xs::LoneAt f pl2.r::QuAt q pl2.q::pts p (bookC nb m1 m2)::MapAt m1 MF::MapAt m2 (MB++[(b.next,Value.pointer (some ⟨bx,0,none⟩))])::FlsAt (A++C)::fqC b5 f q::cmC b3 c sg sp::Hs) w:=hw.arr
 refine store_rule hw (by kernel_rfl) rfl (by simp [Value.cells]) fun w hw=>?_
 have hw:=hw.re (rpC b4 (tellP pl2 (heldX b c)) sl sb)
 refine ⟨_,_,_,_,_,_,_,sl,sb,At.own (eqS hw) (by exact ⟨rfl,rfl,rfl,rfl,rfl,rfl,rfl,rfl,rfl,trivial⟩),?_⟩
 have hfin:=hK sl sb w
 rw [hres] at hfin
 refine hfin ?_
 refine hw.drop.cons fun _ hw=>hw.cons fun _ hw=>?_
 have hw:=bks_snoc hw
 have hw:Sat _ (LoneAt f pl2.r::QuAt q pl2.q::pts p (bookC nb m1 m2)::MapAt m1 MF::MapAt m2 (MB++[(b.next,Value.pointer (some ⟨bx,0,none⟩))])::FlsAt (A++C)::BksAt (xs++[(bx,heldX b c)])::fqC b5 f q::cmC b3 c sg sp::Hs) w:=hw.arr
 exact (book_close hl2 hMF2 hMB2 hw).cons fun _ h=>h.drop.drop
end Go.Proofs.YtflgboncpbmikaaGreatDoor
/- Package booking: a booking that waits. Condition: bounds. -/
namespace Go.Proofs.YtflgboncpbmikaaGreatDoor
set_option linter.unusedVariables false
set_option linter.unusedSimpArgs false
open Go Go.VC
open Classical
variable {R:Cx} {Hs Rest:List HP} {w:World}
theorem bk_snoc_get {b:Book} {fs:List FE} {xs:List BE} (hl:BookL b fs xs) (k:Core b) (v:Value):getM b.next (xs.map bkV++[(b.next,v)])=some v:=by
 refine getM_mid fun e he=>?_
 obtain ⟨e',h1,rfl⟩:=List.mem_map.1 he
 have:e'.2∈b.L:=by rw [←hl.bk];exact List.mem_map.2 ⟨e',h1,rfl⟩
 have:=(k.each _ this).id.2
 show e'.2.id≠b.next
 omega
set_option maxHeartbeats 2000000 in
theorem ask7_spec {p:Nat} {b:Book} {c:Cm} {sg sp:Sl} (hk:c.kind=7) (k0:BookOk b) (hr:RightC c) (hsc:c.sc<18446744073709551616) (hw:Sat R (BookAt p b::Hs) w):
  GetsX Tryz.prog 48 #[.pointer (some ⟨p,0,none⟩),.agg #[.int .i64 c.kind,.string c.pnr,.int .i64 c.flt,.int .i64 c.cls,.int .i64 c.many,.int .i64 c.time,.float .f64 c.sc,.string c.lab,.int .i64 c.rows,.slice sg.a sg.len sg.cap,.slice sp.a sp.len sp.cap]] w
   (fun ch w'=>∃ e,ch=errP e∧waitB b c=(b,errR e)∧Sat R (BookAt p b::Hs) w')
   (fun v w'=>∃ sl sb:Sl,v=.agg (rpV (waitB b c).2 sl sb).toArray∧Sat R (Own sl 3 (intsI (waitB b c).2.left)::Own sb 9 ((waitB b c).2.labs.map Value.string)::BookAt p (waitB b c).1::Hs) w'):=by
 apply call48
 suffices H:∀ (X:List PanicEntry→World→Prop) (K:Value→World→Prop),(∀ e w',waitB b c=(b,errR e)→Sat R (BookAt p b::Hs) w'→X (errP e) w')→
   (∀ sl sb w',Sat R (Own sl 3 (intsI (waitB b c).2.left)::Own sb 9 ((waitB b c).2.labs.map Value.string)::BookAt p (waitB b c).1::Hs) w'→K (.agg (rpV (waitB b c).2 sl sb).toArray) w')→B48 (some ⟨p,0,none⟩) c.kind c.pnr c.flt c.cls c.many c.time c.sc c.lab c.rows sg sp X K w from
  H _ _ (fun e w' h1 h2=>⟨e,rfl,h1,h2⟩) (fun sl sb w' h2=>⟨sl,sb,rfl,h2⟩)
 intro X K hX hK
 have k:=k0.core
 obtain ⟨m1,m2,fs,xs,hl,hw⟩:=Sat.book.1 hw
 have hxl:=bk_len hl
 refine new_rule hw fun b3 w hw=>new_rule hw fun b4 w hw=>?_
 have hw:Sat R (rpNew b4::cmC b3 c sg sp::pts p (bookC b m1 m2)::MapAt m1 (fs.map flV)::MapAt m2 (xs.map bkV)::FlsAt fs::BksAt xs::Hs) w:=hw
 refine ⟨c.flt,At.own (eqS hw) (by exact ⟨rfl,trivial⟩),?_⟩
 have hw:Sat R (pts p (bookC b m1 m2)::MapAt m1 (fs.map flV)::rpNew b4::cmC b3 c sg sp::MapAt m2 (xs.map bkV)::FlsAt fs::BksAt xs::Hs) w:=hw.arr
 refine (bat_spec hw).use ?_ ?_
 rotate_left
 ·clear hw
  rintro _ w ⟨rfl,hno,hw⟩
  refine .inr ⟨_,rfl,hX 2 w ?_ ?_⟩
  ·unfold waitB
   rw [(fl_none hl).1 hno]
  ·have hw:Sat R (rpNew b4::cmC b3 c sg sp::pts p (bookC b m1 m2)::MapAt m1 (fs.map flV)::MapAt m2 (xs.map bkV)::FlsAt fs::BksAt xs::Hs) w:=hw.arr
   exact Sat.book.2 ⟨m1,m2,fs,xs,hl,hw.drop.drop⟩
 clear hw
 rintro _ w ⟨⟨v1,v2,hgm,rfl⟩,hw⟩
 obtain ⟨A,f,q,C,pl,rfl,hm,hat,hv⟩:=fl_found hl k hgm
 simp only [Value.agg.injEq,Array.mk.injEq,List.cons.injEq,Value.pointer.injEq,and_true] at hv
 obtain ⟨rfl,rfl⟩:=hv
 obtain ⟨MF,hMF⟩:∃ M,M=(A++(f,q,pl)::C).map flV:=⟨_,rfl⟩
 obtain ⟨MB,hMB⟩:∃ M,M=xs.map bkV:=⟨_,rfl⟩
 have hMBl:MB.length=b.L.length:=by rw [hMB,List.length_map];exact hxl
 rw [←hMF,←hMB] at hw
 have hw:Sat R (FlsAt (A++(f,q,pl)::C)::cmC b3 c sg sp::rpNew b4::pts p (bookC b m1 m2)::MapAt m1 MF::MapAt m2 MB::BksAt xs::Hs) w:=hw.arr
 have hw:=fls_mid.1 hw
 refine .inl ⟨_,_,rfl,?_⟩
 refine new_rule hw fun b5 w hw=>?_
 refine store_rule hw (by kernel_rfl) rfl (by simp [Value.cells]) fun w hw=>?_
 have hw:=hw.re (fqC b5 f q)
 refine drw_ruleT hw fun w hw=>?_
 refine NilP.mk rfl ⟨b.next,At.own (fun _ h=>h) (by exact ⟨rfl,trivial⟩),c.flt,At.own (fun _ h=>h) (by exact ⟨rfl,trivial⟩),c.cls,At.own (fun _ h=>h) (by exact ⟨rfl,trivial⟩),c.many,At.own (fun _ h=>h) (by exact ⟨rfl,trivial⟩),c.time,At.own (fun _ h=>h) (by exact ⟨rfl,trivial⟩),?_⟩
 refine new_rule hw fun bx w hw=>⟨hw.absorb,?_⟩
 have hw:Sat R (pts bx (bkObj (heldX b c))::fqC b5 f q::LoneAt f pl.r::QuAt q pl.q::FlsAt (A++C)::cmC b3 c sg sp::rpNew b4::pts p (bookC b m1 m2)::MapAt m1 MF::MapAt m2 MB::BksAt xs::Hs) w:=by
  have hw:Sat R (pts bx (bkObj (heldX b c))::VC.tru::fqC b5 f q::LoneAt f pl.r::QuAt q pl.q::FlsAt (A++C)::cmC b3 c sg sp::rpNew b4::pts p (bookC b m1 m2)::MapAt m1 MF::MapAt m2 MB::BksAt xs::Hs) w:=hw
  exact hw.cons fun _ h=>h.drop
 have close:∀ {w},Sat R (pts bx (bkObj (heldX b c))::fqC b5 f q::LoneAt f pl.r::QuAt q pl.q::FlsAt (A++C)::cmC b3 c sg sp::rpNew b4::pts p (bookC b m1 m2)::MapAt m1 MF::MapAt m2 MB::BksAt xs::Hs) w→Sat R (BookAt p b::Hs) w:=fun {w} hw=>by
  have hw:Sat R (pts bx (bkObj (heldX b c))::fqC b5 f q::cmC b3 c sg sp::rpNew b4::LoneAt f pl.r::QuAt q pl.q::pts p (bookC b m1 m2)::MapAt m1 MF::MapAt m2 MB::FlsAt (A++C)::BksAt xs::Hs) w:=hw.arr
  exact book_close hl hMF hMB hw.drop.drop.drop.drop
 have hwait:∀ {e},waitB b c=e↔(if (pl.r.lims.length:Int)≤c.cls then (b,errR 1) else if b.full then (b,errR 3)
   else if (qadd pl.q (waitW b c)).2≠0 then (b,errR (qadd pl.q (waitW b c)).2)
   else (promote c.flt (queued b c),match (promote c.flt (queued b c)).bk b.next with
    |none=>errR 0
    |some x=>tellB (promote c.flt (queued b c)) x))=e:=by
  intro e
  unfold waitB
  rw [hat]
  exact Iff.rfl
 have hpl:=at_some hat
 have closeW:∀ {w},Sat R (pts bx (bkObj (waitX b c))::fqC b5 f q::LoneAt f pl.r::QuAt q pl.q::FlsAt (A++C)::cmC b3 c sg sp::rpNew b4::pts p (bookC b m1 m2)::MapAt m1 MF::MapAt m2 MB::BksAt xs::Hs) w→Sat R (BookAt p b::Hs) w:=fun {w} hw=>by
  have hw:Sat R (pts bx (bkObj (waitX b c))::fqC b5 f q::cmC b3 c sg sp::rpNew b4::LoneAt f pl.r::QuAt q pl.q::pts p (bookC b m1 m2)::MapAt m1 MF::MapAt m2 MB::FlsAt (A++C)::BksAt xs::Hs) w:=hw.arr
  exact book_close hl hMF hMB hw.drop.drop.drop.drop
 refine ⟨fun w=>¬ (pl.r.lims.length:Int)≤c.cls∧Sat R (pts bx (bkObj (waitX b c))::fqC b5 f q::LoneAt f pl.r::QuAt q pl.q::FlsAt (A++C)::cmC b3 c sg sp::rpNew b4::pts p (bookC b m1 m2)::MapAt m1 MF::MapAt m2 MB::BksAt xs::Hs) w,?_,?_⟩
 ·refine ⟨c.kind,At.own (eqS hw) (by exact ⟨rfl,trivial⟩),Br.e (fun h=>by omega) (fun _=>?_)⟩
  refine drw_rule' (Sat R [cmC b3 c sg sp,fqC b5 f q,VC.tru]) hw (fun w hw=>?_) fun w hw=>?_
  ·exact (hw.arr (Hs':=cmC b3 c sg sp::fqC b5 f q::pts bx (bkObj (heldX b c))::LoneAt f pl.r::QuAt q pl.q::FlsAt (A++C)::rpNew b4::pts p (bookC b m1 m2)::MapAt m1 MF::MapAt m2 MB::BksAt xs::Hs)).cons fun _ h=>h.restTru2
  refine ⟨c.cls,At.own (fun _ h=>h) (by exact ⟨rfl,trivial⟩),some ⟨f,0,none⟩,At.own (fun _ h=>h) (by exact ⟨rfl,trivial⟩),?_⟩
  have hw:Sat R (LoneAt f pl.r::pts bx (bkObj (heldX b c))::fqC b5 f q::QuAt q pl.q::FlsAt (A++C)::cmC b3 c sg sp::rpNew b4::pts p (bookC b m1 m2)::MapAt m1 MF::MapAt m2 MB::BksAt xs::Hs) w:=hw.arr
  refine (lone_left hw).use ?_
  clear hw
  rintro _ w ⟨sl,rfl,hw⟩
  have hsl:=Own.len hw
  rw [List.length_map,lefts_len] at hsl
  have hw:Sat R (pts bx (bkObj (heldX b c))::fqC b5 f q::LoneAt f pl.r::QuAt q pl.q::FlsAt (A++C)::cmC b3 c sg sp::rpNew b4::pts p (bookC b m1 m2)::MapAt m1 MF::MapAt m2 MB::BksAt xs::Hs) w:=by
   have hw:=hw.drop
   exact hw.arr
  have hS:Sat R [cmC b3 c sg sp,fqC b5 f q,VC.tru] w:=(hw.arr (Hs':=cmC b3 c sg sp::fqC b5 f q::pts bx (bkObj (heldX b c))::LoneAt f pl.r::QuAt q pl.q::FlsAt (A++C)::rpNew b4::pts p (bookC b m1 m2)::MapAt m1 MF::MapAt m2 MB::BksAt xs::Hs)).cons fun _ h=>h.restTru2
  refine .inl ⟨sl,rfl,hS,?_⟩
  refine need_c (fun h=>.inl ⟨rfl,hS,?_⟩) (fun h=>.inr ⟨_,rfl,hX 1 w ?_ (close hw)⟩)
  ·have:=of_decide_eq_true h
   clear hS
   refine store_rule hw (by kernel_rfl) rfl (by simp [Value.cells]) fun w hw=>?_
   refine store_rule hw (by kernel_rfl) rfl (by rw [putL_len];simp [Value.cells]) fun w hw=>?_
   have hw:=hw.re (pts bx (bkObj (waitX b c)))
   exact ⟨by omega,hw⟩
  ·have:=of_decide_eq_false h
   exact hwait.2 (by rw [if_pos (by omega)])
 clear hw
 rintro _ w ⟨ht,hw⟩
 refine ⟨fun w=>¬ b.full∧Sat R (pts bx (bkObj (waitX b c))::fqC b5 f q::LoneAt f pl.r::QuAt q pl.q::FlsAt (A++C)::cmC b3 c sg sp::rpNew b4::pts p (bookC b m1 m2)::MapAt m1 MF::MapAt m2 MB::BksAt xs::Hs) w,?_,?_⟩
 ·refine NilP.mk rfl ⟨some m2,At.own (eqS hw) (by exact ⟨rfl,trivial⟩),(MB.length:Int),fun w' e=>?_,?_⟩
  ·rw [show w'=w from e]
   have hm1:Sat R (MapAt m2 MB::pts bx (bkObj (waitX b c))::fqC b5 f q::LoneAt f pl.r::QuAt q pl.q::FlsAt (A++C)::cmC b3 c sg sp::rpNew b4::pts p (bookC b m1 m2)::MapAt m1 MF::BksAt xs::Hs) w:=hw.arr
   exact MapAt.len (by kernel_rfl) hm1
  rw [hMBl]
  with_reducible refine Br.d (fun h3=>?_) (fun h3=>?_)
  ·refine NilP.mk rfl ⟨b.next,At.own (eqS hw) (by exact ⟨rfl,trivial⟩),?_⟩
   refine need_c (fun h=>.inl ⟨rfl,?_,hw⟩) (fun h=>.inr ⟨_,rfl,hX 3 w ?_ (closeW hw)⟩)
   ·have:=of_decide_eq_true h
    unfold Book.full
    omega
   ·have:=of_decide_eq_false h
    exact hwait.2 (by rw [if_neg ht,if_pos (.inr (by omega))])
  ·exact need_c (fun h=>by cases h) (fun h=>.inr ⟨_,rfl,hX 3 w (hwait.2 (by rw [if_neg ht,if_pos (.inl (by omega))])) (closeW hw)⟩)
 clear hw
 rintro _ w ⟨hf,hw⟩
 have hnext:=k.next
 have hf2:b.L.length<300∧b.next<28629151:=by unfold Book.full at hf;omega
 have hqok:=k.qok pl hpl.1
 obtain ⟨q2,hq2⟩:∃ q2,q2=(qadd pl.q (waitW b c)).1:=⟨_,rfl⟩
 refine ⟨fun w=>(qadd pl.q (waitW b c)).2=0∧Sat R (pts bx (bkObj (waitX b c))::fqC b5 f q::LoneAt f pl.r::QuAt q q2::FlsAt (A++C)::cmC b3 c sg sp::rpNew b4::pts p (bookC b m1 m2)::MapAt m1 MF::MapAt m2 MB::BksAt xs::Hs) w,?_,?_⟩
 ·refine ⟨c.kind,At.own (eqS hw) (by exact ⟨rfl,trivial⟩),Br.e (fun h=>by omega) (fun _=>?_)⟩
  refine drw_rule' (Sat R [fqC b5 f q,pts bx (bkObj (waitX b c)),pts p (bookC b m1 m2),cmC b3 c sg sp,VC.tru]) hw (fun w hw=>?_) fun w hw=>?_
  ·exact (hw.arr (Hs':=fqC b5 f q::pts bx (bkObj (waitX b c))::pts p (bookC b m1 m2)::cmC b3 c sg sp::LoneAt f pl.r::QuAt q pl.q::FlsAt (A++C)::rpNew b4::MapAt m1 MF::MapAt m2 MB::BksAt xs::Hs)).cons fun _ h=>h.cons fun _ h=>h.cons fun _ h=>h.restTru2
  refine ⟨some ⟨q,0,none⟩,At.own (fun _ h=>h) (by exact ⟨rfl,trivial⟩),b.next,At.own (fun _ h=>h) (by exact ⟨rfl,trivial⟩),c.cls,At.own (fun _ h=>h) (by exact ⟨rfl,trivial⟩),c.many,At.own (fun _ h=>h) (by exact ⟨rfl,trivial⟩),NilP.mk rfl ⟨b.now,At.own (fun _ h=>h) (by exact ⟨rfl,trivial⟩),c.sc,At.own (fun _ h=>h) (by exact ⟨rfl,trivial⟩),?_⟩⟩
  have hw:Sat R (QuAt q pl.q::pts bx (bkObj (waitX b c))::fqC b5 f q::LoneAt f pl.r::FlsAt (A++C)::cmC b3 c sg sp::rpNew b4::pts p (bookC b m1 m2)::MapAt m1 MF::MapAt m2 MB::BksAt xs::Hs) w:=hw.arr
  refine (qadd_spec (x:=waitW b c) hqok hw).use ?_
  clear hw
  rintro _ w ⟨rfl,hw⟩
  have hS:Sat R [fqC b5 f q,pts bx (bkObj (waitX b c)),pts p (bookC b m1 m2),cmC b3 c sg sp,VC.tru] w:=(hw.arr (Hs':=fqC b5 f q::pts bx (bkObj (waitX b c))::pts p (bookC b m1 m2)::cmC b3 c sg sp::LoneAt f pl.r::QuAt q (qadd pl.q (waitW b c)).1::FlsAt (A++C)::rpNew b4::MapAt m1 MF::MapAt m2 MB::BksAt xs::Hs)).cons fun _ h=>h.cons fun _ h=>h.cons fun _ h=>h.restTru2
  refine .inl ⟨_,rfl,hS,?_⟩
  refine mustE_c (fun h0=>.inl ⟨rfl,hS,h0,?_⟩) (fun h0=>.inr ⟨_,rfl,hX _ w (hwait.2 (by rw [if_neg ht,if_neg hf,if_pos h0])) ?_⟩)
  ·rw [hq2];exact hw.arr
  ·have hno:(qadd pl.q (waitW b c)).1=pl.q:=by
    unfold qadd at h0 ⊢
    split at h0<;>rename_i h1
    ·rw [if_pos h1]
    ·rw [if_neg h1]
     split at h0<;>rename_i h2
     ·rw [if_pos h2]
     ·rw [if_neg h2]
      split at h0<;>rename_i h3
      ·rw [if_pos h3]
      ·exact absurd rfl h0
   rw [hno] at hw
   have hw:Sat R (pts bx (bkObj (waitX b c))::fqC b5 f q::LoneAt f pl.r::QuAt q pl.q::FlsAt (A++C)::cmC b3 c sg sp::rpNew b4::pts p (bookC b m1 m2)::MapAt m1 MF::MapAt m2 MB::BksAt xs::Hs) w:=hw.arr
   exact closeW hw
 clear hw
 rintro _ w ⟨h0,hw⟩
 have hcore:=core_wait k hr hsc hat ht hf h0
 obtain ⟨y,hyL,hyid,hyf,hyc,hym,hyt,hres⟩:∃ y,y∈(promote c.flt (queued b c)).L∧y.id=b.next∧y.flt=c.flt∧y.cls=c.cls∧y.many=c.many∧y.till=0∧waitB b c=(promote c.flt (queued b c),tellB (promote c.flt (queued b c)) y):=by
  rcases wait_cases k0 hr hsc with ⟨h1,_⟩|⟨_,y,_,_,_,_,_,h1,h2,h3,h4,h5,h6,h7⟩
  ·exfalso
   rw [hwait.2 (by rw [if_neg ht,if_neg hf,if_neg (fun h=>h h0)])] at h1
   refine h1 ?_
   dsimp only
   split
   ·rfl
   ·exact tell_code
  ·exact ⟨y,h1,h2,h3,h4,h5,h6,h7⟩
 obtain ⟨nb,hnb⟩:∃ nb,nb=queued b c:=⟨_,rfl⟩
 obtain ⟨pl2,hp2⟩:∃ pl2,pl2=waitP (waitW b c) pl:=⟨_,rfl⟩
 rw [←hnb] at hres hcore hyL
 have hn2:pl2.n=c.flt:=by rw [hp2];exact hm.num
 have hm2:FlMid A C c.flt pl2:=⟨hn2,hm.a,hm.c⟩
 have hMF2:MF=(A++(f,q,pl2)::C).map flV:=by rw [hMF];exact fl_vals hn2 hm.num
 have hl2:BookL nb (A++(f,q,pl2)::C) (xs++[(bx,waitX b c)]):=by
  refine ⟨?_,?_⟩
  ·rw [hnb,hp2]
   exact hl.fset hm (waitP (waitW b c))
  ·rw [hnb,List.map_append,hl.bk]
   rfl
 have hMB2:MB++[(b.next,Value.pointer (some ⟨bx,0,none⟩))]=(xs++[(bx,waitX b c)]).map bkV:=by rw [hMB,List.map_append];rfl
 have hput:putM b.next (.pointer (some ⟨bx,0,none⟩)) MB=MB++[(b.next,Value.pointer (some ⟨bx,0,none⟩))]:=by rw [hMB];exact bk_fresh hl k _
 have hbget:getM b.next (MB++[(b.next,Value.pointer (some ⟨bx,0,none⟩))])=some (.pointer (some ⟨bx,0,none⟩)):=by rw [hMB];exact bk_snoc_get hl k _
 have hq22:q2=pl2.q:=by rw [hq2,hp2,(qadd_facts h0).2.2.2];rfl
 have hr22:pl.r=pl2.r:=by rw [hp2];rfl
 rw [hr22,hq22] at hw
 have hat2:nb.at c.flt=some pl2:=(at_iff hcore).2 ⟨hl2.fl.mem_iff.1 (List.mem_map.2 ⟨(f,q,pl2),by simp,rfl⟩),hn2⟩
 refine drw_rule hw fun w hw=>NilP.mk rfl ⟨some m2,At.own (fun _ h=>h) (by exact ⟨rfl,trivial⟩),b.next,At.own (fun _ h=>h) (by exact ⟨rfl,trivial⟩),?_⟩
 have hw:Sat R (MapAt m2 MB::pts bx (bkObj (waitX b c))::fqC b5 f q::LoneAt f pl2.r::QuAt q pl2.q::FlsAt (A++C)::cmC b3 c sg sp::rpNew b4::pts p (bookC b m1 m2)::MapAt m1 MF::BksAt xs::Hs) w:=hw.arr
 refine MapAt.put bMap hw b.next (.pointer (some ⟨bx,0,none⟩)) fun w hw=>?_
 rw [hput] at hw
 refine NilP.mk rfl ⟨b.next,At.own (eqS hw) (by exact ⟨rfl,trivial⟩),NilP.mk rfl ?_⟩
 have hw:Sat R (pts p (bookC b m1 m2)::MapAt m2 (MB++[(b.next,Value.pointer (some ⟨bx,0,none⟩))])::pts bx (bkObj (waitX b c))::fqC b5 f q::LoneAt f pl2.r::QuAt q pl2.q::FlsAt (A++C)::cmC b3 c sg sp::rpNew b4::MapAt m1 MF::BksAt xs::Hs) w:=hw.arr
 rw [wrap64 (x:=b.next + 1) (by omega) (by omega)]
 refine store_rule hw (by kernel_rfl) rfl (by simp [Value.cells]) fun w hw=>?_
 have hw:Sat R (pts p (bookC nb m1 m2)::MapAt m2 (MB++[(b.next,Value.pointer (some ⟨bx,0,none⟩))])::pts bx (bkObj (waitX b c))::fqC b5 f q::LoneAt f pl2.r::QuAt q pl2.q::FlsAt (A++C)::cmC b3 c sg sp::rpNew b4::MapAt m1 MF::BksAt xs::Hs) w:=by
  rw [hnb]
  exact hw.re (pts p (bookC (queued b c) m1 m2))
 refine ⟨c.kind,At.own (eqS hw) (by exact ⟨rfl,trivial⟩),Br.e (fun _=>?_) (fun h=>absurd hk h)⟩
 refine ⟨c.flt,At.own (eqS hw) (by exact ⟨rfl,trivial⟩),?_⟩
 have hw:Sat R (pts bx (bkObj (waitX b c))::BksAt xs::LoneAt f pl2.r::QuAt q pl2.q::FlsAt (A++C)::pts p (bookC nb m1 m2)::MapAt m1 MF::MapAt m2 (MB++[(b.next,Value.pointer (some ⟨bx,0,none⟩))])::fqC b5 f q::cmC b3 c sg sp::rpNew b4::Hs) w:=hw.arr
 have hw:=bks_snoc hw
 have hw:Sat R (LoneAt f pl2.r::QuAt q pl2.q::FlsAt (A++C)::BksAt (xs++[(bx,waitX b c)])::pts p (bookC nb m1 m2)::MapAt m1 MF::MapAt m2 (MB++[(b.next,Value.pointer (some ⟨bx,0,none⟩))])::fqC b5 f q::cmC b3 c sg sp::rpNew b4::Hs) w:=hw.arr
 have hw:=fls_mid.2 hw
 rw [hMF2,hMB2] at hw
 have hw:Sat R (pts p (bookC nb m1 m2)::MapAt m1 ((A++(f,q,pl2)::C).map flV)::MapAt m2 ((xs++[(bx,waitX b c)]).map bkV)::FlsAt (A++(f,q,pl2)::C)::BksAt (xs++[(bx,waitX b c)])::fqC b5 f q::cmC b3 c sg sp::rpNew b4::Hs) w:=hw.arr
 refine (promote_spec hcore hl2 hat2 hw).use ?_
 clear hw
 rintro _ w ⟨rfl,fs3,xs3,hl3,hf3,hb3,hw⟩
 refine .inl ⟨rfl,?_⟩
 have hcore3:=(promote_ok (n:=c.flt) hcore).1
 obtain ⟨A3,a3,C3,rfl,hbm3⟩:=bk_split hl3 hcore3.ids hyL
 have ha3:a3=bx:=by
  have h1:=bk_get (a:=a3) hbm3
  rw [hb3,←hMB2,hyid,hbget] at h1
  simpa using h1.symm
 subst ha3
 obtain ⟨p3,hp3⟩:=hcore3.at_of hyL
 obtain ⟨D3,f3,q3,E3,rfl,hm3⟩:=fl_split hl3 hcore3.nums hp3
 rw [←hf3,←hb3] at hw
 have htell:tellB (promote c.flt nb) y=tellP p3 y:=by unfold tellB;rw [hp3]
 rw [htell] at hres
 have hw:Sat R (FlsAt (D3++(f3,q3,p3)::E3)::BksAt (A3++(a3,y)::C3)::pts p (bookC (promote c.flt nb) m1 m2)::MapAt m1 ((D3++(f3,q3,p3)::E3).map flV)::MapAt m2 ((A3++(a3,y)::C3).map bkV)::fqC b5 f q::cmC b3 c sg sp::rpNew b4::Hs) w:=hw.arr
 have hw:=fls_mid.1 hw
 have hw:Sat R (BksAt (A3++(a3,y)::C3)::LoneAt f3 p3.r::QuAt q3 p3.q::FlsAt (D3++E3)::pts p (bookC (promote c.flt nb) m1 m2)::MapAt m1 ((D3++(f3,q3,p3)::E3).map flV)::MapAt m2 ((A3++(a3,y)::C3).map bkV)::fqC b5 f q::cmC b3 c sg sp::rpNew b4::Hs) w:=hw.arr
 have hw:=bks_mid.1 hw
 have hw:Sat R (pts p (bookC (promote c.flt nb) m1 m2)::MapAt m1 ((D3++(f3,q3,p3)::E3).map flV)::pts a3 (bkObj y)::LoneAt f3 p3.r::BksAt (A3++C3)::QuAt q3 p3.q::FlsAt (D3++E3)::MapAt m2 ((A3++(a3,y)::C3).map bkV)::fqC b5 f q::cmC b3 c sg sp::rpNew b4::Hs) w:=hw.arr
 refine (told_spec (x:=y) (by omega) hm3 hw).use ?_
 clear hw
 rintro _ w ⟨sl,sb,rfl,hw⟩
 refine .inl ⟨_,_,_,_,_,_,_,sl,sb,rfl,?_⟩
 have hw:Sat R (rpNew b4::Own sl 3 (intsI (rleftsF p3.r))::Own sb 9 ((rlabelsF p3.r y.id).map Value.string)::pts a3 (bkObj y)::BksAt (A3++C3)::LoneAt f3 p3.r::QuAt q3 p3.q::pts p (bookC (promote c.flt nb) m1 m2)::MapAt m1 ((D3++(f3,q3,p3)::E3).map flV)::MapAt m2 ((A3++(a3,y)::C3).map bkV)::FlsAt (D3++E3)::fqC b5 f q::cmC b3 c sg sp::Hs) w:=hw.arr
 refine store_rule hw (by kernel_rfl) rfl (by simp [Value.cells]) fun w hw=>?_
 have hw:=hw.re (rpC b4 (tellP p3 y) sl sb)
 refine ⟨_,_,_,_,_,_,_,sl,sb,At.own (eqS hw) (by exact ⟨rfl,rfl,rfl,rfl,rfl,rfl,rfl,rfl,rfl,trivial⟩),?_⟩
 have hfin:=hK sl sb w
 rw [hres] at hfin
 refine hfin ?_
 refine hw.drop.cons fun _ hw=>hw.cons fun _ hw=>?_
 have hw:=bks_mid.2 hw
 have hw:Sat _ (LoneAt f3 p3.r::QuAt q3 p3.q::pts p (bookC (promote c.flt nb) m1 m2)::MapAt m1 ((D3++(f3,q3,p3)::E3).map flV)::MapAt m2 ((A3++(a3,y)::C3).map bkV)::FlsAt (D3++E3)::BksAt (A3++(a3,y)::C3)::fqC b5 f q::cmC b3 c sg sp::Hs) w:=hw.arr
 exact (book_close hl3 rfl rfl hw).cons fun _ h=>h.drop.drop
end Go.Proofs.YtflgboncpbmikaaGreatDoor
