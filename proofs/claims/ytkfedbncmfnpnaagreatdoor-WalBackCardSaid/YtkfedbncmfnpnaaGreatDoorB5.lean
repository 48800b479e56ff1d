/- A log on a disk: writing. Condition: bounds on lengths; the library's table of powers is laid. -/
import Derived.Test.YtkfedbncmfnpnaaGreatDoorB4
import Derived.Test.YtkfedbncmfnpnaaGreatDoorB2
import Derived.ProofKit
import Derived.OpenShut
import Derived.ShutString
import Derived.ChangeOld
import Derived.Below
import Derived.Lib.SmallJoins
import Derived.SizedLaws
import Derived.Stop.LaidErr
namespace Go.Proofs.YtkfedbncmfnpnaaGreatDoor
set_option linter.unusedVariables false
set_option linter.unusedSimpArgs false
open Go Go.VC
variable {R R':Cx} {Hs Rest:List HP} {w:World} {p d:Nat} {x:WSt} {s sg:Sl} {ds:List DE4} {st:DS}
theorem tail_get (b:WB x):tailS x.segs=x.segs[x.segs.length - 1]'(by have:=b.s0;omega):=by
 unfold tailS
 rw [List.getD_eq_getElem?_getD,List.getElem?_eq_getElem (by have:=b.s0;omega)]
 rfl
theorem tail_bd (b:WB x):(tailS x.segs).num≤99999998∧0≤(tailS x.segs).size∧(tailS x.segs).size≤1099511627776:=by
 rw [tail_get b]
 exact b.n1 _ (List.getElem_mem _)
theorem tail_spec (b:WB x) (hw:Sat R (WX p d x s sg ds st Hs) w):Gets Tryz.prog 61 #[.pointer (some ⟨p,0,none⟩)] w fun v w'=>∃ a:Addr,sg.a=some a∧v=.pointer (some (Addr.add a (mulS ((x.segs.length - 1:Nat):Int).toNat 3)))∧Sat R (WX p d x s sg ds st Hs) w':=by
 have h0:=b.s0;have h1:=b.s1
 have hsl:=(WX.slen hw).2
 apply call61
 refine drw_rule hw fun w hw=>?_
 refine NilP.mk rfl ⟨sg,At.own selfS (by exact ⟨rfl,trivial⟩),NilP.mk rfl ⟨sg,At.own selfS (by exact ⟨rfl,trivial⟩),?_⟩⟩
 have wk:IntKind.i64.wrap ((sg.len:Int) - 1)=((x.segs.length - 1:Nat):Int):=by rw [wrap64 (by omega) (by omega)];omega
 rw [wk]
 have hrd:ReadsN 3 sg (x.segs.map sRow) (fun w'=>w'=w):=OwnN.readsM (n:=3) (s:=sg) (T:=96) (rows:=x.segs.map sRow) hw (eqS hw)
 refine hrd.rngM (by omega) fun a ha _=>⟨a,ha,rfl,hw⟩
theorem tail_read (b:WB x) {a:Addr} (ha:sg.a=some a) {S:World→Prop} {Hs' R1:List HP} (hw:Sat R Hs' w) [t:Take (SegO sg x.segs) Hs' R1] (hS:∀ w,S w→Sat R Hs' w):
  Elt 3 S a (x.segs.length - 1) (sRow (tailS x.segs)):=by
 have h0:=b.s0
 have hrd:ReadsN 3 sg (x.segs.map sRow) S:=OwnN.readsM (n:=3) (s:=sg) (T:=96) (rows:=x.segs.map sRow) hw hS
 have:=hrd.eltM (k:=x.segs.length - 1) (by omega) ha
 rw [tail_get b]
 exact this
theorem write_spec (b:WB x) (i:Inv st) (hp:PowR R) {t:Sl} {xs:List Int} (hx:Ro R t (b8 xs)) (hxl:xs.length≤100000) (hw:Sat R (WX p d x s sg ds st Hs) w):
  Gets Tryz.prog 63 #[.pointer (some ⟨p,0,none⟩),.slice t.a t.len t.cap] w fun v w'=>v=.int .i64 (appendD st (segName (tailS x.segs).num) xs).2∧
   Sat R (WX p d { x with segs:=if (appendD st (segName (tailS x.segs).num) xs).2=0 then growS x.segs xs.length else x.segs } s sg ds (appendD st (segName (tailS x.segs).num) xs).1 Hs) w':=by
 have h0:=b.s0;have h1:=b.s1
 obtain ⟨t1,t2,t3⟩:=tail_bd b
 have htl:t.len=xs.length:=by have:=hx.len;simpa using this
 apply call63
 refine drw_rule' (Sat R [pts p (wCells d x.lim x.g.base s sg x.brk),SegO sg x.segs,VC.tru]) hw (fun w hw=>hw.k2) fun w hw=>?_
 refine NilP.mk rfl ⟨_,(by rw [add_off];exact At.own selfS (by exact ⟨rfl,trivial⟩)),?_⟩
 refine (tail_spec b hw).use ?_
 clear hw
 rintro _ w ⟨a,ha,rfl,hw⟩
 refine ⟨_,rfl,hw.k2,NilP.mk rfl ?_⟩
 have el:=tail_read b ha (S:=Sat R [pts p (wCells d x.lim x.g.base s sg x.brk),SegO sg x.segs,VC.tru]) (hw.k2:Sat R [pts p (wCells d x.lim x.g.base s sg x.brk),SegO sg x.segs,VC.tru] w) selfS
 refine ⟨_,_,_,el.z (by exact ⟨rfl,rfl,rfl,trivial⟩),?_⟩
 refine (name_spec hp (by omega) hw).use ?_
 clear hw
 rintro _ w ⟨rfl,hw⟩
 refine ⟨_,rfl,hw.k2,?_⟩
 have hw:Sat R (DiskAt d st::pts p (wCells d x.lim x.g.base s sg x.brk)::EntO s ds::SegO sg x.segs::Hs) w:=hw.arr
 refine (append_spec (k:=segName (tailS x.segs).num) i hx (by omega) hw).use ?_
 clear hw
 rintro _ w ⟨rfl,hw⟩
 have hw:Sat R (WX p d x s sg ds (appendD st (segName (tailS x.segs).num) xs).1 Hs) w:=hw.arr
 refine ⟨_,rfl,hw.k2,Br.e (fun h=>?_) (fun h=>?_)⟩
 ·refine (tail_spec b hw).use ?_
  clear hw
  rintro _ w ⟨a,ha,rfl,hw⟩
  refine ⟨_,rfl,NilP.mk rfl ?_⟩
  have el:=tail_read b ha (S:=fun w'=>w'=w) hw (eqS hw)
  refine ⟨_,el.f 2 (by exact ⟨rfl,trivial⟩),NilP.mk rfl ?_⟩
  rw [wrap64 (by omega) (by omega),htl]
  have hk:x.segs.length - 1<x.segs.length:=by omega
  refine OwnN.storeM (n:=3) (s:=sg) (T:=96) (E:=x.segs) (g:=sRow) 2 ⟨x.segs[x.segs.length - 1].num,x.segs[x.segs.length - 1].next,(tailS x.segs).size + (xs.length:Nat)⟩ hw ha hk (by kernel_rfl) rfl (by simp [Value.cells]) rfl fun w hw=>?_
  have ess:growS x.segs xs.length=x.segs.set (x.segs.length - 1) ⟨x.segs[x.segs.length - 1].num,x.segs[x.segs.length - 1].next,(tailS x.segs).size + (xs.length:Nat)⟩:=by
   unfold growS setSize
   rw [List.getElem?_eq_getElem hk]
  rw [←ess] at hw
  refine ⟨rfl,?_⟩
  rw [if_pos h]
  exact hw.arr
 ·refine ⟨rfl,?_⟩
  rw [if_neg h]
  exact hw
theorem right_specW {e:DE4} (hs:e.1.len=e.2.dt.length) (hw:Sat R Hs w):Gets Tryz.prog 50 #[eVal e] w fun v w'=>v=.bool (decide e.2.Ok)∧Sat R Hs w':=by
 apply call50
 have hno:∀ {w},¬ e.2.Ok→Sat R Hs w→(Value.bool false=.bool (decide e.2.Ok)∧Sat R Hs w):=fun h hw=>⟨by rw [decide_eq_false h],hw⟩
 refine new_rule hw fun b w hw=>?_
 have hw:Sat R (pts b (.cells (eRow e).toArray 55 (0,0))::Hs) w:=hw
 refine ⟨_,At.own (eqS hw) (by exact ⟨rfl,trivial⟩),Br.d (fun h1=>?_) (fun h1=>hno (fun h=>by have:=h.i0;omega) hw.drop)⟩
 refine ⟨_,At.own (eqS hw) (by exact ⟨rfl,trivial⟩),Br.d (fun h2=>?_) (fun h2=>hno (fun h=>by have:=h.i1;omega) hw.drop)⟩
 refine ⟨_,At.own (eqS hw) (by exact ⟨rfl,trivial⟩),Br.d (fun h3=>?_) (fun h3=>hno (fun h=>by have:=h.t0;omega) hw.drop)⟩
 refine ⟨_,At.own (eqS hw) (by exact ⟨rfl,trivial⟩),Br.d (fun h4=>?_) (fun h4=>hno (fun h=>by have:=h.t1;omega) hw.drop)⟩
 refine ⟨_,At.own (eqS hw) (by exact ⟨rfl,trivial⟩),Br.d (fun h5=>?_) (fun h5=>hno (fun h=>by have:=h.k0;omega) hw.drop)⟩
 refine ⟨_,At.own (eqS hw) (by exact ⟨rfl,trivial⟩),Br.d (fun h6=>?_) (fun h6=>hno (fun h=>by have:=h.k1;omega) hw.drop)⟩
 refine ⟨e.1,At.own (eqS hw) (by exact ⟨rfl,trivial⟩),?_,hw.drop⟩
 congr 1
 rw [hs]
 exact decide_eq_decide.2 ⟨fun h=>⟨h1,h2,h3,h4,h5,h6,by omega⟩,fun h=>by have:=h.d1;omega⟩
theorem rollS_wb (b:WB x) (hn:(tailS x.segs).num≤99999997) (h1:x.g.last + 1≤1099511627777) (hsl:x.segs.length≤800000):WB { x with segs:=rollS x 0 }:=by
 refine ⟨b.b0,b.b1,b.l1,?_,?_,?_⟩
 ·unfold rollS;split
  ·simp
  ·exact b.s0
 ·unfold rollS;split
  ·simp;omega
  ·exact b.s1
 ·unfold rollS;split
  ·intro g hg
   rcases List.mem_append.1 hg with hg|hg
   ·exact b.n1 g hg
   ·simp at hg;subst hg
    have:=hdB_len (n:=(tailS x.segs).num + 1) (next:=x.g.last + 1) (by omega) h1
    simp only
    unfold headB
    rw [recB_len]
    omega
  ·exact b.n1
theorem add1_spec {bw bs:Nat} {g:Sg} (i:Inv st) (hp:PowR R) (hn:g.num<100000000) (h1:BoxP R bw p) (h2:R.m bs=some (sCells g)) (hw:Sat R (WX p d x s sg ds st Hs) w):
  Gets Tryz.prog 101 #[.pointer (some ⟨bw,0,none⟩),.pointer (some ⟨bs,0,none⟩)] w fun v w'=>v=.int .i64 (syncD st (segName g.num)).2∧Sat R (WX p d x s sg ds (syncD st (segName g.num)).1 Hs) w':=by
 apply call101
 refine drw_rule' (Sat R [pts p (wCells d x.lim x.g.base s sg x.brk),VC.tru]) hw (fun w hw=>hw.k1) fun w hw=>?_
 refine NilP.mk rfl ⟨_,h1.at selfS,NilP.mk rfl ⟨_,(by rw [add_off];exact At.own selfS (by exact ⟨rfl,trivial⟩)),NilP.mk rfl ⟨_,_,_,At.ro selfS h2 (by exact ⟨rfl,rfl,rfl,trivial⟩),?_⟩⟩⟩
 refine (name_spec hp hn hw).use ?_
 clear hw
 rintro _ w ⟨rfl,hw⟩
 refine ⟨_,rfl,hw.k1,?_⟩
 have hw:Sat R (DiskAt d st::pts p (wCells d x.lim x.g.base s sg x.brk)::EntO s ds::SegO sg x.segs::Hs) w:=hw.arr
 refine (sync_spec i hw).use ?_
 clear hw
 rintro _ w ⟨rfl,hw⟩
 exact ⟨_,rfl,hw.k1,rfl,hw.arr⟩
theorem add2_spec {bw bs:Nat} {g:Sg} (b:WB x) (hd:erE ds=x.g.l) (i:Inv st) (hp:PowR R) (hn:g.num + 1≤99999999) (hl1:x.g.last + 1≤1099511627777) (h1:BoxP R bw p) (h2:R.m bs=some (sCells g)) (hw:Sat R (WX p d x s sg ds st Hs) w):
  Gets Tryz.prog 102 #[.pointer (some ⟨bw,0,none⟩),.pointer (some ⟨bs,0,none⟩)] w fun v w'=>∃ e,v=.int .i64 e∧DoneQ R Hs p d x.lim x.g.base s x.brk ds (madeS x.segs (g.num + 1) (x.g.last + 1)) (makeD st (g.num + 1) (x.g.last + 1)) e w':=by
 have hb0:=b.b0;have hs1:=b.s1
 have hlb:x.g.base≤x.g.last:=x.g.base_le
 apply call102
 refine drw_rule' (Sat R [VC.tru]) hw (fun w hw=>Sat.toTru (As:=[]) hw) fun w hw=>?_
 refine NilP.mk rfl ⟨_,h1.at selfS,NilP.mk rfl ⟨_,(by rw [add_off];exact At.ro selfS h2 (by exact ⟨rfl,trivial⟩)),NilP.mk rfl ⟨_,h1.at selfS,NilP.mk rfl ?_⟩⟩⟩
 refine (lastX_spec b hd hw).use ?_
 clear hw
 rintro _ w ⟨rfl,hw⟩
 refine ⟨_,rfl,Sat.toTru (As:=[]) hw,?_⟩
 have w1:IntKind.i64.wrap ((g.num:Int) + 1)=((g.num + 1:Nat):Int):=by rw [wrap64 (by omega) (by omega)];omega
 rw [w1,wrap64 (by omega) (by omega)]
 refine (make_spec (n:=g.num + 1) (next:=x.g.last + 1) i hp hn (by omega) hl1 (by omega) hw).use ?_
 rintro _ w ⟨e,rfl,h⟩
 have h':=h
 obtain ⟨R2,sg2,e2,_,hw⟩:=h'
 exact ⟨_,rfl,e2.back (Sat.toTru (As:=[]) hw),e,rfl,h⟩
def OpQ (R:Cx) (Hs:List HP) (p d:Nat) (r:(DS × Int) × WSt) (v:Value) (w:World):Prop:=∃ R',R.Ext R'∧v=.int .i64 r.1.2∧WMem R' p d r.2 r.1.1 Hs w
theorem add_specW (b:WB x) (i:Inv st) (hp:PowR R) (hd:DsR R ds) (he:erE ds=x.g.l) {e:DE4} (hok:e.2.Ok) (hes:SlR R.m e.1 (b8 e.2.dt)) (hby:∀ y∈e.2.dt,0≤y∧y<256) (hix:e.2.ix=x.g.last + 1) (hn:(tailS x.segs).num≤99999997) (hl1:x.g.l.length<150000000000) (hsl:x.segs.length≤800000) (hw:Sat R (WX p d x s sg ds st Hs) w):
  Gets Tryz.prog 55 #[.pointer (some ⟨p,0,none⟩),eVal e] w (OpQ R Hs p d (addW x st e.2)):=by
 have hix1:=hok.i1
 have hb0:=b.b0
 obtain ⟨t1,t2,t3⟩:=tail_bd b
 apply call55
 suffices H:∀ K:Value→World→Prop,(∀ v w',OpQ R Hs p d (addW x st e.2) v w'→K v w')→B55 (some ⟨p,0,none⟩) e.2.ix e.2.tm e.2.kd e.1 K w from H _ fun _ _ h=>h
 intro K hK
 refine new_rule hw fun bw w hw=>?_
 obtain ⟨R1,e1,b1,hw⟩:=box_leak hw
 refine new_rule hw fun bx w hw=>?_
 have hw:Sat R1 (pts bx (.cells (eRow e).toArray 55 (0,0))::WX p d x s sg ds st Hs) w:=hw
 obtain ⟨R2,e2,bx2,hw⟩:=pts.leak hw
 have e12:=e1.trans e2
 have b1:=b1.ext e2
 have hp2:=hp.ext e12
 have hd2:=hd.ext e12
 have hes2:=e12.slR hes
 obtain ⟨x1,hx1⟩:∃ y:WSt,y={ x with segs:=rollS x 0 }:=⟨_,rfl⟩
 refine ⟨fun w=>(rollW x st).2=0∧∃ (R3:Cx) (sg:Sl),R2.Ext R3∧Sat R3 (WX p d x1 s sg ds (rollW x st).1 Hs) w,?_,?_⟩
 ·refine ⟨_,b1.at (eqS hw),(tail_spec b hw).use ?_⟩
  clear hw
  rintro _ w ⟨a,ha,rfl,hw⟩
  refine ⟨_,rfl,NilP.mk rfl ?_⟩
  have el:=tail_read b ha (S:=fun w'=>w'=w) hw (eqS hw)
  refine ⟨_,_,_,el.z (by exact ⟨rfl,rfl,rfl,trivial⟩),new_rule hw fun bs w hw=>?_⟩
  refine store_rule hw (by kernel_rfl) rfl (by simp [Value.cells,putL_len]) fun w hw=>?_
  have hw:Sat R2 (pts bs (sCells (tailS x.segs))::WX p d x s sg ds st Hs) w:=hw
  obtain ⟨R3,e3,bs3,hw⟩:=pts.leak hw
  have b1:=b1.ext e3
  have hp3:=hp2.ext e3
  refine drw_rule hw fun w hw=>?_
  refine ⟨(tailS x.segs).size,At.ro selfS bs3 (by exact ⟨rfl,trivial⟩),_,b1.at selfS,NilP.mk rfl ⟨x.lim,At.own selfS (by exact ⟨rfl,trivial⟩),Br.d (fun h=>?_) (fun h=>?_)⟩⟩
  ·have hroll:x.lim≤(tailS x.segs).size:=h
   have er:rollW x st=thenD (syncD st (segName (tailS x.segs).num)) fun st=>makeD st ((tailS x.segs).num + 1) (x.g.last + 1):=by unfold rollW;rw [if_pos hroll]
   refine new_rule hw fun bt w hw=>?_
   obtain ⟨R4,e4,bt4,hw⟩:=pts.leak hw
   have b1:=b1.ext e4
   have bs4:=e4.m _ _ bs3
   have hp4:=hp3.ext e4
   have e14:=(e12.trans e3).trans e4
   have hro:Ro R4 ⟨some ⟨bt,0,none⟩,2,2⟩ [.func (.func 101) #[] #[.pointer (some ⟨bw,0,none⟩),.pointer (some ⟨bs,0,none⟩)],.func (.func 102) #[] #[.pointer (some ⟨bw,0,none⟩),.pointer (some ⟨bs,0,none⟩)]]:=
    ⟨rfl,by simp,fun _=>⟨bt,0,_,_,_,rfl,bt4,fun i v h=>by simpa using h⟩⟩
   have i2:=sync_inv i (segName (tailS x.segs).num)
   refine (all_spec (Q:=fun n w=>n=(rollW x st).2∧∃ sg,Sat R4 (WS p d x.lim x.g.base s sg x.brk ds (rollS x n) (rollW x st).1 Hs) w) hro (by simp) hw ?_).use ?_
   ·refine CalW.mk (by kernel_rfl) ((add1_spec (g:=tailS x.segs) i hp4 (by omega) b1 bs4 hw).use ?_)
    clear hw
    rintro _ w ⟨rfl,hw⟩
    refine ⟨_,rfl,?_⟩
    by_cases h2:(syncD st (segName (tailS x.segs).num)).2=0
    case neg=>
     have er2:rollW x st=syncD st (segName (tailS x.segs).num):=by rw [er,thenD_err h2]
     refine .inl ⟨h2,by rw [er2],sg,?_⟩
     rw [er2]
     unfold rollS;rw [if_neg (fun h=>h2 h.2)];exact hw
    have er2:rollW x st=makeD (syncD st (segName (tailS x.segs).num)).1 ((tailS x.segs).num + 1) (x.g.last + 1):=by rw [er,thenD_ok h2]
    refine .inr ⟨h2,⟨_,hw⟩,?_⟩
    refine CalW.mk (by kernel_rfl) ((add2_spec (g:=tailS x.segs) b he i2 hp4 (by omega) (by omega) b1 bs4 hw).use ?_)
    clear hw
    rintro _ w ⟨n,rfl,R5,sg5,e5,rfl,hw⟩
    have hw:=e5.back hw
    rw [←er2] at hw ⊢
    have es:madeS x.segs ((tailS x.segs).num + 1) (x.g.last + 1) (rollW x st).2=rollS x (rollW x st).2:=by
     unfold madeS rollS
     by_cases h3:(rollW x st).2=0
     ·rw [if_pos h3,if_pos ⟨hroll,h3⟩]
     ·rw [if_neg h3,if_neg (fun h=>h3 h.2)]
    rw [es] at hw
    refine ⟨_,rfl,?_⟩
    by_cases h3:(rollW x st).2=0
    case neg=>exact .inl ⟨h3,rfl,sg5,hw⟩
    refine .inr ⟨h3,⟨_,hw⟩,h3.symm,sg5,?_⟩
    rw [h3] at hw;exact hw
   ·rintro _ w ⟨n,rfl,rfl,sg5,hw⟩
    refine ⟨_,rfl,Br.ne (fun h3=>?_) (fun h3=>?_)⟩
    ·have ea:addW x st e.2=(rollW x st,x):=by unfold addW;rw [if_pos h3]
     refine hK _ _ ⟨R4,e14,by rw [ea],s,ds,sg5,hd2.ext (e3.trans e4),by rw [ea];exact he,?_⟩
     rw [ea]
     have es:rollS x (rollW x st).2=x.segs:=by unfold rollS;rw [if_neg (fun h=>h3 h.2)]
     rw [es] at hw
     exact hw
    ·refine ⟨h3,R4,sg5,e3.trans e4,?_⟩
     rw [h3] at hw
     rw [hx1]
     exact hw
  ·have hroll:¬ x.lim≤(tailS x.segs).size:=h
   have er:rollW x st=(st,0):=by unfold rollW;rw [if_neg hroll]
   have es:rollS x 0=x.segs:=by unfold rollS;rw [if_neg (fun h=>hroll h.1)]
   refine ⟨by rw [er],R3,sg,e3,?_⟩
   rw [er,hx1]
   show Sat R3 (WS p d x.lim x.g.base s sg x.brk ds (rollS x 0) st Hs) w
   rw [es]
   exact hw
 clear hw
 rintro _ w ⟨hr,R3,sg3,e3,hw⟩
 have b1:=b1.ext e3
 have bx3:=e3.m _ _ bx2
 have hp3:=hp2.ext e3
 have hd3:=hd2.ext e3
 have hes3:=e3.slR hes2
 have bb1:WB x1:=by rw [hx1];exact rollS_wb b hn (by omega) hsl
 have ir:Inv (rollW x st).1:=by
  unfold rollW
  split
  ·refine thenD_inv (sync_inv i _) fun st i=>?_
   exact thenD_inv (appendD_inv i _ _) fun st i=>sync_inv i _
  ·exact i
 have ea:addW x st e.2=putW x1 (rollW x st).1 (recB (entB e.2)) ⟨x.g.base,x.g.l++[e.2]⟩:=by rw [hx1];unfold addW;rw [if_neg (fun h=>h hr)]
 have hel:=entB_len hok
 have hd1:=hok.d1
 have hx1b:x1.g=x.g∧x1.brk=x.brk∧x1.lim=x.lim:=by rw [hx1];exact ⟨rfl,rfl,rfl⟩
 refine drw_rule' (Sat R3 [VC.tru]) hw (fun w hw=>Sat.toTru (As:=[]) hw) fun w hw=>?_
 refine ⟨_,b1.at selfS,e.1,At.ro selfS bx3 (by exact ⟨rfl,trivial⟩),e.2.ix,At.ro selfS bx3 (by exact ⟨rfl,trivial⟩),e.2.tm,At.ro selfS bx3 (by exact ⟨rfl,trivial⟩),e.2.kd,At.ro selfS bx3 (by exact ⟨rfl,trivial⟩),new_rule hw fun b3 w hw=>⟨Sat.toTru (As:=[]) hw,?_⟩⟩
 obtain ⟨hc3,hw⟩:=Sat.lend.1 hw
 have hroD:=hes3.ro (by rw [List.length_map];omega)
 refine (encoded_spec (t:=some e.2.dt) (sd:=e.1) (xs:=[1,e.2.ix,e.2.tm,e.2.kd]) (sl:=⟨some ⟨b3,0,none⟩,4,4⟩) (fun y hy=>by
  have:=hok.i0;have:=hok.t0;have:=hok.t1;have:=hok.k0;have:=hok.k1
  simp at hy;omega) (by simp) (fun d h=>by cases h;exact ⟨hroD.add,hd1,hby⟩) (ro_new (by simp) rfl hc3) hw).use ?_
 clear hw
 rintro _ w ⟨t,rfl,hw⟩
 rw [encB_ent] at hw
 have hw:Sat R3 (Own t 5 (b8 (recB (entB e.2)))::WX p d x1 s sg3 ds (rollW x st).1 Hs) w:=((Sat.lend.2 ⟨hc3,hw⟩:Sat R3 (pts b3 _::Own t 5 (b8 (recB (entB e.2)))::WX p d x1 s sg3 ds (rollW x st).1 Hs) w)).drop
 refine ⟨t,rfl,Sat.toTru (As:=[]) hw,?_⟩
 obtain ⟨R4,e4,ht,hw⟩:=Own.leak hw
 have b1:=b1.ext e4
 have bx4:=e4.m _ _ bx3
 have hp4:=hp3.ext e4
 have hd4:=hd3.ext e4
 have hes4:=e4.slR hes3
 have e14:=(e12.trans e3).trans e4
 have hrl:=recB_len (entB e.2)
 refine (write_spec bb1 ir hp4 (ht.ro (by rw [List.length_map];omega)) (by omega) hw).use ?_
 clear hw
 rintro _ w ⟨rfl,hw⟩
 obtain ⟨q,hq⟩:∃ q,q=appendD (rollW x st).1 (segName (tailS x1.segs).num) (recB (entB e.2)):=⟨_,rfl⟩
 rw [←hq] at hw
 refine ⟨_,rfl,e4.back (Sat.toTru (As:=[]) hw),?_⟩
 rw [←hq]
 refine Br.e (fun h=>?_) (fun h=>?_)
 ·rw [if_pos h] at hw
  have ea2:addW x st e.2=(q,{ x1 with segs:=growS x1.segs (recB (entB e.2)).length,g:=⟨x.g.base,x.g.l++[e.2]⟩ }):=by rw [ea];unfold putW;rw [←hq,if_pos h]
  have hw:Sat R4 (WS p d x.lim x.g.base s sg3 x.brk ds (growS x1.segs (recB (entB e.2)).length) q.1 Hs) w:=by
   rw [←hx1b.1,←hx1b.2.1,←hx1b.2.2];exact hw
  refine drw_rule' (Sat R4 [pts p (wCells d x.lim x.g.base s sg3 x.brk),VC.tru]) hw (fun w hw=>hw.k1) fun w hw=>?_
  refine ⟨_,b1.at selfS,_,b1.at selfS,NilP.mk rfl ⟨s,At.own selfS (by exact ⟨rfl,trivial⟩),e.2.ix,e.2.tm,e.2.kd,e.1,At.ro selfS bx4 (by exact ⟨rfl,rfl,rfl,rfl,trivial⟩),?_⟩⟩
  refine (copied_spec (e:=e) hes4 (by omega) hw).use ?_
  clear hw
  rintro _ w ⟨R5,t5,e5,rfl,ht5,hw⟩
  refine ⟨_,_,_,t5,rfl,e5.back hw.k1,new_rule hw fun b5 w hw=>⟨e5.back hw.k1,?_⟩⟩
  have hw:Sat R5 (EntO s ds::pts b5 (.cells (eRow (t5,e.2)).toArray 55 (0,0))::pts p (wCells d x.lim x.g.base s sg3 x.brk)::SegO sg3 (growS x1.segs (recB (entB e.2)).length)::DiskAt d q.1::Hs) w:=hw.arr
  have hdl2:ds.length=x.g.l.length:=by rw [←he];simp
  refine pushN_in elE (s:=s) (rows:=ds.map eRow) (x:=eRow (t5,e.2)) hw rfl rfl (by rw [List.length_map];omega) (by rw [List.length_map];omega) fun s2 w hw=>?_
  have hw:Sat R5 (pts p (wCells d x.lim x.g.base s sg3 x.brk)::EntO s2 (ds++[(t5,e.2)])::SegO sg3 (growS x1.segs (recB (entB e.2)).length)::DiskAt d q.1::Hs) w:=by
   unfold EntO;rw [List.map_append];simp only [List.map_cons,List.map_nil];exact hw.arr
  refine ⟨e5.back hw.k1,NilP.mk rfl ?_⟩
  refine store_rule hw (by kernel_rfl) rfl (by simp [Value.cells,putL_len]) fun w hw=>?_
  refine hK _ _ ⟨R5,e14.trans e5,by rw [ea2],s2,ds++[(t5,e.2)],sg3,(hd4.ext e5).app (.one ht5),?_,?_⟩
  ·rw [ea2];simp only [erE,List.map_append,List.map_cons,List.map_nil];rw [show ds.map (·.2)=x.g.l from he]
  ·rw [ea2]
   show Sat R5 (WS p d x1.lim x.g.base s2 sg3 x1.brk (ds++[(t5,e.2)]) (growS x1.segs (recB (entB e.2)).length) q.1 Hs) w
   rw [hx1b.2.1,hx1b.2.2]
   exact hw
 ·rw [if_neg h] at hw
  have ea2:addW x st e.2=(q,x1):=by rw [ea];unfold putW;rw [←hq,if_neg h]
  refine hK _ _ ⟨R4,e14,by rw [ea2],s,ds,sg3,hd4,by rw [ea2,hx1b.1];exact he,?_⟩
  rw [ea2]
  exact hw
end Go.Proofs.YtkfedbncmfnpnaaGreatDoor
/- A log on a disk: Append, Cut, Reset, Sync. Condition: bounds on lengths; the library's table of powers is laid. -/
namespace Go.Proofs.YtkfedbncmfnpnaaGreatDoor
set_option linter.unusedVariables false
set_option linter.unusedSimpArgs false
open Go Go.VC
variable {R R':Cx} {Hs Rest:List HP} {w:World} {p d:Nat} {x:WSt} {s sg:Sl} {ds:List DE4} {st:DS}
structure WBk (x:WSt) (k:Nat):Prop where
 b0:0≤x.g.base
 b1:x.g.base≤1099511627776
 l1:x.g.l.length≤100000000000 + k
 s0:0<x.segs.length
 s1:x.segs.length≤40001 + k
 n1:∀ g∈x.segs,g.num≤1 + k∧0≤g.size∧g.size≤1000000000 + 100000 * k
theorem WBk.wb {k:Nat} (b:WBk x k) (hk:k≤800000):WB x:=by
 refine ⟨b.b0,b.b1,by have:=b.l1;omega,b.s0,by have:=b.s1;omega,fun g hg=>?_⟩
 have:=b.n1 g hg
 omega
theorem WBk.mono {k j:Nat} (b:WBk x k) (h:k≤j):WBk x j:=by
 refine ⟨b.b0,b.b1,by have:=b.l1;omega,b.s0,by have:=b.s1;omega,fun g hg=>?_⟩
 have:=b.n1 g hg
 omega
theorem setSize_mem {segs:List Sg} {z:Int} {g:Sg} (h:g∈setSize segs z):g∈segs∨∃ g0∈segs,g=⟨g0.num,g0.next,z⟩:=by
 unfold setSize at h
 split at h
 ·rename_i s hs
  obtain ⟨hlt,rfl⟩:=List.getElem?_eq_some_iff.1 hs
  rcases List.mem_or_eq_of_mem_set h with h|h
  ·exact .inl h
  ·exact .inr ⟨_,List.getElem_mem hlt,h⟩
 ·exact .inl h
theorem setSize_len (segs:List Sg) (z:Int):(setSize segs z).length=segs.length:=by
 unfold setSize
 split
 ·simp
 ·rfl
theorem WBk.tail {k:Nat} (b:WBk x k):(tailS x.segs).num≤1 + k∧0≤(tailS x.segs).size∧(tailS x.segs).size≤1000000000 + 100000 * k:=by
 have h0:=b.s0
 have:tailS x.segs=x.segs[x.segs.length - 1]'(by omega):=by
  unfold tailS
  rw [List.getD_eq_getElem?_getD,List.getElem?_eq_getElem (by omega)]
  rfl
 rw [this]
 exact b.n1 _ (List.getElem_mem _)
theorem WBk.put {k n:Nat} (b:WBk x k) {st:DS} {bs:List Int} {g:Lg} (hb:bs.length≤90000) (hg:0≤g.base∧g.base≤1099511627776∧g.l.length≤100000000000 + n) (hn:k + 1≤n):WBk (putW x st bs g).2 n:=by
 have bn:=b.mono (show k≤n by omega)
 unfold putW
 split
 ·refine ⟨hg.1,hg.2.1,hg.2.2,by simp only [growS,setSize_len];exact b.s0,by simp only [growS,setSize_len];exact bn.s1,fun y hy=>?_⟩
  have ht:=b.tail
  rcases setSize_mem hy with hy|⟨g0,hg0,rfl⟩
  ·exact bn.n1 y hy
  ·have:=bn.n1 g0 hg0
   simp only
   omega
 ·exact bn
theorem WBk.roll {k:Nat} (b:WBk x k) (hl:x.g.last≤1099511627776) (hk:k≤90000000):WBk { x with segs:=rollS x 0 } (k + 1):=by
 have bn:=b.mono (show k≤k + 1 by omega)
 have ht:=b.tail
 refine ⟨b.b0,b.b1,bn.l1,?_,?_,?_⟩
 ·unfold rollS;split
  ·simp
  ·exact b.s0
 ·have:=b.s1
  unfold rollS;split
  ·simp;omega
  ·simp only;omega
 ·unfold rollS;split
  ·intro g hg
   rcases List.mem_append.1 hg with hg|hg
   ·exact bn.n1 g hg
   ·simp at hg;subst hg
    have:=hdB_len (n:=(tailS x.segs).num + 1) (next:=x.g.last + 1) (by omega) (by omega)
    simp only
    unfold headB
    rw [recB_len]
    omega
  ·exact bn.n1
theorem WBk.add {k:Nat} (b:WBk x k) {st:DS} {e:Ey} (hok:e.Ok) (hix:e.ix=x.g.last + 1) (hk:k≤90000000):WBk (addW x st e).2 (k + 2):=by
 have hi:=hok.i1
 have hel:=entB_len hok
 have hd:=hok.d1
 unfold addW
 split
 ·exact b.mono (by omega)
 ·have br:=b.roll (by omega) hk
  refine br.put (by rw [recB_len];omega) ⟨b.b0,b.b1,?_⟩ (by omega)
  have:=b.l1
  simp;omega
theorem addW_inv {e:Ey} (i:Inv st):Inv (addW x st e).1.1:=by
 have ir:Inv (rollW x st).1:=by
  unfold rollW
  split
  ·refine thenD_inv (sync_inv i _) fun st i=>?_
   exact thenD_inv (appendD_inv i _ _) fun st i=>sync_inv i _
  ·exact i
 unfold addW
 split
 ·exact ir
 ·unfold putW
  split<;>exact appendD_inv ir _ _
theorem addW_ok {e:Ey} (h:(addW x st e).1.2=0):(addW x st e).2.g=⟨x.g.base,x.g.l++[e]⟩:=by
 unfold addW at h ⊢
 split
 ·rename_i h2;rw [if_pos h2] at h;exact absurd h h2
 ·rename_i h2
  rw [if_neg h2] at h
  unfold putW at h ⊢
  split
  ·rfl
  ·rename_i h3;rw [if_neg h3] at h;exact absurd h h3
theorem addW_brk {e:Ey}:(addW x st e).2.brk=x.brk∧(addW x st e).2.lim=x.lim:=by
 unfold addW
 split
 ·exact ⟨rfl,rfl⟩
 ·unfold putW;split<;>exact ⟨rfl,rfl⟩
theorem addsW_brk:∀ (x:WSt) (st:DS) (l:List Ey),(addsW x st l).2.brk=x.brk
 |_,_,[]=>rfl
 |x,st,e::l=>by
  unfold addsW
  split
  ·exact addW_brk.1
  ·rw [addsW_brk];exact addW_brk.1
theorem does_spec {f:Value} {r:(DS × Int) × WSt} (hr:r.2.brk=x.brk) (hw:Sat R (WX p d x s sg ds st Hs) w) (hd:DsR R ds) (he:erE ds=x.g.l) (hf:x.brk=false→CalW Tryz.prog cl f [] w (fun e w'=>∃ v,e=.returned v∧OpQ R Hs p d r v w')):
  Gets Tryz.prog 53 #[.pointer (some ⟨p,0,none⟩),f] w (OpQ R Hs p d (if x.brk then ((st,8),x) else doesW r)):=by
 apply call53
 refine NilP.mk rfl ⟨x.brk,At.own (eqS hw) (by exact ⟨rfl,trivial⟩),Br.mk (fun h=>?_) (fun h=>?_)⟩
 ·rw [if_pos h]
  exact ⟨R,.refl,rfl,s,ds,sg,hd,he,hw⟩
 ·rw [if_neg (by simp [h])]
  refine CalW.mono (hf h) ?_
  rintro _ w' ⟨v,rfl,R1,e1,rfl,s1,ds1,sg1,hd1,he1,hw1⟩
  refine ⟨_,rfl,NilP.mk rfl ?_⟩
  clear hw
  have hw:=hw1
  refine store_rule hw (by kernel_rfl) rfl (by simp [Value.cells,putL_len]) fun w hw=>?_
  refine ⟨R1,e1,rfl,s1,ds1,sg1,hd1,he1,?_⟩
  have hw:Sat R1 (WS p d r.2.lim r.2.g.base s1 sg1 (r.1.2 !=0) ds1 r.2.segs r.1.1 Hs) w:=hw
  exact hw
theorem sync1W_spec {bw:Nat} (b:WB x) (i:Inv st) (hp:PowR R) (hd:DsR R ds) (he:erE ds=x.g.l) (h1:BoxP R bw p) (hw:Sat R (WX p d x s sg ds st Hs) w):
  Gets Tryz.prog 60 #[.pointer (some ⟨bw,0,none⟩)] w (OpQ R Hs p d (syncD st (segName (tailS x.segs).num),x)):=by
 obtain ⟨t1,t2,t3⟩:=tail_bd b
 apply call60
 refine drw_rule' (Sat R [pts p (wCells d x.lim x.g.base s sg x.brk),SegO sg x.segs,VC.tru]) hw (fun w hw=>hw.k2) fun w hw=>?_
 refine NilP.mk rfl ⟨_,h1.at selfS,NilP.mk rfl ⟨_,(by rw [add_off];exact At.own selfS (by exact ⟨rfl,trivial⟩)),NilP.mk rfl ⟨_,h1.at selfS,?_⟩⟩⟩
 refine (tail_spec b hw).use ?_
 clear hw
 rintro _ w ⟨a,ha,rfl,hw⟩
 refine ⟨_,rfl,hw.k2,NilP.mk rfl ?_⟩
 have el:=tail_read b ha (S:=Sat R [pts p (wCells d x.lim x.g.base s sg x.brk),SegO sg x.segs,VC.tru]) (hw.k2:Sat R [pts p (wCells d x.lim x.g.base s sg x.brk),SegO sg x.segs,VC.tru] w) selfS
 refine ⟨_,_,_,el.z (by exact ⟨rfl,rfl,rfl,trivial⟩),?_⟩
 refine (name_spec hp (by omega) hw).use ?_
 clear hw
 rintro _ w ⟨rfl,hw⟩
 refine ⟨_,rfl,hw.k2,?_⟩
 have hw:Sat R (DiskAt d st::pts p (wCells d x.lim x.g.base s sg x.brk)::EntO s ds::SegO sg x.segs::Hs) w:=hw.arr
 refine (sync_spec (k:=segName (tailS x.segs).num) i hw).use ?_
 clear hw
 rintro _ w ⟨rfl,hw⟩
 have hw:Sat R (WX p d x s sg ds (syncD st (segName (tailS x.segs).num)).1 Hs) w:=hw.arr
 exact ⟨_,rfl,hw.k2,R,.refl,rfl,s,ds,sg,hd,he,hw⟩
theorem syncW_spec (b:WB x) (i:Inv st) (hp:PowR R) (hd:DsR R ds) (he:erE ds=x.g.l) (hw:Sat R (WX p d x s sg ds st Hs) w):
  Gets Tryz.prog 23 #[.pointer (some ⟨p,0,none⟩)] w (OpQ R Hs p d (syncW x st)):=by
 apply call23
 refine new_rule hw fun bw w hw=>?_
 obtain ⟨R1,e1,b1,hw⟩:=box_leak hw
 refine ⟨_,b1.at (eqS hw),?_⟩
 refine (does_spec (r:=(syncD st (segName (tailS x.segs).num),x)) rfl hw (hd.ext e1) he fun _=>CalW.mk (by kernel_rfl) (sync1W_spec b i (hp.ext e1) (hd.ext e1) he b1 hw)).use ?_
 rintro _ w ⟨R2,e2,rfl,h⟩
 exact ⟨_,rfl,R2,e1.trans e2,rfl,h⟩
end Go.Proofs.YtkfedbncmfnpnaaGreatDoor
/- A log on a disk: Append, Drop. Condition: bounds on lengths; the library's table of powers is laid. -/
namespace Go.Proofs.YtkfedbncmfnpnaaGreatDoor
set_option linter.unusedVariables false
set_option linter.unusedSimpArgs false
open Go Go.VC
variable {R R':Cx} {Hs Rest:List HP} {w:World} {p d:Nat} {x:WSt} {s sg:Sl} {ds:List DE4} {st:DS}
theorem DsR.len {dl:List DE4} (h:DsR R dl) {e:DE4} (he:e∈dl):e.1.len=e.2.dt.length:=by have:=(h e he).len;simpa using this
theorem oddE_spec {e:DE4} (hs:e.1.len=e.2.dt.length) (hw:Sat R Hs w):Gets Tryz.prog 49 #[eVal e] w fun v w'=>v=.bool (!decide e.2.Ok)∧Sat R Hs w':=by
 apply call49
 refine new_rule hw fun b w hw=>?_
 have hw:Sat R (pts b (.cells (eRow e).toArray 55 (0,0))::Hs) w:=hw
 refine ⟨_,_,_,e.1,At.own (eqS hw) (by exact ⟨rfl,rfl,rfl,rfl,trivial⟩),?_⟩
 refine (right_specW hs hw).use ?_
 clear hw
 rintro _ w ⟨rfl,hw⟩
 exact ⟨_,rfl,rfl,hw.drop⟩
open Classical in
theorem contE_spec {sl:Sl} {dl:List DE4} (hr:RoN 4 R sl (dl.map eRow)) (hd:DsR R dl) (hl:dl.length≤1000000) (hw:Sat R Hs w):
  Gets Tryz.prog 51 #[.slice sl.a sl.len sl.cap,.func (.func 49) #[] #[]] w fun v w'=>v=.bool (decide (¬ ∀ e∈erE dl,e.Ok))∧Sat R Hs w':=by
 have hsl:sl.len=dl.length:=by have:=hr.len;simpa using this
 apply call51
 have h1:Gets Tryz.prog 100 #[.slice sl.a sl.len sl.cap,.func (.func 49) #[] #[]] w fun v w'=>(∃ n:Int,v=.int .i64 n∧(0≤n↔¬ ∀ e∈erE dl,e.Ok))∧Sat R Hs w':=by
  apply call100
  refine ⟨fun i w=>∃ k:Nat,i=k∧k≤dl.length∧(∀ e∈dl.take k,e.2.Ok)∧Sat R Hs w,fun i _=>dl.length - i.toNat,⟨0,rfl,by omega,by simp,hw⟩,?_⟩
  clear hw
  rintro _ _ w ⟨k,rfl,hk,hok,hw⟩
  refine Br.d (fun h2=>?_) (fun h2=>?_)
  ·have hk':k<dl.length:=by omega
   refine (hr.reads (S:=fun w'=>w'=w) (eqS hw)).rngM hk' fun a _ el=>⟨_,_,_,dl[k].1,el.z (by exact ⟨rfl,rfl,rfl,rfl,trivial⟩),?_⟩
   refine CalW.mk (by kernel_rfl) ((oddE_spec (e:=dl[k]) (hd.len (List.getElem_mem _)) hw).use ?_)
   clear hw
   rintro _ w ⟨rfl,hw⟩
   refine ⟨_,rfl,Br.nd (fun h3=>?_) (fun h3=>?_)⟩
   ·refine ⟨⟨_,rfl,fun _=>fun hall=>h3 (hall dl[k].2 (List.mem_map_of_mem (f:=fun e:DE4=>e.2) (List.getElem_mem (h:=hk')))),fun _=>by omega⟩,hw⟩
   ·refine ⟨⟨k + 1,by rw [wrap64 (by omega) (by omega)];omega,by omega,fun e he=>?_,hw⟩,by dsimp only;rw [wrap64 (by omega) (by omega)];omega⟩
    rw [List.take_add_one,List.getElem?_eq_getElem hk'] at he
    rcases List.mem_append.1 he with he|he
    ·exact hok e he
    ·simp at he;rw [he];exact h3
  ·have:k=dl.length:=by omega
   rw [this,List.take_length] at hok
   refine ⟨⟨_,rfl,fun h=>by omega,fun h=>?_⟩,hw⟩
   exact absurd (fun e he=>by obtain ⟨y,hy,rfl⟩:=List.mem_map.1 he;exact hok y hy) h
 refine h1.use ?_
 rintro _ w ⟨⟨n,rfl,hn⟩,hw⟩
 refine ⟨n,rfl,?_,hw⟩
 congr 1
 rw [Bool.eq_iff_iff,decide_eq_true_eq,decide_eq_true_eq,←hn]
theorem addsW_drop {l:List Ey} {j:Nat} (hj:j<l.length):addsW x st (l.drop j)=if (addW x st l[j]).1.2≠0 then addW x st l[j] else addsW (addW x st l[j]).2 (addW x st l[j]).1.1 (l.drop (j + 1)):=by
 rw [drop_get hj];rfl
theorem app2_spec {bl bw k:Nat} {sl:Sl} {dl:List DE4} (b:WBk x k) (hk:k + 2 * dl.length≤700000) (i:Inv st) (hp:PowR R) (hd:DsR R ds) (he:erE ds=x.g.l) (h1:BoxV R bl (.slice sl.a sl.len sl.cap)) (h2:BoxP R bw p)
  (hr:RoN 4 R sl (dl.map eRow)) (hdl:DsR R dl) (hby:∀ e∈erE dl,∀ y∈e.dt,0≤y∧y<256) (hok:∀ e∈erE dl,e.Ok) (hfo:Follows (x.g.last + 1) (erE dl)) (hw:Sat R (WX p d x s sg ds st Hs) w):
  Gets Tryz.prog 54 #[.pointer (some ⟨bl,0,none⟩),.pointer (some ⟨bw,0,none⟩)] w (OpQ R Hs p d (addsW x st (erE dl))):=by
 have hsl:sl.len=dl.length:=by have:=hr.len;simpa using this
 apply call54
 refine NilP.mk rfl ⟨sl,h1.at (eqS hw),?_⟩
 refine ⟨fun i w=>∃ (j:Nat) (R2:Cx) (x':WSt) (st':DS) (s:Sl) (ds:List DE4) (sg:Sl),i=j∧j≤dl.length∧R.Ext R2∧addsW x st (erE dl)=addsW x' st' ((erE dl).drop j)∧WBk x' (k + 2 * j)∧x'.g.last=x.g.last + j∧x'.g.l.length=x.g.l.length + j∧Inv st'∧DsR R2 ds∧erE ds=x'.g.l∧Sat R2 (WX p d x' s sg ds st' Hs) w,fun i _=>dl.length - i.toNat,⟨0,R,x,st,s,ds,sg,rfl,by omega,.refl,rfl,b,by omega,by omega,i,hd,he,hw⟩,?_⟩
 clear hw
 rintro _ _ w ⟨j,R2,x',st',s,ds,sg,rfl,hj,e2,hadd,b',hlast,hlen,i',hd',he',hw⟩
 have hel:(erE dl).length=dl.length:=by simp
 refine Br.d (fun h=>?_) (fun h=>?_)
 ·have hj':j<dl.length:=by omega
  have hj2:j<(erE dl).length:=by omega
  have hx:(erE dl)[j]=dl[j].2:=by simp
  rw [addsW_drop hj2] at hadd
  have hmem:(erE dl)[j]∈erE dl:=List.getElem_mem _
  have hokj:=hok _ hmem
  have hixj:=hfo j hj2
  have hbyj:=hby _ hmem
  rw [hx] at hadd hokj hixj hbyj
  obtain ⟨e,hee⟩:∃ e,e=dl[j]:=⟨_,rfl⟩
  rw [←hee] at hadd hokj hixj hbyj
  have hes:SlR R.m e.1 (b8 e.2.dt):=by rw [hee];exact hdl _ (List.getElem_mem _)
  refine (e2.roN hr|>.reads (S:=fun w'=>w'=w) (eqS hw)).rngM hj' fun a _ el=>?_
  rw [←hee] at el
  refine ⟨_,_,_,e.1,el.z (by exact ⟨rfl,rfl,rfl,rfl,trivial⟩),new_rule hw fun b4 w hw=>?_⟩
  refine store_rule hw (by kernel_rfl) rfl (by simp [Value.cells,putL_len]) fun w hw=>?_
  have hw:Sat R2 (pts b4 (.cells (eRow e).toArray 55 (0,0))::WX p d x' s sg ds st' Hs) w:=hw
  refine NilP.mk rfl ⟨_,(h2.ext e2).at (eqS hw),e.2.ix,e.2.tm,e.2.kd,e.1,At.own (eqS hw) (by exact ⟨rfl,rfl,rfl,rfl,trivial⟩),?_⟩
  have ht:=b'.tail
  have hs1:=b'.s1
  have hl1:=b'.l1
  refine (add_specW (b'.wb (by omega)) i' (hp.ext e2) hd' he' hokj (e2.slR hes) hbyj (by omega) (by omega) (by omega) (by omega) hw.drop).use ?_
  clear hw
  rintro _ w ⟨R3,e3,rfl,s3,ds3,sg3,hd3,he3,hw⟩
  obtain ⟨r,hrr⟩:∃ r,r=addW x' st' e.2:=⟨_,rfl⟩
  rw [←hrr] at hadd he3 hw ⊢
  refine ⟨_,rfl,Br.ne (fun h3=>?_) (fun h3=>?_)⟩
  ·rw [if_pos h3] at hadd
   exact ⟨R3,e2.trans e3,by rw [hadd],s3,ds3,sg3,hd3,by rw [hadd];exact he3,by rw [hadd];exact hw⟩
  ·rw [if_neg (fun h=>h h3)] at hadd
   have hg:r.2.g=⟨x'.g.base,x'.g.l++[e.2]⟩:=by rw [hrr];exact addW_ok (by rw [←hrr];exact h3)
   refine ⟨⟨j + 1,R3,r.2,r.1.1,s3,ds3,sg3,by rw [wrap64 (by omega) (by omega)];omega,by omega,e2.trans e3,hadd,?_,?_,?_,by rw [hrr];exact addW_inv i',hd3,he3,hw⟩,by dsimp only;rw [wrap64 (by omega) (by omega)];omega⟩
   ·rw [hrr];exact (b'.add hokj (by omega) (by omega)).mono (by omega)
   ·rw [hg];unfold Lg.last at hlast ⊢;simp only [List.length_append,List.length_cons,List.length_nil];omega
   ·rw [hg];simp only [List.length_append,List.length_cons,List.length_nil];omega
 ·have hjl:j=dl.length:=by omega
  rw [hjl,←hel,List.drop_length] at hadd
  have hadd:addsW x st (erE dl)=((st',0),x'):=hadd
  exact ⟨R2,e2,by rw [hadd],s,ds,sg,hd',by rw [hadd];exact he',by rw [hadd];exact hw⟩
theorem appendW_spec {k:Nat} {sl:Sl} {dl:List DE4} (b:WBk x k) (hk:k + 2 * dl.length≤700000) (i:Inv st) (hp:PowR R) (hd:DsR R ds) (he:erE ds=x.g.l)
  (hr:RoN 4 R sl (dl.map eRow)) (hdl:DsR R dl) (hby:∀ e∈erE dl,∀ y∈e.dt,0≤y∧y<256) (hw:Sat R (WX p d x s sg ds st Hs) w):
  Gets Tryz.prog 18 #[.pointer (some ⟨p,0,none⟩),.slice sl.a sl.len sl.cap] w (OpQ R Hs p d (appendW x st (erE dl))):=by
 have hsl:sl.len=dl.length:=by have:=hr.len;simpa using this
 have bb:=b.wb (by omega)
 have hb0:=b.b0;have hb1:=b.b1;have hl1:=b.l1
 have hlb:=x.g.base_le
 have hlb2:x.g.last=x.g.base + x.g.l.length:=rfl
 apply call18
 refine new_rule hw fun bw w hw=>?_
 obtain ⟨R1,e1,b1,hw⟩:=box_leak hw
 refine new_rule hw fun bl w hw=>?_
 obtain ⟨R2,e2,b2,hw⟩:=box_leak hw
 have b1:=b1.ext e2
 have e12:=e1.trans e2
 have hp2:=hp.ext e12
 have hd2:=hd.ext e12
 have hr2:=e12.roN hr
 have hdl2:=hdl.ext e12
 have out:∀ {n:Int} {w:World},appendW x st (erE dl)=((st,n),x)→Sat R2 (WX p d x s sg ds st Hs) w→OpQ R Hs p d (appendW x st (erE dl)) (.int .i64 n) w:=fun {n w} h hw=>by
  rw [h];exact ⟨R2,e12,rfl,s,ds,sg,hd2,he,hw⟩
 refine ⟨_,b1.at (eqS hw),NilP.mk rfl ⟨x.brk,At.own (eqS hw) (by exact ⟨rfl,trivial⟩),Br.mk (fun h=>out (by unfold appendW;rw [if_pos h]) hw) (fun h=>?_)⟩⟩
 have hnb:¬ x.brk=true:=by simp [h]
 refine ⟨sl,b2.at (eqS hw),(contE_spec hr2 hdl2 (by omega) hw).use ?_⟩
 clear hw
 rintro _ w ⟨rfl,hw⟩
 refine ⟨_,rfl,Br.d (fun h2=>out (by unfold appendW;rw [if_neg hnb,if_pos h2]) hw) (fun h2=>?_)⟩
 refine ⟨sl,b2.at (eqS hw),?_⟩
 refine ⟨fun i w=>∃ j:Nat,i=j∧j≤dl.length∧(∀ (m:Nat) (h:m<(erE dl).length),m<j→(erE dl)[m].ix=x.g.last + 1 + m)∧Sat R2 (WX p d x s sg ds st Hs) w,fun i _=>dl.length - i.toNat,⟨0,rfl,by omega,fun m _ h=>by omega,hw⟩,?_⟩
 clear hw
 rintro _ _ w ⟨j,rfl,hj,hpre,hw⟩
 have hel:(erE dl).length=dl.length:=by simp
 refine Br.d (fun h3=>?_) (fun h3=>?_)
 ·have hj':j<dl.length:=by omega
  refine (hr2.reads (S:=fun w'=>w'=w) (eqS hw)).rngM hj' fun a _ el=>?_
  refine ⟨_,_,_,dl[j].1,el.z (by exact ⟨rfl,rfl,rfl,rfl,trivial⟩),new_rule hw fun b4 w hw=>?_⟩
  refine store_rule hw (by kernel_rfl) rfl (by simp [Value.cells,putL_len]) fun w hw=>?_
  have hw:Sat R2 (pts b4 (.cells (eRow dl[j]).toArray 55 (0,0))::WX p d x s sg ds st Hs) w:=hw
  refine drw_rule hw fun w hw=>?_
  refine ⟨dl[j].2.ix,At.own selfS (by exact ⟨rfl,trivial⟩),_,b1.at selfS,NilP.mk rfl ?_⟩
  have hw2:Sat R2 (WX p d x s sg ds st (pts b4 (.cells (eRow dl[j]).toArray 55 (0,0))::Hs)) w:=hw.arr
  refine (lastX_spec bb he hw2).use ?_
  clear hw hw2
  rintro _ w ⟨rfl,hw2⟩
  have hw:Sat R2 (pts b4 (.cells (eRow dl[j]).toArray 55 (0,0))::WX p d x s sg ds st Hs) w:=hw2.arr
  refine ⟨_,rfl,hw,?_⟩
  rw [wrap64 (x:=x.g.last + 1) (by omega) (by omega),wrap64 (x:=x.g.last + 1 + (j:Int)) (by omega) (by omega)]
  have hj2:j<(erE dl).length:=by omega
  refine Br.ne (fun h4=>out ?_ hw.drop) (fun h4=>⟨⟨j + 1,by rw [wrap64 (by omega) (by omega)];omega,by omega,fun m hm hmj=>?_,hw.drop⟩,by dsimp only;rw [wrap64 (by omega) (by omega)];omega⟩)
  ·unfold appendW
   rw [if_neg hnb,if_neg h2,if_pos]
   intro hf
   have:=hf j hj2
   simp at this
   exact h4 (by omega)
  ·by_cases hmj2:m<j
   ·exact hpre m hm hmj2
   ·have:m=j:=by omega
    subst this
    simp
    omega
 ·have hjl:j=dl.length:=by omega
  have hf:Follows (x.g.last + 1) (erE dl):=fun m hm=>hpre m hm (by omega)
  have hok:∀ e∈erE dl,e.Ok:=Classical.not_not.1 h2
  refine ⟨_,b1.at (eqS hw),?_⟩
  have ec:appendW x st (erE dl)=if x.brk then ((st,8),x) else doesW (addsW x st (erE dl)):=by unfold appendW;rw [if_neg hnb,if_neg h2,if_neg (fun h=>h hf),if_neg hnb]
  rw [ec]
  refine (does_spec (r:=addsW x st (erE dl)) (addsW_brk _ _ _) hw hd2 he fun _=>CalW.mk (by kernel_rfl) (app2_spec b hk i hp2 hd2 he b2 b1 hr2 hdl2 hby hok hf hw)).use ?_
  rintro _ w ⟨R3,e3,rfl,h⟩
  exact ⟨_,rfl,R3,e12.trans e3,rfl,h⟩
end Go.Proofs.YtkfedbncmfnpnaaGreatDoor
/- A log on a disk that only grew: what stands on its disk; plain. No program. Condition: none. -/
namespace Go.Proofs.YtkfedbncmfnpnaaGreatDoor
set_option linter.unusedVariables false
set_option linter.unusedSimpArgs false
open Go Go.VC
def mkC:Nat→Int→List (List Ey)→List Sc
 |_,_,[]=>[]
 |n,i,es::rest=>⟨n,i,es.map entB⟩::mkC (n + 1) (i + es.length) rest
theorem mkC_app:∀ (a:List (List Ey)) (n:Nat) (i:Int) (b:List (List Ey)),mkC n i (a++b)=mkC n i a++mkC (n + a.length) (i + a.flatten.length) b
 |[],n,i,b=>by simp [mkC]
 |es::a,n,i,b=>by
  simp only [List.cons_append,mkC,mkC_app a,List.length_cons,List.flatten_cons,List.length_append]
  rw [show n + 1 + a.length=n + (a.length + 1) by omega,show i + (es.length:Int) + (a.flatten.length:Int)=i + ((es.length + a.flatten.length:Nat):Int) by omega]
theorem mkC_len:∀ (a:List (List Ey)) (n:Nat) (i:Int),(mkC n i a).length=a.length
 |[],_,_=>rfl
 |es::a,n,i=>by simp [mkC,mkC_len a]
structure EsOk (i:Int) (l:List Ey):Prop where
 ok:∀ e∈l,e.Ok∧∀ y∈e.dt,0≤y∧y<256
 fol:Follows i l
theorem EsOk.app {i:Int} {a b:List Ey} (h:EsOk i (a++b)):EsOk i a∧EsOk (i + a.length) b:=by
 refine ⟨⟨fun e he=>h.ok e (List.mem_append_left _ he),fun k hk=>?_⟩,⟨fun e he=>h.ok e (List.mem_append_right _ he),fun k hk=>?_⟩⟩
 ·have:=h.fol k (by simp;omega)
  rwa [List.getElem_append_left hk] at this
 ·have:=h.fol (a.length + k) (by simp;omega)
  rw [List.getElem_append_right (by omega)] at this
  simp only [Nat.add_sub_cancel_left] at this
  rw [this];omega
theorem EsOk.snoc {i:Int} {a:List Ey} {e:Ey} (h:EsOk i a) (ho:e.Ok) (hb:∀ y∈e.dt,0≤y∧y<256) (hi:e.ix=i + a.length):EsOk i (a++[e]):=by
 refine ⟨fun x hx=>?_,fun k hk=>?_⟩
 ·rcases List.mem_append.1 hx with hx|hx
  ·exact h.ok x hx
  ·simp at hx;subst hx;exact ⟨ho,hb⟩
 ·by_cases hk2:k<a.length
  ·rw [List.getElem_append_left hk2];exact h.fol k hk2
  ·have:k=a.length:=by simp at hk;omega
   subst this
   simp [hi]
theorem runs_ents:∀ {l:List Ey} {g:Lg},EsOk (g.last + 1) l→runs g (l.map entB)=some ⟨g.base,g.l++l⟩
 |[],g,_=>by simp [runs]
 |e::l,g,h=>by
  have h0:=h.fol 0 (by simp)
  simp only [List.getElem_cons_zero] at h0
  rw [List.map_cons]
  unfold runs
  rw [change_ent (h.ok e (List.mem_cons_self ..)).1,if_pos (by omega)]
  simp only
  have h2:=(EsOk.app (a:=[e]) (b:=l) h).2
  rw [runs_ents (g:=⟨g.base,g.l++[e]⟩) (by
   have:(⟨g.base,g.l++[e]⟩:Lg).last + 1=g.last + 1 + (([e]:List Ey).length:Int):=by unfold Lg.last;simp;omega
   rw [this];exact h2)]
  simp
theorem mkC_chain:∀ {ess:List (List Ey)} {n:Nat} {g:Lg},EsOk (g.last + 1) ess.flatten→1≤g.last + 1→g.last + 1 + ess.flatten.length≤1099511627777→1≤n→n + 1 + ess.length≤100000000→
  Chain (some n) g (mkC (n + 1) (g.last + 1) ess) ⟨g.base,g.l++ess.flatten⟩
 |[],n,g,_,_,_,_,_=>by simp only [mkC,List.flatten_nil,List.append_nil];exact .nil
 |es::ess,n,g,h,h1,h2,h3,h4=>by
  rw [List.flatten_cons] at h h2
  rw [List.length_append] at h2
  rw [List.length_cons] at h4
  obtain ⟨ha,hb⟩:=h.app
  have hl:(⟨g.base,g.l++es⟩:Lg).last=g.last + es.length:=by unfold Lg.last;simp;omega
  refine .more (g1:=⟨g.base,g.l++es⟩) ⟨by simp,by simp only;omega,h1,by simp only;omega,fun b hb=>?_⟩ rfl rfl (runs_ents ha) ?_
  ·obtain ⟨e,he,rfl⟩:=List.mem_map.1 hb
   exact entB_ok (ha.ok e he).1 (ha.ok e he).2
  ·have:=mkC_chain (ess:=ess) (n:=n + 1) (g:=⟨g.base,g.l++es⟩) (by rw [hl,show g.last + es.length + 1=g.last + 1 + es.length by omega];exact hb) (by omega) (by omega) (by omega) (by omega)
   rw [hl,show g.last + es.length + 1=g.last + 1 + es.length by omega] at this
   rw [List.flatten_cons,←List.append_assoc]
   exact this
theorem mkC_start {ess:List (List Ey)} {n:Nat} {i:Int} (hne:ess≠[]) (h:EsOk i ess.flatten) (h1:1≤i) (h2:i + ess.flatten.length≤1099511627777) (h3:1≤n) (h4:n + ess.length≤100000000):
  Chain none ⟨0,[]⟩ (mkC n i ess) ⟨i - 1,ess.flatten⟩:=by
 obtain ⟨es,ess,rfl⟩:=List.exists_cons_of_ne_nil hne
 rw [List.flatten_cons] at h h2
 rw [List.length_append] at h2
 rw [List.length_cons] at h4
 obtain ⟨ha,hb⟩:=h.app
 have hl0:(⟨i - 1,[]⟩:Lg).last + 1=i:=by unfold Lg.last;simp
 have hl:(⟨i - 1,es⟩:Lg).last + 1=i + es.length:=by unfold Lg.last;simp;omega
 unfold mkC
 refine .first (g1:=⟨i - 1,es⟩) ⟨h3,by simp only;omega,h1,by simp only;omega,fun b hb=>?_⟩ rfl ?_ ?_
 ·obtain ⟨e,he,rfl⟩:=List.mem_map.1 hb
  exact entB_ok (ha.ok e he).1 (ha.ok e he).2
 ·have:=runs_ents (g:=⟨i - 1,[]⟩) (l:=es) (by rw [hl0];exact ha)
  simpa using this
 ·have:=mkC_chain (ess:=ess) (n:=n) (g:=⟨i - 1,es⟩) (by rw [hl];exact hb) (by omega) (by omega) h3 (by omega)
  rw [hl] at this
  rw [List.flatten_cons]
  exact this
theorem perm_of_get {a b:Fs} (ha:Uni a) (hb:Uni b) (h:∀ k,getM k a=getM k b):a.Perm b:=by
 have key:∀ {l:Fs},Uni l→∀ e:ByteArray × Fl,e∈l↔getM e.1 l=some e.2:=fun {l} u e=>⟨fun he=>getM_of_mem u he,fun he=>by
  obtain ⟨x,y,hxy,_⟩:=getM_split he
  rw [hxy];simp⟩
 have nd:∀ {l:Fs},Uni l→l.Nodup:=fun {l} u=>by
  unfold Uni at u
  unfold List.Nodup at u ⊢
  rw [List.pairwise_map] at u
  exact u.imp fun hne he=>hne (by rw [he])
 rw [List.perm_ext_iff_of_nodup (nd ha) (nd hb)]
 intro e
 rw [key ha,key hb,h]
structure Fu (st:DS) (n:Nat) (i:Int) (ess:List (List Ey)):Prop where
 off:st.off=false
 inv:Inv st
 by':ByOk st.fs
 get:∀ c∈mkC n i ess,∃ m,getM (segName c.num) st.fs=some ⟨c.bytes,m⟩
 only:∀ k,getM k st.fs≠none→∃ c∈mkC n i ess,k=segName c.num
 ne:ess≠[]
 ok:EsOk i ess.flatten
 i1:1≤i
 i2:i + ess.flatten.length≤1099511627777
 n1:1≤n
 n2:n + ess.length≤100000000
theorem Fu.chain {st:DS} {n:Nat} {i:Int} {ess:List (List Ey)} (h:Fu st n i ess):Chain none ⟨0,[]⟩ (mkC n i ess) ⟨i - 1,ess.flatten⟩:=mkC_start h.ne h.ok h.i1 h.i2 h.n1 h.n2
def fOf (st:DS) (c:Sc):Fl:=(getM (segName c.num) st.fs).getD ⟨[],0⟩
theorem Fu.perm {st:DS} {n:Nat} {i:Int} {ess:List (List Ey)} (h:Fu st n i ess):st.fs.Perm (segFs (fOf st) (mkC n i ess)):=by
 have hc:=h.chain
 have hu:=segFs_uni (f:=fOf st) hc.nums.2 fun c hm=>(chain_bd hc c hm).2
 refine perm_of_get h.inv.uni hu fun k=>?_
 rcases hg:getM k (segFs (fOf st) (mkC n i ess)) with _|v
 ·rcases hk:getM k st.fs with _|v
  ·rfl
  ·exfalso
   obtain ⟨c,hm,rfl⟩:=h.only k (by rw [hk];simp)
   have:=getM_of_mem hu (List.mem_map_of_mem (f:=fun c=>(segName c.num,fOf st c)) hm)
   rw [hg] at this;cases this
 ·obtain ⟨x,y,hxy,_⟩:=getM_split hg
  have hm:(k,v)∈segFs (fOf st) (mkC n i ess):=by rw [hxy];simp
  obtain ⟨c,hm,he⟩:=List.mem_map.1 hm
  obtain ⟨m,hgm⟩:=h.get c hm
  cases he
  unfold fOf
  rw [hgm];rfl
theorem Fu.f {st:DS} {n:Nat} {i:Int} {ess:List (List Ey)} (h:Fu st n i ess):∀ c∈mkC n i ess,(fOf st c).b=c.bytes:=fun c hc=>by
 obtain ⟨m,hm⟩:=h.get c hc
 unfold fOf;rw [hm];rfl
theorem Fu.load {st:DS} {n:Nat} {i:Int} {ess:List (List Ey)} (h:Fu st n i ess):loadD st=⟨⟨i - 1,ess.flatten⟩,(mkC n i ess).map Sc.sg,none,[]⟩:=loadD_full h.off h.perm h.f h.chain
theorem Fu.scratch {st:DS} {n:Nat} {i:Int} {ess:List (List Ey)} (h:Fu st n i ess):scratchN ∉ namesOf st.fs:=seg_noscratch h.perm h.chain.nums.2 fun c hm=>(chain_bd h.chain c hm).2
def xOf (lim:Int) (n:Nat) (i:Int) (ess:List (List Ey)):WSt:=⟨lim,⟨i - 1,ess.flatten⟩,(mkC n i ess).map Sc.sg,false⟩
theorem Fu.rcv {st:DS} {n:Nat} {i:Int} {ess:List (List Ey)} (h:Fu st n i ess):recoverD st=(st,0):=by
 have hl:=h.load
 unfold recoverD
 simp only [hl,if_neg h.scratch,thenD,if_true,unlinksD]
 rw [if_neg]
 obtain ⟨es,ess,rfl⟩:=List.exists_cons_of_ne_nil h.ne
 simp [mkC]
theorem Fu.open {st:DS} {n:Nat} {i lim:Int} {ess:List (List Ey)} (h:Fu st n i ess) (h1:32≤lim) (h2:lim≤65536):openErr st lim=0∧openD st lim=st∧openedW st=⟨⟨i - 1,ess.flatten⟩,(mkC n i ess).map Sc.sg⟩:=by
 have hc:¬ (lim<32∨lim>65536):=by omega
 unfold openErr openD openedW
 simp only [if_neg hc,h.off,h.rcv,h.load]
 obtain ⟨es,ess,rfl⟩:=List.exists_cons_of_ne_nil h.ne
 simp [mkC]
theorem chg_off {st:DS} {ok:Bool} (h1:(chg st ok).2=0):(chg st ok).1.off=st.off:=by
 unfold chg at h1 ⊢
 split
 ·rfl
 ·split
  ·rfl
  ·split
   ·rename_i h3 h4 h5;rw [if_neg h3,if_neg h4,if_pos h5] at h1;simp at h1
   ·rfl
theorem append_off {st:DS} {k:ByteArray} {xs:List Int} (h:(appendD st k xs).2=0):(appendD st k xs).1.off=st.off:=by
 obtain ⟨h1,h2⟩:=doing_ok (st:=st) h
 have e:appendD st k xs=appendG (chg st (nameOk k)).1 k xs:=h2
 rw [e,←chg_off h1]
 unfold appendG
 split<;>rfl
theorem sync_off {st:DS} {k:ByteArray} (h:(syncD st k).2=0):(syncD st k).1.off=st.off:=by
 obtain ⟨h1,h2⟩:=doing_ok (st:=st) h
 have e:syncD st k=syncG k (chg st (nameOk k)).1:=h2
 rw [e,←chg_off h1]
 unfold syncG
 split<;>rfl
theorem append_more {st:DS} {k:ByteArray} {xs:List Int} {f:Fl} (hk:getM k st.fs=some f) (h:(appendD st k xs).2=0):getM k (appendD st k xs).1.fs=some ⟨f.b++xs,f.sure⟩:=by
 obtain ⟨_,e⟩:=doing_ok h
 have e:appendD st k xs=appendG (chg st (nameOk k)).1 k xs:=e
 rw [e] at h ⊢
 have hf:=(chg_fs st (nameOk k)).1
 generalize (chg st (nameOk k)).1=st' at *
 unfold appendG at h ⊢
 split
 ·rename_i h1;rw [if_pos h1] at h;cases h
 ·show getM k (putB k xs st'.fs)=_
  have he:getM k (ensure k st'.fs)=some f:=by
   unfold ensure
   rw [hf,hk]
   rw [if_pos (by simp)];exact hk
  unfold putB
  rw [getM_upd he]
theorem Fu.put {st:DS} {n:Nat} {i:Int} {a:List (List Ey)} {es:List Ey} {e:Ey} (h:Fu st n i (a++[es])) (ho:e.Ok) (hb:∀ y∈e.dt,0≤y∧y<256) (hi:e.ix=i + (a++[es]).flatten.length) (hi2:e.ix≤1099511627776)
  (hd:(appendD st (segName (n + a.length)) (recB (entB e))).2=0):Fu (appendD st (segName (n + a.length)) (recB (entB e))).1 n i (a++[es++[e]]):=by
 have hfl:(a++[es++[e]]).flatten=(a++[es]).flatten++[e]:=by simp
 have hm:mkC n i (a++[es])=mkC n i a++[⟨n + a.length,i + a.flatten.length,es.map entB⟩]:=by rw [mkC_app];rfl
 have hm2:mkC n i (a++[es++[e]])=mkC n i a++[⟨n + a.length,i + a.flatten.length,(es++[e]).map entB⟩]:=by rw [mkC_app];rfl
 have hlt:∀ c∈mkC n i a,segName c.num≠segName (n + a.length):=fun c hc he=>by
  have hc':=h.chain
  have hnum:=hc'.nums.2
  rw [hm,List.pairwise_append] at hnum
  have:=hnum.2.2 c hc _ (List.mem_singleton.2 rfl)
  simp only at this
  have h1:=(chain_bd hc' c (by rw [hm];exact List.mem_append_left _ hc)).2
  have h2:=h.n2
  simp only [List.length_append,List.length_cons,List.length_nil] at h2
  have:=seg_inj h1 (by omega) he
  omega
 refine ⟨by rw [append_off hd];exact h.off,appendD_inv h.inv _ _,by_append h.by' _ (by have:=recsB_bd (l:=[entB e]) (fun b h=>by rw [List.mem_singleton.1 h];exact entB_ok ho hb);rwa [recsB_one] at this),fun c hc=>?_,fun k hk=>?_,by simp,?_,h.i1,?_,h.n1,by have:=h.n2;simp at this ⊢;omega⟩
 ·rw [hm2] at hc
  rcases List.mem_append.1 hc with hc|hc
  ·rw [append_get (hlt c hc)]
   exact h.get c (by rw [hm];exact List.mem_append_left _ hc)
  ·simp only [List.mem_singleton] at hc
   subst hc
   obtain ⟨m,hg⟩:=h.get ⟨n + a.length,i + a.flatten.length,es.map entB⟩ (by rw [hm];simp)
   refine ⟨m,?_⟩
   rw [append_more hg hd]
   simp only [Sc.bytes,Sc.recs,List.map_append,List.map_cons,List.map_nil]
   rw [←List.cons_append,recsB_app,recsB_one]
 ·by_cases hkk:k=segName (n + a.length)
  ·exact ⟨_,by rw [hm2];exact List.mem_append_right _ (List.mem_singleton.2 rfl),hkk⟩
  ·rw [append_get hkk] at hk
   obtain ⟨c,hc,rfl⟩:=h.only k hk
   rw [hm] at hc
   rcases List.mem_append.1 hc with hc|hc
   ·exact ⟨c,by rw [hm2];exact List.mem_append_left _ hc,rfl⟩
   ·simp only [List.mem_singleton] at hc;subst hc;exact absurd rfl hkk
 ·rw [hfl];exact h.ok.snoc ho hb hi
 ·rw [hfl];simp only [List.length_append,List.length_cons,List.length_nil] at hi ⊢;simp at hi ⊢;omega
theorem Fu.more {st:DS} {n:Nat} {i:Int} {a:List (List Ey)} (h:Fu st n i a) (hn:n + a.length + 1≤100000000)
  (hd:(makeD st (n + a.length) (i + a.flatten.length)).2=0):Fu (makeD st (n + a.length) (i + a.flatten.length)).1 n i (a++[[]]):=by
 have hm:mkC n i (a++[[]])=mkC n i a++[⟨n + a.length,i + a.flatten.length,[]⟩]:=by rw [mkC_app];rfl
 have hc':=h.chain
 have hlt:∀ c∈mkC n i a,segName c.num≠segName (n + a.length):=fun c hc he=>by
  have hx:∀ (a:List (List Ey)) (n:Nat) (i:Int),∀ c∈mkC n i a,c.num<n + a.length:=by
   intro a
   induction a with
   |nil=>intro n i c hc;cases hc
   |cons x a ih=>
    intro n i c hc
    unfold mkC at hc
    rcases List.mem_cons.1 hc with rfl|hc
    ·simp
    ·have:=ih _ _ c hc;simp;omega
  have:=hx a n i c hc
  have:=seg_inj (chain_bd hc' c hc).2 (by omega) he
  omega
 have hnone:getM (segName (n + a.length)) st.fs=none:=by
  rcases hg:getM (segName (n + a.length)) st.fs with _|v
  ·rfl
  ·obtain ⟨c,hc,he⟩:=h.only (segName (n + a.length)) (by rw [hg];simp)
   exact absurd he.symm (hlt c hc)
 have hh:∃ b,b=headB (n + a.length) (i + a.flatten.length):=⟨_,rfl⟩
 obtain ⟨b,hbb⟩:=hh
 have hmk:makeD st (n + a.length) (i + a.flatten.length)=thenD (appendD st (segName (n + a.length)) b) fun st=>syncD st (segName (n + a.length)):=by rw [hbb];rfl
 rw [hmk] at hd ⊢
 have h1:(appendD st (segName (n + a.length)) b).2=0:=by
  rcases Classical.em ((appendD st (segName (n + a.length)) b).2=0) with h0|h0
  ·exact h0
  ·rw [thenD_err h0] at hd;exact hd
 rw [thenD_ok h1] at hd ⊢
 have hbo:∀ x∈b,0≤x∧x<256:=by
  rw [hbb]
  have:=recsB_bd (l:=[hdB (n + a.length) (i + a.flatten.length)]) (fun b hb=>by rw [List.mem_singleton.1 hb];exact hdB_ok (by omega) h.i2)
  rw [recsB_one] at this
  exact this
 have hg2:∀ k,k≠segName (n + a.length)→getM k (syncD (appendD st (segName (n + a.length)) b).1 (segName (n + a.length))).1.fs=getM k st.fs:=fun k hk=>by rw [sync_get hk,append_get hk]
 refine ⟨by rw [sync_off hd,append_off h1];exact h.off,sync_inv (appendD_inv h.inv _ _) _,by_sync (by_append h.by' _ hbo) _,fun c hc=>?_,fun k hk=>?_,by simp,by simpa using h.ok,h.i1,by simpa using h.i2,h.n1,by simp;omega⟩
 ·rw [hm] at hc
  rcases List.mem_append.1 hc with hc|hc
  ·rw [hg2 _ (hlt c hc)];exact h.get c hc
  ·simp only [List.mem_singleton] at hc
   subst hc
   refine ⟨b.length,?_⟩
   rw [sync_done (append_new hnone h1) hd,hbb]
   simp only [Sc.bytes,Sc.recs,recsB_one]
   rfl
 ·by_cases hkk:k=segName (n + a.length)
  ·exact ⟨_,by rw [hm];exact List.mem_append_right _ (List.mem_singleton.2 rfl),hkk⟩
  ·rw [hg2 k hkk] at hk
   obtain ⟨c,hc,rfl⟩:=h.only k hk
   exact ⟨c,by rw [hm];exact List.mem_append_left _ hc,rfl⟩
theorem Fu.sync {st:DS} {n:Nat} {i:Int} {a:List (List Ey)} {k:ByteArray} (h:Fu st n i a) (hk:(getM k st.fs)≠none) (hd:(syncD st k).2=0):Fu (syncD st k).1 n i a:=by
 refine ⟨by rw [sync_off hd];exact h.off,sync_inv h.inv _,by_sync h.by' _,fun c hc=>?_,fun k2 hk2=>?_,h.ne,h.ok,h.i1,h.i2,h.n1,h.n2⟩
 ·obtain ⟨m,hg⟩:=h.get c hc
  by_cases hkk:segName c.num=k
  ·subst hkk;exact ⟨_,sync_done hg hd⟩
  ·exact ⟨m,by rw [sync_get hkk];exact hg⟩
 ·by_cases hkk:k2=k
  ·subst hkk;exact h.only k2 hk
  ·rw [sync_get hkk] at hk2;exact h.only k2 hk2
end Go.Proofs.YtkfedbncmfnpnaaGreatDoor
/- A log on a disk that only grows: Append, Drop; plain. No program. Condition: none. -/
namespace Go.Proofs.YtkfedbncmfnpnaaGreatDoor
set_option linter.unusedVariables false
set_option linter.unusedSimpArgs false
open Go Go.VC
theorem mkC_snoc (n:Nat) (i:Int) (a:List (List Ey)) (es:List Ey):mkC n i (a++[es])=mkC n i a++[⟨n + a.length,i + a.flatten.length,es.map entB⟩]:=by rw [mkC_app];rfl
theorem tail_snoc (l:List Sg) (g:Sg):tailS (l++[g])=g:=by unfold tailS;simp
theorem setSize_snoc (l:List Sg) (g:Sg) (z:Int):setSize (l++[g]) z=l++[⟨g.num,g.next,z⟩]:=by
 unfold setSize
 simp
abbrev lastC (n:Nat) (i:Int) (a:List (List Ey)) (es:List Ey):Sc:=⟨n + a.length,i + a.flatten.length,es.map entB⟩
theorem xOf_segs (lim:Int) (n:Nat) (i:Int) (a:List (List Ey)) (es:List Ey):(xOf lim n i (a++[es])).segs=(mkC n i a).map Sc.sg++[(lastC n i a es).sg]:=by
 unfold xOf
 simp only [mkC_snoc,List.map_append,List.map_cons,List.map_nil]
theorem Fu.tailget {st:DS} {n:Nat} {i:Int} {a:List (List Ey)} {es:List Ey} (h:Fu st n i (a++[es])):∃ m,getM (segName (n + a.length)) st.fs=some ⟨(lastC n i a es).bytes,m⟩:=
 h.get (lastC n i a es) (by rw [mkC_snoc];simp)
def costE (l:List Ey):Int:=(l.map fun e=>(50 + e.dt.length:Int)).sum
structure Got (st:DS) (z:Int) (st':DS):Prop where
 calm:Calm st'
 tot:total st'.fs≤total st.fs + z
 room:st'.room=st.room
theorem put_full {st:DS} {n:Nat} {i lim:Int} {a:List (List Ey)} {es:List Ey} {e:Ey} (h:Fu st n i (a++[es])) (c:Calm st) (ho:e.Ok) (hb:∀ y∈e.dt,0≤y∧y<256) (hi:e.ix=i + (a++[es]).flatten.length)
  (hr:total st.fs + 29 + e.dt.length≤st.room):∃ st',putW (xOf lim n i (a++[es])) st (recB (entB e)) ⟨i - 1,(a++[es]).flatten++[e]⟩=((st',0),xOf lim n i (a++[es++[e]]))∧Fu st' n i (a++[es++[e]])∧Got st (29 + e.dt.length) st'∧
   st'=(appendD st (segName (n + a.length)) (recB (entB e))).1:=by
 have hl:=entB_len ho
 have hrl:(recB (entB e)).length=8 + (entB e).length:=recB_len _
 obtain ⟨d1,d2,d3,d4⟩:=append_calm c (k:=segName (n + a.length)) (xs:=recB (entB e)) (seg_nameOk _) (by omega)
 have ht:tailS (xOf lim n i (a++[es])).segs=(lastC n i a es).sg:=by rw [xOf_segs,tail_snoc]
 refine ⟨(appendD st (segName (n + a.length)) (recB (entB e))).1,?_,h.put ho hb hi ho.i1 d1,⟨d2,by omega,d4⟩,rfl⟩
 unfold putW
 rw [ht]
 have hn:(lastC n i a es).sg.num=n + a.length:=rfl
 rw [hn,if_pos d1]
 have e1:appendD st (segName (n + a.length)) (recB (entB e))=((appendD st (segName (n + a.length)) (recB (entB e))).1,0):=by rw [←d1]
 have e2:growS (xOf lim n i (a++[es])).segs (recB (entB e)).length=(xOf lim n i (a++[es++[e]])).segs:=by
  unfold growS
  rw [ht,xOf_segs,xOf_segs,setSize_snoc]
  congr 1
  simp only [Sc.sg,List.cons.injEq,Sg.mk.injEq,and_true,true_and,Sc.bytes,Sc.recs,List.map_append,List.map_cons,List.map_nil]
  rw [←List.cons_append,recsB_app,recsB_one,List.length_append]
  push_cast
  rfl
 rw [e2]
 refine Prod.ext e1 ?_
 unfold xOf
 simp
theorem Fu.drop {st:DS} {n:Nat} {i:Int} {es:List Ey} {ess:List (List Ey)} (h:Fu st n i (es::ess)) (hne:ess≠[]) (hd:(unlinkD st (segName n)).2=0):Fu (unlinkD st (segName n)).1 (n + 1) (i + es.length) ess:=by
 have hm:mkC n i (es::ess)=⟨n,i,es.map entB⟩::mkC (n + 1) (i + es.length) ess:=rfl
 have hc:=h.chain
 have hlt:∀ c∈mkC (n + 1) (i + es.length) ess,segName c.num≠segName n:=fun c hcm he=>by
  have hnum:=hc.nums.2
  rw [hm,List.pairwise_cons] at hnum
  have:=hnum.1 c hcm
  simp only at this
  have h1:=(chain_bd hc c (by rw [hm];exact List.mem_cons_of_mem _ hcm)).2
  have:=seg_inj h1 (by omega) he
  omega
 have hok:=h.ok
 have hi2:=h.i2
 rw [List.flatten_cons] at hok hi2
 rw [List.length_append] at hi2
 refine ⟨?_,unlink_inv h.inv _,by_unlink h.by' _,fun c hcm=>?_,fun k hk=>?_,hne,hok.app.2,by have:=h.i1;omega,by omega,by omega,by have:=h.n2;simp at this;omega⟩
 ·have hne2:scratchN≠segName n:=fun he=>seg_ne_scratch n he.symm
  rw [(unlink_read hne2 hd).1];exact h.off
 ·obtain ⟨m,hg⟩:=h.get c (by rw [hm];exact List.mem_cons_of_mem _ hcm)
  exact ⟨m,by rw [unlink_get (hlt c hcm)];exact hg⟩
 ·by_cases hkk:k=segName n
  ·rw [hkk,unlink_done h.inv.uni hd] at hk;exact absurd rfl hk
  ·rw [unlink_get hkk] at hk
   obtain ⟨c,hcm,rfl⟩:=h.only k hk
   rw [hm] at hcm
   rcases List.mem_cons.1 hcm with rfl|hcm
   ·exact absurd rfl hkk
   ·exact ⟨c,hcm,rfl⟩
structure Dr (n0:Nat) (i0:Int) (ess0:List (List Ey)) (before:Int) (n:Nat) (i:Int) (ess:List (List Ey)):Prop where
 le:i0≤i
 be:i=i0∨i≤before
 fl:ess.flatten=ess0.flatten.drop (i - i0).toNat
 len:i + ess.flatten.length=i0 + ess0.flatten.length
 n:n + ess.length=n0 + ess0.length
theorem fresh_full {room lim:Int} (h0:1000≤room) (h1:room≤16777216) (h2:32≤lim) (h3:lim≤65536) (i0:Inv ⟨room,[],-1,-1,false⟩):∃ st,openErr ⟨room,[],-1,-1,false⟩ lim=0∧openD ⟨room,[],-1,-1,false⟩ lim=st∧openedW ⟨room,[],-1,-1,false⟩=⟨⟨0,[]⟩,(mkC 1 1 [[]]).map Sc.sg⟩∧
  Fu st 1 1 [[]]∧Calm st∧total st.fs≤21∧st.room=room:=by
 have hl:loadD ⟨room,[],-1,-1,false⟩=⟨⟨0,[]⟩,[],none,[]⟩:=by
  have hn:namesOf ([]:Fs)=[]:=by unfold namesOf;simp
  unfold loadD
  rw [hn]
  rfl
 have hs:scratchN ∉ namesOf ([]:Fs):=by unfold namesOf;simp [namesOf]
 have hbl:(headB 1 1).length≤21:=by unfold headB;rw [recB_len];have:=hdB_len (n:=1) (next:=1) (by omega) (by omega);omega
 obtain ⟨b,hbb⟩:∃ b,b=headB 1 1:=⟨_,rfl⟩
 have c0:Calm ⟨room,[],-1,-1,false⟩:=⟨rfl,rfl,rfl⟩
 obtain ⟨g1,g2,g3,g4⟩:=append_calm c0 (k:=segName 1) (xs:=b) (seg_nameOk _) (by rw [hbb];show (0:Int) + _≤room;omega)
 have hgs:=append_new (st:=⟨room,[],-1,-1,false⟩) (k:=segName 1) rfl g1
 obtain ⟨j1,j2,j3,j4⟩:=sync_calm g2 (seg_nameOk 1) hgs
 have hmk:makeD ⟨room,[],-1,-1,false⟩ 1 1=syncD (appendD ⟨room,[],-1,-1,false⟩ (segName 1) b).1 (segName 1):=by
  unfold makeD
  rw [←hbb,thenD_ok g1]
 have hrec:recoverD ⟨room,[],-1,-1,false⟩=makeD ⟨room,[],-1,-1,false⟩ 1 1:=by
  unfold recoverD
  simp only [hl,if_neg hs,thenD,if_true,unlinksD]
 have hc:¬ (lim<32∨lim>65536):=by omega
 have hbo:∀ x∈b,0≤x∧x<256:=by
  rw [hbb]
  have:=recsB_bd (l:=[hdB 1 1]) (fun b hb=>by rw [List.mem_singleton.1 hb];exact hdB_ok (by omega) (by omega))
  rw [recsB_one] at this
  exact this
 refine ⟨(syncD (appendD ⟨room,[],-1,-1,false⟩ (segName 1) b).1 (segName 1)).1,?_,?_,?_,?_,j2,?_,by rw [j4,g4]⟩
 ·unfold openErr;rw [if_neg hc,if_neg (by simp),hrec,hmk];exact j1
 ·unfold openD;rw [if_neg hc,if_neg (by simp),hrec,hmk]
 ·unfold openedW;simp only [hl,if_true]
  simp only [mkC,List.map_cons,List.map_nil,Sc.sg,Sc.bytes,Sc.recs,recsB_one]
  rfl
 ·refine ⟨j2.off,sync_inv (appendD_inv i0 _ _) _,by_sync (by_append (fun e he=>by cases he) _ hbo) _,fun c hcm=>?_,fun k hk=>?_,by simp,⟨fun e he=>by simp at he,fun k hk=>by simp at hk⟩,by omega,by simp,by omega,by simp⟩
  ·simp only [mkC,List.mem_singleton] at hcm
   subst hcm
   refine ⟨b.length,?_⟩
   rw [sync_done hgs j1,hbb]
   simp only [Sc.bytes,Sc.recs,List.map_nil,recsB_one]
   rfl
  ·by_cases hkk:k=segName 1
   ·exact ⟨_,List.mem_cons_self ..,hkk⟩
   ·rw [sync_get hkk,append_get hkk] at hk;exact absurd rfl hk
 ·rw [j3,g3,hbb];show (0:Int) + _≤21;omega
end Go.Proofs.YtkfedbncmfnpnaaGreatDoor
/- The formulas of functions of this seat's translation, printed by a program of mine off the translation; each is proved equal to 'fnF' of the function's body, so it is enough for the call. No condition. -/
namespace Go.Proofs.YtkfedbncmfnpnaaGreatDoor
open Go Go.VC
set_option linter.unusedVariables false
set_option maxRecDepth 10000
def B20 (d:Sl) (e:Sl) (K:Value→World→Prop) (w:World):Prop:=
 Br ((↑d.len:Int) !=(↑e.len:Int))
 (K (.bool false) w)
 (∃ (k:Int→World→Prop) (A:Int→World→Nat),(k 0 w)∧∀ (E:Env) (b:Int) (j:World),k b j→
 Br (decide (b<(↑d.len:Int)))
 (Drw j fun c i=>
 Rng b d.len (NilP d.a fun C=>
 ∃ r:Int,(At c (Addr.add (Addr.add C (mulS b.toNat 4)) 0) [.int .i64 r])∧
 Rng b e.len (NilP e.a fun D=>
 ∃ s:Int,(At c (Addr.add (Addr.add D (mulS b.toNat 4)) 0) [.int .i64 s])∧
 Br (r !=s)
 (K (.bool false) i)
 (Rng b d.len (NilP d.a fun l=>
 ∃ t:Int,(At c ⟨(l.add (mulS b.toNat 4)).block,(l.add (mulS b.toNat 4)).off + 1,none⟩ [.int .i64 t])∧
 Rng b e.len (NilP e.a fun m=>
 ∃ u:Int,(At c ⟨(m.add (mulS b.toNat 4)).block,(m.add (mulS b.toNat 4)).off + 1,none⟩ [.int .i64 u])∧
 Br (t !=u)
 (K (.bool false) i)
 (Rng b d.len (NilP d.a fun n=>
 ∃ v:Int,(At c ⟨(n.add (mulS b.toNat 4)).block,(n.add (mulS b.toNat 4)).off + 2,none⟩ [.int .i64 v])∧
 Rng b e.len (NilP e.a fun o=>
 ∃ x:Int,(At c ⟨(o.add (mulS b.toNat 4)).block,(o.add (mulS b.toNat 4)).off + 2,none⟩ [.int .i64 x])∧
 Br (v !=x)
 (K (.bool false) i)
 (Rng b d.len (NilP d.a fun p=>
 ∃ f:Sl,(At c ⟨(p.add (mulS b.toNat 4)).block,(p.add (mulS b.toNat 4)).off + 3,none⟩ [.slice f.a f.len f.cap])∧
 ∃ y:ByteArray,(∀ w',c w'→((convert 53 9 (.slice f.a f.len f.cap))).run Tryz.prog w'=.ok (.string y) w')∧
 Rng b e.len (NilP e.a fun q=>
 ∃ g:Sl,(At c ⟨(q.add (mulS b.toNat 4)).block,(q.add (mulS b.toNat 4)).off + 3,none⟩ [.slice g.a g.len g.cap])∧
 ∃ z:ByteArray,(∀ w',c w'→((convert 53 9 (.slice g.a g.len g.cap))).run Tryz.prog w'=.ok (.string z) w')∧
 Br (!y.toList==z.toList)
 (K (.bool false) i)
 ((k (IntKind.i64.wrap (b + 1)) i)∧A (IntKind.i64.wrap (b + 1)) i<A b j)))))))))))))
 (K (.bool true) j))
def sk20:Sk:=(.seq .leaf (.seq .leaf (.seq (.seq .leaf (.block (.loop [5] [(.int .i64)] [4,5,11,12,13,14,15,16,17,18,19,20,21,22,23,24,25,26,27,28,29,30,31,32,33,34,35,36,37,38,39,40,41,42,43,44,45,46,47,48,49,50,51,52,53,54,55,56,57,58,59,60,61,62,63,64,65,66,67,68] .leaf))) .leaf)))
theorem call20 (b:Sl) (c:Sl) (K:Value→World→Prop) (w:World) (h:B20 b c K w):Gets Tryz.prog 20 #[.slice b.a b.len b.cap,.slice c.a c.len c.cap] w K:=cq (sk:=sk20) Tryz.func20 (by kernel_rfl) (by kernel_rfl) (by kernel_rfl) h
def B8  (K:Value→World→Prop) (w:World):Prop:=
 Calls Tryz.prog 17 #[.int .i64 1000] w fun n e=>
 ∃ c:Option Addr,∃ k:Int,(n=.returned (.tuple #[.pointer c,.int .i64 k]))∧
 ∃ (g:World→Prop),(Br (k !=0)
 (K (.bool false) e)
 (Br c.isNone
 (K (.bool false) e)
 (g  e)))∧
 ∀ (s:Env)  (l:World),g  l→
 Calls Tryz.prog 13 #[.pointer c,.int .i64 100] l fun o f=>
 ∃ d:Option Addr,∃ i:Int,(o=.returned (.tuple #[.pointer d,.int .i64 i]))∧
 Br (i==0)
 (Br (!d.isNone)
 (Calls Tryz.prog 22 #[.pointer d] f fun p m=>
 ∃ j:Int,(p=.returned (.int .i64 j))∧
 Br (j==1)
 (Calls Tryz.prog 33 #[.pointer c] m fun q r=>
 ∃ b:Sl,(q=.returned (.slice b.a b.len b.cap))∧
 K (.bool ((↑b.len:Int)==1)) r)
 (K (.bool false) m))
 (K (.bool false) f))
 (K (.bool false) f)
def sk8:Sk:=(.seq .leaf (.seq .leaf (.cut [] [] [0,9,10,11,12,13,14] .leaf .leaf)))
theorem call8  (K:Value→World→Prop) (w:World) (h:B8  K w):Gets Tryz.prog 8 #[] w K:=cq (sk:=sk8) Tryz.func8 (by kernel_rfl) (by kernel_rfl) (by kernel_rfl) h
def B9 (k:Sl) (g:Sl) (K:Value→World→Prop) (w:World):Prop:=
 ∃ (E:Int→World→Prop),(∃ (C:Int→Int→World→Prop) (X:Int→Int→World→Nat),(C 0 0 w)∧∀ (aa:Env) (l:Int) (d:Int) (r:World),C l d r→
 ∃ (F:World→Prop),(Br (decide (d<(↑k.len:Int)))
 (Br (decide (d<20))
 (F  r)
 (E l r))
 (E l r))∧
 ∀ (ab:Env)  (j:World),F  j→
 Rng d k.len (NilP k.a fun I=>
 ∃ v:Sl,(At (fun c=>c=j) ⟨(I.add (mulS d.toNat 2)).block,(I.add (mulS d.toNat 2)).off + 1,none⟩ [.slice v.a v.len v.cap])∧
 Br (decide ((↑v.len:Int)>30000))
 (K (.bool true) j)
 (Rng d k.len (NilP k.a fun Z=>
 ∃ U:ByteArray,(At (fun c=>c=j) (Addr.add (Addr.add Z (mulS d.toNat 2)) 0) [.string U])∧
 Br (decide ((↑U.size:Int)>1000))
 (K (.bool true) j)
 (Rng d k.len (NilP k.a fun J=>
 ∃ o:Sl,(At (fun c=>c=j) ⟨(J.add (mulS d.toNat 2)).block,(J.add (mulS d.toNat 2)).off + 1,none⟩ [.slice o.a o.len o.cap])∧
 (C (IntKind.i64.wrap (l + (↑o.len:Int))) (IntKind.i64.wrap (d + 1)) j)∧X (IntKind.i64.wrap (l + (↑o.len:Int))) (IntKind.i64.wrap (d + 1)) j<X l d r))))))∧
 ∀ (ac:Env) (T:Int) (V:World),E T V→
 ∃ (u:Int→Int→World→Prop) (A:Int→Int→World→Nat),(u T 0 V)∧∀ (ad:Env) (m:Int) (b:Int) (n:World),u m b n→
 ∃ (G:World→Prop),(Br (decide (b<(↑g.len:Int)))
 (Br (decide (b<100))
 (G  n)
 (K (.bool (decide (m>30000))) n))
 (K (.bool (decide (m>30000))) n))∧
 ∀ (ae:Env)  (s:World),G  s→
 Rng b g.len (NilP g.a fun L=>
 ∃ x:Sl,(At (fun c=>c=s) ⟨(L.add (mulS b.toNat 5)).block,(L.add (mulS b.toNat 5)).off + 3,none⟩ [.slice x.a x.len x.cap])∧
 Br (decide ((↑x.len:Int)>1000))
 (K (.bool true) s)
 (Rng b g.len (NilP g.a fun M=>
 ∃ y:Sl,(At (fun c=>c=s) ⟨(M.add (mulS b.toNat 5)).block,(M.add (mulS b.toNat 5)).off + 3,none⟩ [.slice y.a y.len y.cap])∧
 ∃ (D:Int→Int→World→Prop) (Y:Int→Int→World→Nat),(D (IntKind.i64.wrap (m + IntKind.i64.wrap (30 * (↑y.len:Int)))) 0 s)∧∀ (af:Env) (e:Int) (i:Int) (f:World),D e i f→
 ∃ (H:World→Prop),(Rng b g.len (NilP g.a fun N=>
 ∃ z:Sl,(At (fun c=>c=f) ⟨(N.add (mulS b.toNat 5)).block,(N.add (mulS b.toNat 5)).off + 3,none⟩ [.slice z.a z.len z.cap])∧
 Br (decide (i<(↑z.len:Int)))
 (Br (decide (e<100000))
 (H  f)
 (Br (decide (e>30000))
 (K (.bool true) f)
 ((u e (IntKind.i64.wrap (b + 1)) f)∧A e (IntKind.i64.wrap (b + 1)) f<A m b n)))
 (Br (decide (e>30000))
 (K (.bool true) f)
 ((u e (IntKind.i64.wrap (b + 1)) f)∧A e (IntKind.i64.wrap (b + 1)) f<A m b n))))∧
 ∀ (ag:Env)  (t:World),H  t→
 Rng b g.len (NilP g.a fun O=>
 ∃ p:Sl,(At (fun c=>c=t) ⟨(O.add (mulS b.toNat 5)).block,(O.add (mulS b.toNat 5)).off + 3,none⟩ [.slice p.a p.len p.cap])∧
 Rng i p.len (NilP p.a fun Q=>
 ∃ q:Sl,(At (fun c=>c=t) ⟨(Q.add (mulS i.toNat 4)).block,(Q.add (mulS i.toNat 4)).off + 3,none⟩ [.slice q.a q.len q.cap])∧
 (D (IntKind.i64.wrap (e + (↑q.len:Int))) (IntKind.i64.wrap (i + 1)) t)∧Y (IntKind.i64.wrap (e + (↑q.len:Int))) (IntKind.i64.wrap (i + 1)) t<Y e i f)))))
def sk9:Sk:=(.seq .leaf (.seq .leaf (.cut [5] [(.int .i64)] [4,5,6,9,10,11,12,13,14,15,16,17,18,19,20,21,22,23,24,25,26,27,28,29,30,31,32,33,34,35,36,37,38,39,40,41,42] (.seq .leaf (.block (.loop [5,6] [(.int .i64),(.int .i64)] [4,5,6,9,10,11,12,13,14,15,16,17,18,19,20,21,22,23,24,25,26,27,28,29,30,31,32,33,34,35,36,37,38,39,40,41,42] (.cut [] [] [9,10,11,12,13,14,15,16] .leaf .leaf)))) (.seq (.seq .leaf (.block (.loop [5,7] [(.int .i64),(.int .i64)] [4,5,7,8,43,44,45,46,47,48,49,50,51,52,53,54,55,56,57,58,59,60,61,62,63,64,65,66,67,68,69,70,71,72,73,74,75,76,77,78,79,80,81,82,83,84,85,86,87,88,89,90,91,92,93,94,95,96] (.cut [] [] [43,44,45,46,47,48,49,50] .leaf (.seq (.block (.seq .leaf (.seq .leaf (.seq (.seq .leaf (.block (.loop [5,8] [(.int .i64),(.int .i64)] [5,8,69,70,71,72,73,74,75,76,77,78,79,80,81,82,83,84,85,86,87,88,89,90,91,92,93,94] (.cut [] [] [69,70,71,72,73,74,75,76,77,78,79,80] .leaf .leaf)))) .leaf)))) .leaf))))) .leaf))))
theorem call9 (b:Sl) (c:Sl) (K:Value→World→Prop) (w:World) (h:B9 b c K w):Gets Tryz.prog 9 #[.slice b.a b.len b.cap,.slice c.a c.len c.cap] w K:=cq (sk:=sk9) Tryz.func9 (by kernel_rfl) (by kernel_rfl) (by kernel_rfl) h
def B5 (i:Int) (b:Sl) (l:Sl) (K:Value→World→Prop) (w:World):Prop:=
 Calls Tryz.prog 8 #[] w fun H Z=>
 ∃ c:Bool,(H=.returned (.bool c))∧
 New (.cells #[.int .i64 0,.int .i64 0,.int .i64 0,.slice b.a b.len b.cap,.slice none 0 0] 43 (0,0)) (fun F ag=>
 Calls Tryz.prog 9 #[.slice none 0 0,.slice ((some ⟨F,0,none⟩)) 1 1] ag fun I g=>
 ∃ u:Bool,(I=.returned (.bool u))∧
 ∃ (q:World→Prop),(Br (!c)
 (K (.bool c) g)
 (Br u
 (K (.bool c) g)
 (Br (decide (i<32))
 (K (.bool c) g)
 (Br (decide (i>65536))
 (K (.bool c) g)
 (q  g)))))∧
 ∀ (ai:Env)  (C:World),q  C→
 Calls Tryz.prog 17 #[.int .i64 200000] C fun M o=>
 ∃ f:Option Addr,∃ v:Int,(M=.returned (.tuple #[.pointer f,.int .i64 v]))∧
 ∃ (r:World→Prop),(Br (v !=0)
 (K (.bool false) o)
 (Br f.isNone
 (K (.bool false) o)
 (r  o)))∧
 ∀ (aj:Env)  (D:World),r  D→
 Calls Tryz.prog 13 #[.pointer f,.int .i64 i] D fun N p=>
 ∃ d:Option Addr,∃ x:Int,(N=.returned (.tuple #[.pointer d,.int .i64 x]))∧
 ∃ (s:World→Prop),(Br (x !=0)
 (K (.bool false) p)
 (Br d.isNone
 (K (.bool false) p)
 (s  p)))∧
 ∀ (ak:Env)  (E:World),s  E→
 Calls Tryz.prog 18 #[.pointer d,.slice b.a b.len b.cap] E fun O ah=>
 ∃ j:Int,(O=.returned (.int .i64 j))∧
 Calls Tryz.prog 23 #[.pointer d] ah fun Q n=>
 ∃ y:Int,(Q=.returned (.int .i64 y))∧
 Br (j !=0)
 (Br (j==1)
 (K (.bool true) n)
 (K (.bool (j==7)) n))
 (Calls Tryz.prog 24 #[.pointer d] n fun T aa=>
 ∃ z:Int,(T=.returned (.int .i64 z))∧
 New (.cells #[.int .i64 (IntKind.i64.wrap (z + 1)),.int .i64 0,.int .i64 0,.slice none 0 0] 55 (0,0)) (fun G ab=>
 Calls Tryz.prog 18 #[.pointer d,.slice ((some ⟨G,0,none⟩)) 1 1] ab fun U ac=>
 ∃ Y:Int,(U=.returned (.int .i64 Y))∧
 Calls Tryz.prog 25 #[.pointer f,.slice l.a l.len l.cap] ac fun V ad=>
 (V=.returned (.tuple #[]))∧
 Calls Tryz.prog 13 #[.pointer f,.int .i64 i] ad fun X k=>
 ∃ m:Option Addr,∃ A:Int,(X=.returned (.tuple #[.pointer m,.int .i64 A]))∧
 Br (y !=0)
 (K (.bool false) k)
 (Br (A !=0)
 (K (.bool false) k)
 (Br m.isNone
 (K (.bool false) k)
 (Calls Tryz.prog 21 #[.pointer m,.int .i64 1,.int .i64 ((↑b.len:Int))] k fun J ae=>
 ∃ e:Sl,(J=.returned (.slice e.a e.len e.cap))∧
 Calls Tryz.prog 20 #[.slice e.a e.len e.cap,.slice b.a b.len b.cap] ae fun L af=>
 ∃ t:Bool,(L=.returned (.bool t))∧
 K (.bool t) af)))) aa)) Z
def sk5:Sk:=(.seq .leaf (.seq .leaf (.seq .leaf (.cut [] [] [6,21,22,23,24,25,26,27,28,29,30,31,32,33,34] .leaf (.seq .leaf (.cut [] [] [6,39,40,41,42,43,44] .leaf (.seq .leaf (.cut [] [] [6,51,52,53,54,55,56] .leaf .leaf))))))))
theorem call5 (d:Int) (c:Sl) (b:Sl) (K:Value→World→Prop) (w:World) (h:B5 d c b K w):Gets Tryz.prog 5 #[.int .i64 d,.slice c.a c.len c.cap,.slice b.a b.len b.cap] w K:=cq (sk:=sk5) Tryz.func5 (by kernel_rfl) (by kernel_rfl) (by kernel_rfl) h
end Go.Proofs.YtkfedbncmfnpnaaGreatDoor
/- A log on a disk: lists compared, how much is handed, awake. Condition: the library's table of powers is laid. -/
namespace Go.Proofs.YtkfedbncmfnpnaaGreatDoor
set_option linter.unusedVariables false
set_option linter.unusedSimpArgs false
open Go Go.VC
variable {R R':Cx} {Hs Rest:List HP} {w:World} {p d:Nat} {x:WSt} {s sg:Sl} {ds:List DE4} {st:DS}
theorem same06_spec {a b:Sl} {xs ys:List DE4} (ha:RoN 4 R a (xs.map eRow)) (hb:RoN 4 R b (ys.map eRow)) (hx:DsR R xs) (hy:DsR R ys) (he:erE xs=erE ys) (hl:xs.length≤1000000) (hm:∀ e∈xs,e.2.dt.length≤9223372036854775807) (hw:Sat R Hs w):
  Gets Tryz.prog 20 #[.slice a.a a.len a.cap,.slice b.a b.len b.cap] w fun v w'=>v=.bool true∧Sat R Hs w':=by
 have h1:a.len=xs.length:=by have:=ha.len;simpa using this
 have h2:b.len=ys.length:=by have:=hb.len;simpa using this
 have h3:xs.length=ys.length:=by have:=congrArg List.length he;simpa using this
 apply call20
 refine Br.ne (fun h=>absurd (by omega) h) (fun _=>?_)
 refine ⟨fun i w=>∃ k:Nat,i=k∧k≤xs.length∧Sat R Hs w,fun i _=>xs.length - i.toNat,⟨0,rfl,Nat.zero_le _,hw⟩,?_⟩
 clear hw
 rintro _ _ w ⟨k,rfl,hk,hw⟩
 refine Br.d (fun h=>?_) (fun h=>⟨rfl,hw⟩)
 have hkx:k<xs.length:=by omega
 have hky:k<ys.length:=by omega
 have hek:xs[k].2=ys[k].2:=by
  have h4:(erE xs)[k]'(by simpa using hkx)=(erE ys)[k]'(by simpa using hky):=by congr 1
  simpa using h4
 refine drw_rule hw fun w hw=>?_
 have r1:ReadsN 4 a (xs.map eRow) (Sat R Hs):=ha.reads fun w h=>h
 have r2:ReadsN 4 b (ys.map eRow) (Sat R Hs):=hb.reads fun w h=>h
 refine r1.rngM hkx fun _ _ el=>⟨xs[k].2.ix,el.zz (by exact ⟨rfl,trivial⟩),?_⟩
 refine r2.rngM hky fun _ _ fl=>⟨ys[k].2.ix,fl.zz (by exact ⟨rfl,trivial⟩),?_⟩
 refine Br.ne (fun h=>absurd (by rw [hek]) h) (fun _=>?_)
 refine r1.rngM hkx fun _ _ el=>⟨xs[k].2.tm,el.f 1 (by exact ⟨rfl,trivial⟩),?_⟩
 refine r2.rngM hky fun _ _ fl=>⟨ys[k].2.tm,fl.f 1 (by exact ⟨rfl,trivial⟩),?_⟩
 refine Br.ne (fun h=>absurd (by rw [hek]) h) (fun _=>?_)
 refine r1.rngM hkx fun _ _ el=>⟨xs[k].2.kd,el.f 2 (by exact ⟨rfl,trivial⟩),?_⟩
 refine r2.rngM hky fun _ _ fl=>⟨ys[k].2.kd,fl.f 2 (by exact ⟨rfl,trivial⟩),?_⟩
 refine Br.ne (fun h=>absurd (by rw [hek]) h) (fun _=>?_)
 have hd1:=hm _ (List.getElem_mem hkx)
 have hd2:ys[k].2.dt.length≤9223372036854775807:=by rw [←hek];exact hd1
 refine r1.rngM hkx fun _ _ el=>⟨xs[k].1,el.f 3 (by exact ⟨rfl,trivial⟩),VC.strOf xs[k].2.dt,fun w' h'=>convS_ro Tryz.underlying53 Tryz.underlying5 Tryz.underlying9 h' ((hx _ (List.getElem_mem hkx)).ro (by simpa using hd1)),?_⟩
 refine r2.rngM hky fun _ _ fl=>⟨ys[k].1,fl.f 3 (by exact ⟨rfl,trivial⟩),VC.strOf ys[k].2.dt,fun w' h'=>convS_ro Tryz.underlying53 Tryz.underlying5 Tryz.underlying9 h' ((hy _ (List.getElem_mem hky)).ro (by simpa using hd2)),?_⟩
 refine Br.sne (fun h=>absurd (by rw [hek]) h) (fun _=>?_)
 rw [wrap64 (by omega) (by omega)]
 exact ⟨⟨k + 1,by omega,by omega,hw⟩,by dsimp only;omega⟩
def sumD (l:List Ey):Int:=(l.map fun e=>(e.dt.length:Int)).sum
theorem costE_eq (l:List Ey):costE l=50 * l.length + sumD l:=by
 unfold costE sumD
 induction l with
 |nil=>simp
 |cons e l ih=>simp only [List.map_cons,List.sum_cons,List.length_cons];omega
theorem sumD_nn (l:List Ey):0≤sumD l:=by
 unfold sumD
 induction l with
 |nil=>simp
 |cons e l ih=>simp only [List.map_cons,List.sum_cons];omega
theorem sumD_step (l:List Ey) {k:Nat} (h:k<l.length):sumD (l.take (k + 1))=sumD (l.take k) + l[k].dt.length:=by
 unfold sumD
 have e:l.take (k + 1)=l.take k++[l[k]]:=(List.take_append_getElem h).symm
 rw [e,List.map_append,List.sum_append]
 simp
abbrev stRow (sl:Sl):List Value:=[.int .i64 0,.int .i64 0,.int .i64 0,.slice sl.a sl.len sl.cap,.slice none 0 0]
set_option maxRecDepth 4000 in
theorem much06_spec {l sl:Sl} {dl:List DE4} (hr:∀ S:World→Prop,(∀ w,S w→Sat R Hs w)→ReadsN 5 l ([sl].map stRow) S) (hl:RoN 4 R sl (dl.map eRow)) (hd:DsR R dl) (hm:∀ e∈dl,e.2.dt.length≤140737488351232) (hw:Sat R Hs w):
  Gets Tryz.prog 9 #[.slice none 0 0,.slice l.a l.len l.cap] w fun v w'=>∃ b:Bool,v=.bool b∧(b=false→dl.length≤1000∧30 * (dl.length:Int) + sumD (erE dl)≤30000)∧Sat R Hs w':=by
 have hlen:=(hr _ (eqS hw)).1
 have hlen:l.len=1:=hlen
 have hsl:sl.len=dl.length:=by have:=hl.len;simpa using this
 refine call9 ⟨none,0,0⟩ l _ w ?_
 unfold B9
 refine ⟨fun n w=>n=0∧Sat R Hs w,⟨fun n i w=>n=0∧i=0∧Sat R Hs w,fun _ _ _=>0,⟨rfl,rfl,hw⟩,?_⟩,?_⟩
 ·clear hw
  rintro _ _ _ w ⟨rfl,rfl,hw⟩
  refine ⟨fun _=>False,Br.d (fun h=>by simp at h) (fun _=>⟨rfl,hw⟩),fun _ _ h=>h.elim⟩
 clear hw
 rintro _ _ w ⟨rfl,hw⟩
 refine ⟨fun n i w=>((i=0∧n=0)∨(i=1∧dl.length≤1000∧n=30 * (dl.length:Int) + sumD (erE dl)∧n≤30000))∧Sat R Hs w,fun _ i _=>1 - i.toNat,⟨.inl ⟨rfl,rfl⟩,hw⟩,?_⟩
 clear hw
 rintro _ n i w ⟨hin,hw⟩
 rcases hin with ⟨rfl,rfl⟩|⟨rfl,h1,h2,h3⟩
 ·refine ⟨fun w=>Sat R Hs w,Br.d (fun _=>Br.d (fun _=>hw) (fun h=>by simp at h)) (fun h=>absurd (by omega) h),?_⟩
  clear hw
  rintro _ w hw
  have hS:=hr _ (eqS hw)
  refine hS.rngM (k:=0) (by simp) fun a _ he=>⟨sl,he.f 3 (by exact ⟨rfl,trivial⟩),Br.d (fun _=>⟨true,rfl,(fun h=>by cases h),hw⟩) (fun g1=>?_)⟩
  refine hS.rngM (k:=0) (by simp) fun a _ he=>⟨sl,he.f 3 (by exact ⟨rfl,trivial⟩),?_⟩
  rw [wrap64 (x:=30 * (sl.len:Int)) (by omega) (by omega),wrap64 (by omega) (by omega)]
  refine ⟨fun n k w=>∃ j:Nat,k=j∧j≤dl.length∧n=30 * (dl.length:Int) + sumD ((erE dl).take j)∧Sat R Hs w,fun _ k _=>dl.length - k.toNat,⟨0,rfl,Nat.zero_le _,by simp [sumD,hsl],hw⟩,?_⟩
  clear hw
  rintro _ n _ w ⟨j,rfl,hj,hn,hw⟩
  have hel:(erE dl).length=dl.length:=by simp
  have hS:=hr _ (eqS hw)
  have hnn:=sumD_nn ((erE dl).take j)
  refine ⟨fun w=>j<dl.length∧n<100000∧Sat R Hs w,hS.rngM (k:=0) (by simp) fun a _ he=>⟨sl,he.f 3 (by exact ⟨rfl,trivial⟩),?_⟩,?_⟩
  ·refine Br.d (fun h=>Br.d (fun h2=>⟨by omega,h2,hw⟩) (fun h2=>?_)) (fun h=>?_)
   ·refine Br.d (fun _=>⟨true,rfl,(fun h=>by cases h),hw⟩) (fun h3=>absurd h3 (by omega))
   ·refine Br.d (fun _=>⟨true,rfl,(fun h=>by cases h),hw⟩) (fun h3=>?_)
    have hjl:j=dl.length:=by omega
    subst hjl
    have et:(erE dl).take dl.length=erE dl:=by rw [←hel,List.take_length]
    rw [et] at hn
    exact ⟨⟨.inr ⟨by rw [wrap64 (by omega) (by omega)];rfl,by omega,hn,by omega⟩,hw⟩,by show (1 - (IntKind.i64.wrap (0 + 1)).toNat:Nat)<1 - (0:Int).toNat;rw [wrap64 (by omega) (by omega)];decide⟩
  clear hw
  rintro _ w ⟨hj2,hn2,hw⟩
  have hS:=hr _ (eqS hw)
  refine hS.rngM (k:=0) (by simp) fun a _ he=>⟨sl,he.f 3 (by exact ⟨rfl,trivial⟩),?_⟩
  have hL:ReadsN 4 sl (dl.map eRow) (fun w'=>w'=w):=hl.reads (eqS hw)
  refine hL.rngM hj2 fun a _ el=>⟨dl[j].1,el.f 3 (by exact ⟨rfl,trivial⟩),?_⟩
  have hdl:=hd.len (List.getElem_mem hj2)
  have hm2:=hm _ (List.getElem_mem hj2)
  have hst:=sumD_step (erE dl) (k:=j) (by omega)
  have hx:(erE dl)[j]'(by omega)=dl[j].2:=by simp
  rw [hx] at hst
  rw [wrap64 (by omega) (by omega),wrap64 (by omega) (by omega)]
  exact ⟨⟨j + 1,by omega,by omega,by omega,hw⟩,by dsimp only;omega⟩
 ·have fin:∃ b:Bool,Value.bool (decide (n>30000))=.bool b∧(b=false→dl.length≤1000∧30 * (dl.length:Int) + sumD (erE dl)≤30000)∧Sat R Hs w:=⟨_,rfl,fun _=>⟨h1,by omega⟩,hw⟩
  exact ⟨fun _=>False,Br.d (fun h=>by omega) (fun _=>fin),fun _ _ h=>h.elim⟩
theorem xOf_wbk {n:Nat} {i lim:Int} {ess:List (List Ey)} {st:DS} (h:Fu st n i ess) (h2:ess.length≤40000) (hn:n≤40000) (h3:ess.flatten.length≤100000):WBk (xOf lim n i ess) 80000:=by
 have hi1:=h.i1;have hi2:=h.i2
 have hmn:∀ (a:List (List Ey)) (n:Nat) (i:Int),∀ c∈mkC n i a,c.num<n + a.length:=by
  intro a
  induction a with
  |nil=>intro n i c hc;cases hc
  |cons x a ih=>
   intro n i c hc
   unfold mkC at hc
   rcases List.mem_cons.1 hc with rfl|hc
   ·simp
   ·have:=ih _ _ c hc;simp;omega
 refine ⟨by show 0≤i - 1;omega,by show i - 1≤_;omega,?_,?_,?_,fun g hg=>?_⟩
 ·show ess.flatten.length≤_
  omega
 ·show 0<((mkC n i ess).map Sc.sg).length
  rw [List.length_map,mkC_len]
  exact List.length_pos_iff.2 h.ne
 ·show ((mkC n i ess).map Sc.sg).length≤_
  rw [List.length_map,mkC_len];omega
 ·obtain ⟨c,hc,rfl⟩:=List.mem_map.1 hg
  have:=hmn _ _ _ c hc
  obtain ⟨m,hm⟩:=h.get c hc
  have hrd:=readD_le h.inv (segName c.num)
  rw [read_get h.off (seg_nameOk _) hm] at hrd
  simp only at hrd
  refine ⟨by show c.num≤_;omega,by show (0:Int)≤c.bytes.length;omega,by show (c.bytes.length:Int)≤_;omega⟩
theorem new_open {d:Nat} {room lim:Int} (h0:1000≤room) (h1:room≤16777216) (h2:32≤lim) (h3:lim≤65536) (hp:PowR R) (hw:Sat R (DiskAt d ⟨room,[],-1,-1,false⟩::Hs) w):
  Gets Tryz.prog 13 #[.pointer (some ⟨d,0,none⟩),.int .i64 lim] w fun v w'=>∃ (R':Cx) (p:Nat) (s:Sl) (ds:List DE4) (sg:Sl) (st:DS),R.Ext R'∧v=.tuple #[.pointer (some ⟨p,0,none⟩),.int .i64 0]∧DsR R' ds∧erE ds=(xOf lim 1 1 [[]]).g.l∧
   Fu st 1 1 [[]]∧Calm st∧total st.fs≤21∧st.room=room∧Sat R' (WX p d (xOf lim 1 1 [[]]) s sg ds st Hs) w':=by
 have i0:Inv ⟨room,[],-1,-1,false⟩:=inv_new (by omega) h1
 obtain ⟨st,e1,e2,e3,f,c,t,r⟩:=fresh_full h0 h1 h2 h3 i0
 refine (open_spec lim i0 (fun e he=>by cases he) (by simp) hp hw).mono fun v w' h=>?_
 rw [e1] at h
 rcases h with ⟨h,_⟩|⟨_,R',p,s,ds,sg,g1,g2,g3,g4,_,_,_,_,g9⟩
 ·exact absurd rfl h
 ·rw [e3] at g4 g9
  rw [e2] at g9
  exact ⟨R',p,s,ds,sg,st,g1,g3,g2,g4,f,c,t,r,g9⟩
theorem awake_spec (hp:PowR R) (hw:Sat R Hs w):Gets Tryz.prog 8 #[] w fun v w'=>∃ R',R.Ext R'∧v=.bool true∧Sat R' Hs w':=by
 apply call8
 refine (new_ok (room:=1000) (by omega) (by omega) hw).use ?_
 clear hw
 rintro _ w ⟨d,rfl,hw⟩
 refine ⟨_,_,rfl,fun w=>Sat R (DiskAt d ⟨1000,[],-1,-1,false⟩::Hs) w,Br.ne (fun h=>absurd rfl h) (fun _=>Br.f rfl hw),?_⟩
 clear hw
 rintro _ w hw
 refine (new_open (lim:=100) (by omega) (by omega) (by omega) (by omega) hp hw).use ?_
 clear hw
 rintro _ w ⟨R1,p,s,ds,sg,st,e1,rfl,hd,he,f,c,t,r,hw⟩
 refine ⟨_,_,rfl,Br.e (fun _=>?_) (fun h=>absurd rfl h)⟩
 refine Br.t rfl ?_
 have b:=(xOf_wbk (lim:=100) f (by simp) (by omega) (by simp)).wb (by omega)
 refine (first_spec b hw).use ?_
 clear hw
 rintro _ w ⟨rfl,hw⟩
 refine ⟨_,rfl,Br.e (fun _=>?_) (fun h=>absurd (by decide) h)⟩
 obtain ⟨x,hx⟩:∃ x,x=xOf 100 1 1 [[]]:=⟨_,rfl⟩
 rw [←hx] at hw
 have hw:Sat R1 (DiskAt d st::pts p (wCells d x.lim x.g.base s sg x.brk)::EntO s ds::SegO sg x.segs::Hs) w:=hw.arr
 have hl:st.fs.length=1:=by rw [f.perm.length_eq];simp [mkC]
 refine (names_spec f.inv (by omega) hw).use ?_
 clear hw
 rintro _ w ⟨t,rfl,hw⟩
 have htl:=Own.len hw
 rw [List.length_map,seg_names f.perm f.chain.nums.2 fun c hc=>(chain_bd f.chain c hc).2] at htl
 have htl:t.len=1:=htl
 refine ⟨_,rfl,R1,e1,?_,hw.drop.drop.drop.drop.drop⟩
 rw [htl]
 rfl
end Go.Proofs.YtkfedbncmfnpnaaGreatDoor

/- ROW: from a reading of an argument to what the contracts ask; from a walk's end to 'Below'. No condition. -/
namespace Go.VC
set_option linter.unusedVariables false
set_option linter.unusedSimpArgs false
open Go.ChangeShapes Go.WideShapes Go.ChangeAt Go.RowKit
theorem below_of {W W':World} {Hs:List HP} (h:Sat (Cx.of W) Hs W'):Below W.heap.size W W':=by
 obtain ⟨h1,h2,h3⟩:=h.streams
 have hb:∀ k,k<W.heap.size→W'.heap[k]? =W.heap[k]?:=fun k hk=>by
  have:(Cx.of W).m k=some W.heap[k]:=by simp [Cx.of,hk]
  rw [h.of_ro this];simp [hk]
 refine ⟨h1,h2,h3,?_,hb⟩
 rcases Nat.lt_or_ge W'.heap.size W.heap.size with hl|hl
 ·have:=hb W'.heap.size hl
  rw [Array.getElem?_eq_none (Nat.le_refl _)] at this
  simp [hl] at this
 ·exact hl
theorem block_of_cell {w:World} {a:Addr} {v:Value} (h:w.cell? a=some v):a.spot=none∧∃ l T fr,w.heap[a.block]? =some (.cells l T fr)∧l[a.off]? =some v:=by
 unfold World.cell? at h
 split at h
 ·rename_i c T fr hb
  split at h
  ·cases h
  ·rename_i hs
   exact ⟨by simpa using hs,c,T,fr,hb,h⟩
 ·cases h
theorem ro_of_cells {W:World} {a:Addr} {n c:Nat} {xs:List Value} (hn:n=xs.length) (hb:xs.length≤9223372036854775807)
  (hc:∀ i (h:i<xs.length),W.cell? (a.add i)=some xs[i]):Ro (Cx.of W) ⟨some a,n,c⟩ xs:=by
 refine ⟨hn,hb,fun hne=>?_⟩
 have h0:0<xs.length:=List.length_pos_iff.2 hne
 have hc0:=hc 0 h0
 simp only [Addr.add,if_true] at hc0
 obtain ⟨hs,l,T,fr,hl,_⟩:=block_of_cell hc0
 refine ⟨a.block,a.off,l,T,fr,?_,hl,fun i v hv=>?_⟩
 ·cases a;simp_all
 ·obtain ⟨hi,rfl⟩:=List.getElem?_eq_some_iff.1 hv
  obtain ⟨_,l',T',fr',hl',hx⟩:=block_of_cell (hc i hi)
  have e1:(a.add i).block=a.block:=by unfold Addr.add;split<;>rfl
  have e2:(a.add i).off=a.off + i:=by unfold Addr.add;split<;>simp_all
  rw [e1,hl] at hl'
  cases hl'
  rw [e2] at hx
  exact hx
section
variable {H:Type} {enc:TypeId × Value→H} {P:Program} {W:World} {base:Nat} {spare:Nat→Bool} {held:Bool}
theorem ro_nil {W:World} {c:Nat}:Ro (Cx.of W) ⟨none,0,c⟩ []:=⟨rfl,by simp,fun h=>absurd rfl h⟩
theorem roI_of_trod {t e:TypeId} {fuel:Nat} {a:Option Addr} {n c:Nat} {x:DataW H × List MemPlace} (ht:P.underlying t=some (.slice e)) (he:P.underlying e=some (.int .i64)) (hc:P.cellsOf e=1)
  (h:DataW.trod enc P W base spare held fuel t [.slice a n c]=some x):∃ xs,RoI (Cx.of W) ⟨a,n,c⟩ xs∧∀ z∈xs,-9223372036854775808≤z∧z<9223372036854775808:=by
 rcases open_ints ht he hc h with ⟨hcs,_⟩|⟨x,l,cp,zs,hcs,_,hl,hm,hz,_,hcell,hwz⟩
 ·simp at hcs
  obtain ⟨rfl,rfl,rfl⟩:=hcs
  exact ⟨[],ro_nil,fun z hz=>by cases hz⟩
 ·simp at hcs
  obtain ⟨rfl,rfl,rfl⟩:=hcs
  have hlz:n≤zs.length:=by rw [hz];split<;>omega
  refine ⟨zs.take n,ro_of_cells (by simp;omega) ?_ ?_,fun z hz=>?_⟩
  ·unfold maxLen at hm;simp;omega
  ·intro i hi
   simp at hi
   rw [hcell i (by omega)]
   have:i<zs.length:=by omega
   simp [this]
  ·have:=hwz z (List.mem_of_mem_take hz)
   simp only [Lit.wf] at this
   simp [IntKind.min,IntKind.max,IntKind.bits,IntKind.signed] at this
   omega
end
end Go.VC
/- ROW, part 2: arguments that came in, by their types: what the contracts ask. No condition. -/
namespace Go.VC
set_option linter.unusedVariables false
set_option linter.unusedSimpArgs false
open Go.ChangeShapes Go.WideShapes Go.ChangeAt Go.RowKit
section
variable {H:Type} {enc:TypeId × Value→H} {P:Program} {W:World} {r:Reach} {b0:Nat} {t e:TypeId} {v:Value} {d:DataW H} {p:List MemPlace} {n:Nat}
theorem ints_in (ht:P.underlying t=some (.slice e)) (he:P.underlying e=some (.int .i64)) (hc:P.cellsOf e=1) (hv:Value.okWide P W r b0 t v) (h:DataW.Trod enc P W 0 (fun _=>true) true t v d p):
  ∃ s xs,v=.slice s.a s.len s.cap∧RoI (Cx.of W) s xs∧∀ z∈xs,-9223372036854775808≤z∧z<9223372036854775808:=by
 obtain ⟨a,l,c,rfl⟩:=okWide_slice ht hv
 obtain ⟨fuel,hf⟩:=h
 obtain ⟨xs,hx,hb⟩:=roI_of_trod ht he hc (by simpa [Value.cells] using hf)
 exact ⟨⟨a,l,c⟩,xs,rfl,hx,hb⟩
end
end Go.VC
/- ROW, part 3: arguments of any plain type (integers, bools, floats, strings, slices, structs, arrays of such), read as trees. No condition. -/
namespace Go.VC
set_option linter.unusedVariables false
set_option linter.unusedSimpArgs false
open Go.ChangeShapes Go.WideShapes Go.ChangeAt Go.RowKit
inductive Tr where
 |int (k:IntKind) (n:Int)|bool (b:Bool)|flt (n:Nat)|str (s:ByteArray)|sl (s:Sl) (xs:List Tr)|st (xs:List Tr)
mutual
def Tr.cells:Tr→List Value
 | .int k n=>[.int k n]
 | .bool b=>[.bool b]
 | .flt n=>[.float .f64 n]
 | .str s=>[.string s]
 | .sl s _=>[.slice s.a s.len s.cap]
 | .st xs=>Tr.cellsL xs
def Tr.cellsL:List Tr→List Value
 |[]=>[]
 |x::xs=>x.cells++Tr.cellsL xs
end
inductive U where
 |int (k:IntKind)|bool|flt|str|sl (u:U)|st (us:List U)
mutual
def U.size:U→Nat
 | .st us=>U.sizeL us
 |_=>1
def U.sizeL:List U→Nat
 |[]=>0
 |u::us=>u.size + U.sizeL us
end
mutual
def Tr.Ok (R:Cx):U→Tr→Prop
 | .int k,.int k' n=>k'=k∧(Lit.int k n).wf=true
 | .bool,.bool _=>True
 | .flt,.flt n=>(Lit.float .f64 n).wf=true
 | .str,.str s=>s.size≤maxLen
 | .sl u,.sl s xs=>(RoN u.size R s (xs.map Tr.cells)∧s.len≤s.cap)∧xs.length≤maxLen∧Tr.OkA R u xs
 | .st us,.st xs=>Tr.OkL R us xs
 |_,_=>False
def Tr.OkA (R:Cx) (u:U):List Tr→Prop
 |[]=>True
 |x::xs=>Tr.Ok R u x∧Tr.OkA R u xs
def Tr.OkL (R:Cx):List U→List Tr→Prop
 |[],[]=>True
 |u::us,x::xs=>Tr.Ok R u x∧Tr.OkL R us xs
 |_,_=>False
end
theorem Tr.okA {R:Cx} {u:U}:∀ {xs:List Tr},Tr.OkA R u xs→∀ x∈xs,Tr.Ok R u x
 |[],_,x,hx=>by cases hx
 |y::ys,h,x,hx=>by
  unfold Tr.OkA at h
  rcases List.mem_cons.1 hx with rfl|hx
  ·exact h.1
  ·exact Tr.okA h.2 x hx
theorem Tr.okA_mk {R:Cx} {u:U}:∀ {xs:List Tr},(∀ x∈xs,Tr.Ok R u x)→Tr.OkA R u xs
 |[],_=>by unfold Tr.OkA;trivial
 |y::ys,h=>by
  unfold Tr.OkA
  exact ⟨h y List.mem_cons_self,Tr.okA_mk fun x hx=>h x (List.mem_cons_of_mem _ hx)⟩
def fieldsU (P:Program) (f:TypeId→Option U):Nat→List Field→Option (List U)
 |_,[]=>some []
 |off,x::xs=>match Nat.beq x.offset off with
  |false=>none
  |true=>match f x.type with
   |none=>none
   |some u=>match Nat.beq (P.cellsOf x.type) u.size with
    |false=>none
    |true=>match fieldsU P f (off + u.size) xs with
     |none=>none
     |some us=>some (u::us)
def uOf (P:Program):Nat→TypeId→Option U
 |0,_=>none
 |d + 1,t=>match P.underlying t with
  |some (.int k)=>some (.int k)
  |some .bool=>some .bool
  |some (.float .f64)=>some .flt
  |some .string=>some .str
  |some (.slice e)=>match uOf P d e with
   |some u=>(match Nat.beq (P.cellsOf e) u.size && Nat.blt 0 u.size with|true=>some (.sl u)|false=>none)
   |none=>none
  |some (.struct fs)=>match fieldsU P (uOf P d) 0 fs.toList with
   |some us=>(match Nat.beq (P.cellsOf t) (U.sizeL us) with|true=>some (.st us)|false=>none)
   |none=>none
  |some (.array n e)=>match uOf P d e with
   |some u=>(match Nat.beq (P.cellsOf e) u.size && Nat.beq (P.cellsOf t) (n * u.size) with|true=>some (.st (List.replicate n u))|false=>none)
   |none=>none
  |_=>none
section
variable {H:Type} {enc:TypeId × Value→H} {P:Program} {W:World} {base:Nat} {spare:Nat→Bool} {held:Bool}
def IsTr (R:Cx) (u:U) (cs:List Value):Prop:=∃ x:Tr,x.cells=cs∧x.Ok R u
theorem cells?_cell {w:World} {base:Nat} {a:Addr} {n:Nat} {cs:List Value} (h:w.cells? base a n=some cs):cs.length=n∧∀ i,i<n→w.cell? (a.add i)=cs[i]?:=by
 unfold World.cells? at h
 split at h
 ·refine ⟨by have:=mapM_some_length h;simpa using this,fun i hi=>mapM_some_get h i i (by simp [hi])⟩
 ·cases h
theorem add_add (a:Addr) (i j:Nat) (hs:a.spot=none):(a.add i).add j=⟨a.block,a.off + (i + j),none⟩:=by
 obtain ⟨b,o,s⟩:=a
 simp only at hs
 subst hs
 rw [add_off,add_off,Nat.add_assoc]
theorem fields_read {d:Nat} (ih:∀ {fuel:Nat} {t:TypeId} {cs:List Value} {y:DataW H × List MemPlace} {u:U},uOf P d t=some u→DataW.trod enc P W base spare held fuel t cs=some y→IsTr (Cx.of W) u cs) {n:Nat} {cs:List Value} {xs:List (DataW H × List MemPlace)}:
  ∀ (fs:List Field) (off:Nat) (us:List U),fieldsU P (uOf P d) off fs=some us→(∀ (i:Nat) (f:Field),fs[i]? =some f→∃ y,DataW.trod enc P W base spare held n f.type ((cs.drop f.offset).take (P.cellsOf f.type))=some y)→
   off + U.sizeL us≤cs.length→∃ ts:List Tr,Tr.cellsL ts=(cs.drop off).take (U.sizeL us)∧Tr.OkL (Cx.of W) us ts
 |[],off,us,h,_,_=>by
  simp only [fieldsU,Option.some.injEq] at h
  subst h
  exact ⟨[],by simp [Tr.cellsL,U.sizeL],by unfold Tr.OkL;trivial⟩
 |f::fs,off,us,h,hf,hl=>by
  unfold fieldsU at h
  split at h
  ·cases h
  rename_i hoff
  have hoff:=Nat.eq_of_beq_eq_true hoff
  split at h
  ·cases h
  rename_i u hu
  split at h
  ·cases h
  rename_i hc
  have hc:=Nat.eq_of_beq_eq_true hc
  split at h
  ·cases h
  rename_i us' hus
  cases h
  simp only [U.sizeL] at hl ⊢
  obtain ⟨y,hy⟩:=hf 0 f rfl
  obtain ⟨x,hx,hxo⟩:=ih hu hy
  obtain ⟨ts,hts,htso⟩:=fields_read ih (n:=n) (xs:=xs) fs (off + u.size) us' hus (fun i g hg=>hf (i + 1) g (by simpa using hg)) (by omega)
  refine ⟨x::ts,?_,by unfold Tr.OkL;exact ⟨hxo,htso⟩⟩
  simp only [Tr.cellsL]
  rw [hx,hts,hoff,hc,List.take_add,List.drop_drop]
theorem reps_read {u:U} {n s:Nat}:∀ {m:Nat} {cs:List Value},cs.length=m * s→u.size=s→(∀ i,i<m→IsTr (Cx.of W) u ((cs.drop (i * s)).take s))→∃ ts:List Tr,Tr.cellsL ts=cs∧Tr.OkL (Cx.of W) (List.replicate m u) ts
 |0,cs,hl,_,_=>by
  have:cs=[]:=List.length_eq_zero_iff.1 (by simpa using hl)
  subst this
  exact ⟨[],rfl,by unfold Tr.OkL;trivial⟩
 |m + 1,cs,hl,hs,h=>by
  obtain ⟨x,hx,hxo⟩:=h 0 (by omega)
  obtain ⟨ts,hts,htso⟩:=reps_read (n:=n) (m:=m) (cs:=cs.drop s) (by rw [List.length_drop,hl,Nat.add_mul];omega) hs (fun i hi=>by
   have:=h (i + 1) (by omega)
   rw [Nat.add_mul,Nat.one_mul,Nat.add_comm,←List.drop_drop] at this
   exact this)
  refine ⟨x::ts,?_,by rw [List.replicate_succ];unfold Tr.OkL;exact ⟨hxo,htso⟩⟩
  simp only [Tr.cellsL]
  rw [hx,hts]
  simp
theorem choose_list {α β:Type} {p:Nat→α→Prop}:∀ {n:Nat},(∀ i,i<n→∃ x:α,p i x)→∃ xs:List α,xs.length=n∧∀ i (hi:i<xs.length),p i xs[i]
 |0,_=>⟨[],rfl,fun i hi=>by simp at hi⟩
 |n + 1,h=>by
  obtain ⟨xs,hl,hp⟩:=choose_list (β:=β) (n:=n) fun i hi=>h i (by omega)
  obtain ⟨x,hx⟩:=h n (by omega)
  refine ⟨xs++[x],by simp [hl],fun i hi=>?_⟩
  by_cases h2:i<xs.length
  ·rw [List.getElem_append_left h2];exact hp i h2
  ·have:i=n:=by simp at hi;omega
   subst this
   rw [List.getElem_append_right (by omega)]
   simpa using hx
theorem trod_f64 {fuel:Nat} {t:TypeId} {cs:List Value} {x:DataW H × List MemPlace} (ht:P.underlying t=some (.float .f64)) (h:DataW.trod enc P W base spare held fuel t cs=some x):∃ n,cs=[.float .f64 n]∧(Lit.float .f64 n).wf=true:=by
 cases fuel with
 |zero=>simp [DataW.trod] at h
 |succ n=>
  unfold DataW.trod at h
  rw [ht] at h
  split at h<;>simp_all
theorem tr_read:∀ {d fuel:Nat} {t:TypeId} {cs:List Value} {y:DataW H × List MemPlace} {u:U},uOf P d t=some u→DataW.trod enc P W base spare held fuel t cs=some y→IsTr (Cx.of W) u cs
 |0,_,_,_,_,_,h,_=>by cases h
 |d + 1,fuel,t,cs,y,u,h,hy=>by
  unfold uOf at h
  split at h
  ·rename_i k ht
   cases h
   obtain ⟨n,rfl,_,hw⟩:=DataW.trod_int ht hy
   exact ⟨.int k n,rfl,rfl,hw⟩
  ·rename_i ht
   cases h
   obtain ⟨b,rfl,_⟩:=DataW.trod_bool ht hy
   exact ⟨.bool b,rfl,by unfold Tr.Ok;trivial⟩
  ·rename_i ht
   cases h
   obtain ⟨n,rfl,hn⟩:=trod_f64 ht hy
   exact ⟨.flt n,rfl,by unfold Tr.Ok;exact hn⟩
  ·rename_i ht
   cases h
   obtain ⟨s,rfl,_,hs⟩:=DataW.trod_string ht hy
   exact ⟨.str s,rfl,hs⟩
  ·rename_i e ht
   split at h
   case h_2=>cases h
   rename_i ue hue
   split at h
   case h_2=>cases h
   rename_i hc
   simp only [Bool.and_eq_true] at hc
   have hpos:0<ue.size:=Nat.blt_eq.mp hc.2
   have hc:=Nat.eq_of_beq_eq_true hc.1
   cases h
   rcases DataW.trod_slice ht hy with ⟨rfl,_⟩|⟨a,len,cap,elems,rest,n,_,rfl,_,_,hlc,hcm,hel,helem,_,_⟩
   ·refine ⟨.sl ⟨none,0,0⟩ [],rfl,?_⟩
    unfold Tr.Ok
    exact ⟨⟨⟨Wid.nil,rfl,fun h=>absurd rfl h⟩,Nat.le_refl _⟩,Nat.zero_le _,by unfold Tr.OkA;trivial⟩
   ·obtain ⟨xs,hxl,hxs⟩:=choose_list (β:=Unit) (p:=fun i (x:Tr)=>W.cells? base (a.add (i * P.cellsOf e)) (P.cellsOf e)=some x.cells∧x.Ok (Cx.of W) ue) (n:=len) fun i hi=>by
     have h1:=helem i hi
     rw [List.getElem?_eq_getElem (by omega)] at h1
     obtain ⟨ce,hce,hte⟩:=Option.bind_eq_some_iff.1 h1
     obtain ⟨x,rfl,hx⟩:=tr_read hue hte
     exact ⟨x,hce,hx⟩
    refine ⟨.sl ⟨some a,len,cap⟩ xs,rfl,?_⟩
    unfold Tr.Ok
    have hwid:Wid ue.size (xs.map Tr.cells):=fun r hr=>by
     obtain ⟨x,hx,rfl⟩:=List.mem_map.1 hr
     obtain ⟨i,hi,rfl⟩:=List.getElem_of_mem hx
     have:=(cells?_cell (hxs i hi).1).1
     rw [this,hc]
    refine ⟨⟨⟨hwid,by simp [hxl],fun hne=>?_⟩,hlc⟩,by omega,Tr.okA_mk fun x hx=>by obtain ⟨i,hi,rfl⟩:=List.getElem_of_mem hx;exact (hxs i hi).2⟩
    -- the block
    have h0:0<xs.length:=by
     have:0<(xs.map Tr.cells).length:=List.length_pos_iff.2 hne
     simpa using this
    have hcell:∀ i (hi:i<xs.length) j,j<ue.size→W.cell? ((a.add (i * ue.size)).add j)=(xs[i].cells)[j]?:=fun i hi j hj=>by
     have:=(cells?_cell (hxs i hi).1).2 j (by rw [hc];exact hj)
     rw [hc] at this;exact this
    have hxl0:∀ i (hi:i<xs.length),(xs[i].cells).length=ue.size:=fun i hi=>by rw [(cells?_cell (hxs i hi).1).1,hc]
    have hc0:=hcell 0 h0 0 (by omega)
    rw [List.getElem?_eq_getElem (by rw [hxl0 0 h0];omega)] at hc0
    have hz0:(a.add (0 * ue.size)).add 0=a:=by rw [Nat.zero_mul];simp [Addr.add]
    rw [hz0] at hc0
    obtain ⟨hs,l,T,fr,hl,_⟩:=block_of_cell hc0
    refine ⟨a.block,a.off,l,T,fr,by cases a;simp_all,hl,fun i v hv=>?_⟩
    -- which row, which place
    have hlen:=hwid.len
    rw [List.length_map] at hlen
    have hi:i<(xs.map Tr.cells).flatten.length:=(List.getElem?_eq_some_iff.1 hv).1
    have hq:i / ue.size<xs.length:=by
     rw [hlen] at hi;exact Nat.div_lt_of_lt_mul (by rwa [Nat.mul_comm])
    have hm:i % ue.size<ue.size:=Nat.mod_lt _ (by omega)
    have hcc:=hcell (i / ue.size) hq (i % ue.size) hm
    rw [add_add a _ _ hs,show i / ue.size * ue.size + i % ue.size=i by rw [Nat.mul_comm];exact Nat.div_add_mod _ _] at hcc
    have e1:(xs.map Tr.cells).flatten[i]? =(xs[i / ue.size].cells)[i % ue.size]?:=by
     have h1:i=i / ue.size * ue.size + i % ue.size:=by rw [Nat.mul_comm];exact (Nat.div_add_mod _ _).symm
     conv=>lhs;rw [h1]
     rw [←List.getElem?_drop,hwid.drop_flat,List.drop_eq_getElem_cons (by simpa using hq),List.flatten_cons,List.getElem?_append_left (by rw [List.getElem_map,hxl0 _ hq];exact hm),List.getElem_map]
    rw [←e1,hv] at hcc
    simp only [World.cell?,hl,Option.isSome_none,Bool.false_eq_true,if_false] at hcc
    exact hcc
  ·rename_i fs ht
   split at h
   case h_2=>cases h
   rename_i us hus
   split at h
   case h_2=>cases h
   rename_i hc
   have hc:=Nat.eq_of_beq_eq_true hc
   cases h
   obtain ⟨xs,n,_,_,hl,hxl,hf⟩:=DataW.trod_struct ht hy
   obtain ⟨ts,hts,hto⟩:=fields_read (d:=d) (fun h h2=>tr_read h h2) (n:=n) (cs:=cs) (xs:=xs) fs.toList 0 us hus (fun i f hfi=>by
    have hfi2:fs[i]? =some f:=by simpa using hfi
    have hlt:i<xs.length:=by rw [hxl];exact (Array.getElem?_eq_some_iff.1 hfi2).1
    exact ⟨xs[i],by rw [hf i f hfi2];exact List.getElem?_eq_getElem hlt⟩) (by omega)
   refine ⟨.st ts,?_,by unfold Tr.Ok;exact hto⟩
   unfold Tr.cells
   rw [hts,List.drop_zero,List.take_of_length_le (by omega)]
  ·rename_i m e ht
   split at h
   case h_2=>cases h
   rename_i ue hue
   split at h
   case h_2=>cases h
   rename_i hc
   simp only [Bool.and_eq_true] at hc
   have hc1:=Nat.eq_of_beq_eq_true hc.1
   have hc2:=Nat.eq_of_beq_eq_true hc.2
   cases h
   obtain ⟨xs,n,_,_,hl,hxl,hf⟩:=DataW.trod_array ht hy
   obtain ⟨ts,hts,hto⟩:=reps_read (n:=n) (u:=ue) (s:=ue.size) (m:=m) (cs:=cs) (by rw [hl,hc2]) rfl (fun i hi=>by
    have:=hf i hi
    rw [hc1,List.getElem?_eq_getElem (by omega)] at this
    exact tr_read hue this)
   exact ⟨.st ts,by unfold Tr.cells;exact hts,by unfold Tr.Ok;exact hto⟩
  ·cases h
theorem tr_arg {d:Nat} {t:TypeId} {v:Value} {dt:DataW H} {p:List MemPlace} {u:U} (hu:uOf P d t=some u) (h:DataW.Trod enc P W base spare held t v dt p):IsTr (Cx.of W) u v.cells.toList:=by
 obtain ⟨fuel,hf⟩:=h
 exact tr_read hu hf
theorem sl_form {α:Type} {R:Cx} {u:U} {s:Sl} {xs:List Tr} (g:α→List Value) (Q:α→Prop) (ho:Tr.Ok R (.sl u) (.sl s xs)) (h:∀ x:Tr,x.Ok R u→∃ e:α,x.cells=g e∧Q e):
  ∃ es:List α,RoN u.size R s (es.map g)∧es.length≤maxLen∧∀ e∈es,Q e:=by
 unfold Tr.Ok at ho
 obtain ⟨⟨h1,_⟩,h2,h3⟩:=ho
 have key:∀ l:List Tr,(∀ x∈l,x.Ok R u)→∃ es:List α,l.map Tr.cells=es.map g∧es.length=l.length∧∀ e∈es,Q e:=fun l=>by
  induction l with
  |nil=>exact fun _=>⟨[],rfl,rfl,fun _ h=>by cases h⟩
  |cons x l ih=>
   intro hl
   obtain ⟨es,h1,h2,h3⟩:=ih fun y hy=>hl y (List.mem_cons_of_mem _ hy)
   obtain ⟨e,he,hq⟩:=h x (hl x List.mem_cons_self)
   exact ⟨e::es,by rw [List.map_cons,List.map_cons,he,h1],by simp [h2],fun y hy=>by
    rcases List.mem_cons.1 hy with rfl|hy
    ·exact hq
    ·exact h3 y hy⟩
 obtain ⟨es,e1,e2,e3⟩:=key xs (Tr.okA h3)
 rw [e1] at h1
 exact ⟨es,h1,by omega,e3⟩
theorem sl_cap {R:Cx} {u:U} {s:Sl} {xs:List Tr} (ho:Tr.Ok R (.sl u) (.sl s xs)):s.len≤s.cap:=by
 unfold Tr.Ok at ho
 exact ho.1.2
theorem RoN.one {R:Cx} {s:Sl} {vs:List Value} (h:RoN 1 R s (vs.map fun v=>[v])) (hb:vs.length≤maxLen):Ro R s vs:=by
 refine ⟨by have:=h.len;simpa using this,by unfold maxLen at hb;omega,fun hne=>?_⟩
 obtain ⟨b,off,l,T,fr,h1,h2,h3⟩:=h.mem (by simpa using hne)
 refine ⟨b,off,l,T,fr,h1,h2,fun i v hv=>h3 i v ?_⟩
 have:(vs.map fun v=>[v]).flatten=vs:=by
  clear h3 h hb hne hv
  induction vs with
  |nil=>rfl
  |cons v vs ih=>simp [ih]
 rw [this];exact hv
theorem ints_form {R:Cx} {k:IntKind} {s:Sl} {xs:List Tr} (ho:Tr.Ok R (.sl (.int k)) (.sl s xs)):∃ zs:List Int,Ro R s (zs.map (Value.int k))∧zs.length≤maxLen∧∀ z∈zs,(Lit.int k z).wf=true:=by
 obtain ⟨zs,h1,h2,h3⟩:=sl_form (fun z:Int=>[Value.int k z]) (fun z=>(Lit.int k z).wf=true) ho fun x hx=>by
  cases x<;>simp only [Tr.Ok] at hx
  rename_i k' z
  obtain ⟨rfl,hw⟩:=hx
  exact ⟨z,rfl,hw⟩
 refine ⟨zs,RoN.one ?_ (by simpa using h2),h2,h3⟩
 rw [List.map_map]
 exact h1
end
end Go.VC
/- ROW, part 4: how large what is handed may be. No condition. -/
namespace Go.VC
set_option linter.unusedVariables false
set_option linter.unusedSimpArgs false
open Go.ChangeShapes Go.WideShapes Go.ChangeAt Go.RowKit
variable {H:Type} {enc:TypeId × Value→H} {P:Program} {W:World} {base:Nat} {spare:Nat→Bool} {held:Bool}
def Light (P:Program) (t:TypeId) (d:DataW H):Prop:=∀ k∈d.weights P t,k≤reachBytes
theorem light_arg {ts:List TypeId} {ds:List (DataW H)} {j:Nat} {t:TypeId} {d:DataW H} (h:(DataW.weightsEach P ts ds).all (·≤reachBytes)=true) (ht:ts[j]? =some t) (hd:ds[j]? =some d):Light P t d:=fun k hk=>by
 have:=List.all_eq_true.1 h _ (DataW.weights_mem_each ht hd k hk)
 simpa using this
theorem light_slice {fuel:Nat} {t e:TypeId} {a:Option Addr} {n c:Nat} {d:DataW H} {p:List MemPlace} (ht:P.underlying t=some (.slice e)) (h:DataW.trod enc P W base spare held fuel t [.slice a n c]=some (d,p)) (hw:Light P t d):n * P.bytesOf e≤reachBytes:=by
 rcases DataW.trod_slice ht h with ⟨h1,_⟩|⟨a',len,cap,elems,rest,m,_,h1,h2,_,_,_,hel,_⟩
 ·simp only [List.cons.injEq,Value.slice.injEq,and_true] at h1
  rw [h1.2.1]
  omega
 ·simp only [List.cons.injEq,Value.slice.injEq,and_true] at h1
  have hd:d=.slice (elems.map (·.1)) (rest.map (·.1)):=congrArg Prod.fst h2
  have:=hw ((elems.length + rest.length) * P.bytesOf e) (by rw [hd];simp [DataW.weights,ht])
  rw [h1.2.1,←hel]
  exact Nat.le_trans (Nat.mul_le_mul_right _ (by omega)) this
theorem light_field {fuel:Nat} {t T:TypeId} {fs:Array Field} {cs:List Value} {d:DataW H} {p:List MemPlace} (i off n:Nat) (ht:P.underlying t=some (.struct fs)) (h:DataW.trod enc P W base spare held fuel t cs=some (d,p)) (hw:Light P t d)
  (hf:(fs[i]?).map (fun f=>(f.type,f.offset))=some (T,off)) (hn:P.cellsOf T=n):∃ (fuel':Nat) (d':DataW H) (p':List MemPlace),DataW.trod enc P W base spare held fuel' T ((cs.drop off).take n)=some (d',p')∧Light P T d':=by
 obtain ⟨xs,m,_,hx,_,hl,hxs⟩:=DataW.trod_struct ht h
 cases hfi:fs[i]? with
 |none=>rw [hfi] at hf;cases hf
 |some f=>
  rw [hfi] at hf
  simp only [Option.map_some,Option.some.injEq,Prod.mk.injEq] at hf
  obtain ⟨rfl,rfl⟩:=hf
  have hlt:i<xs.length:=by rw [hl];exact (Array.getElem?_eq_some_iff.1 hfi).1
  have h2:=hxs i f hfi
  rw [List.getElem?_eq_getElem hlt,hn] at h2
  refine ⟨m,xs[i].1,xs[i].2,h2,fun k hk=>hw k ?_⟩
  have hd:d=.agg (xs.map (·.1)):=congrArg Prod.fst hx
  rw [hd]
  simp only [DataW.weights,ht]
  refine DataW.weights_mem_each (j:=i) (t:=f.type) (d:=xs[i].1) ?_ ?_ k hk
  ·rw [List.getElem?_map,Array.getElem?_toList,hfi];rfl
  ·rw [List.getElem?_map,List.getElem?_eq_getElem hlt];rfl
theorem reach_eq:reachBytes=140737488351232:=rfl
end Go.VC
/- The arguments that are lists of entries; the table that is laid. No condition. -/
namespace Go.Proofs.YtkfedbncmfnpnaaGreatDoor
set_option linter.unusedVariables false
set_option linter.unusedSimpArgs false
open Go Go.VC Go.ChangeShapes Go.WideShapes Go.ChangeAt Go.RowKit
variable {H:Type} {enc:TypeId × Value→H} {P:Program} {W:World} {r:Reach} {b0:Nat} {v:Value} {d:DataW H} {p:List MemPlace} {spare:Nat→Bool} {held:Bool}
theorem weights_mem_all {e:TypeId}:∀ {ds:List (DataW H)} {d:DataW H},d∈ds→∀ n∈d.weights P e,n∈DataW.weightsAll P e ds
 |x::ds,d,hd,n,hn=>by
  unfold DataW.weightsAll
  rcases List.mem_cons.1 hd with rfl|hd
  ·exact List.mem_append_left _ hn
  ·exact List.mem_append_right _ (weights_mem_all hd n hn)
theorem light_elem {fuel:Nat} {t e:TypeId} {a:Option Addr} {n c:Nat} (ht:P.underlying t=some (.slice e)) (h:DataW.trod enc P W b0 spare held fuel t [.slice a n c]=some (d,p)) (hw:Light P t d) {k:Nat} (hk:k<n):
  ∃ a' cs fuel' d' p',a=some a'∧W.cells? b0 (a'.add (k * P.cellsOf e)) (P.cellsOf e)=some cs∧DataW.trod enc P W b0 spare held fuel' e cs=some (d',p')∧Light P e d':=by
 rcases DataW.trod_slice ht h with ⟨h1,_⟩|⟨a',len,cap,elems,rest,m,_,h1,h2,_,_,_,hel,hall,_⟩
 ·simp only [List.cons.injEq,Value.slice.injEq,and_true] at h1
  omega
 ·simp only [List.cons.injEq,Value.slice.injEq,and_true] at h1
  obtain ⟨ha,hn,_⟩:=h1
  have hke:k<elems.length:=by omega
  have h3:=hall k (by omega)
  rw [List.getElem?_eq_getElem hke,Option.bind_eq_some_iff] at h3
  obtain ⟨cs,h3,h4⟩:=h3
  have hd:d=.slice (elems.map (·.1)) (rest.map (·.1)):=congrArg Prod.fst h2
  refine ⟨a',cs,m,elems[k].1,elems[k].2,ha,h3,h4,fun q hq=>hw q ?_⟩
  rw [hd]
  simp only [DataW.weights,ht]
  exact List.mem_cons_of_mem _ (List.mem_append_left _ (weights_mem_all (List.mem_map_of_mem (List.getElem_mem hke)) q hq))
structure EsR (R:Cx) (s:Sl) (dl:List DE4):Prop where
 rows:RoN 4 R s (dl.map eRow)
 each:DsR R dl
 by':∀ e∈erE dl,∀ y∈e.dt,0≤y∧y<256
 cap:s.len≤s.cap
abbrev entU:U:=.st [.int .i64,.int .i64,.int .i64,.sl (.int .u8)]
theorem ent_form {R:Cx} {x:Tr} (ho:x.Ok R entU):∃ e:DE4,x.cells=eRow e∧SlR R.m e.1 (b8 e.2.dt)∧∀ y∈e.2.dt,0≤y∧y<256:=by
 cases x<;>simp only [Tr.Ok] at ho
 rename_i xs
 match xs,ho with
 |[x0,x1,x2,x3],ho=>
  simp only [Tr.OkL,and_true] at ho
  obtain ⟨h0,h1,h2,h3⟩:=ho
  cases x0<;>simp only [Tr.Ok] at h0
  rename_i k0 n0
  obtain ⟨rfl,_⟩:=h0
  cases x1<;>simp only [Tr.Ok] at h1
  rename_i k1 n1
  obtain ⟨rfl,_⟩:=h1
  cases x2<;>simp only [Tr.Ok] at h2
  rename_i k2 n2
  obtain ⟨rfl,_⟩:=h2
  cases x3<;>simp only [Tr.Ok] at h3
  rename_i sd dx
  have h3:Tr.Ok R (.sl (.int .u8)) (.sl sd dx):=by unfold Tr.Ok;exact h3
  obtain ⟨bs,a1,_,a3⟩:=ints_form h3
  refine ⟨(sd,⟨n0,n1,n2,bs⟩),rfl,⟨a1.len,sl_cap h3,a1.mem⟩,fun z hz=>?_⟩
  have:=a3 z hz
  simp [Lit.wf,IntKind.min,IntKind.max,IntKind.bits,IntKind.signed] at this
  omega
set_option maxRecDepth 100000 in
theorem ents_in (hv:Value.okWide Tryz.prog W r b0 40 v) (h:DataW.Trod enc Tryz.prog W 0 (fun _=>true) true 40 v d p):
  ∃ (s:Sl) (dl:List DE4),v=.slice s.a s.len s.cap∧EsR (Cx.of W) s dl:=by
 obtain ⟨a,n,c,rfl⟩:=okWide_slice Tryz.underlying40 hv
 obtain ⟨x,hx,ho⟩:=tr_arg (d:=8) (u:=.sl entU) (by kernel_rfl) h
 cases x<;>simp only [Tr.Ok] at ho
 rename_i s xs
 have ho:Tr.Ok (Cx.of W) (.sl entU) (.sl s xs):=by unfold Tr.Ok;exact ho
 obtain ⟨es,h1,_,h3⟩:=sl_form (fun z:DE4=>eRow z) (fun e=>SlR (Cx.of W).m e.1 (b8 e.2.dt)∧∀ y∈e.2.dt,0≤y∧y<256) ho fun x hx=>ent_form hx
 have e:[Value.slice s.a s.len s.cap]=[Value.slice a n c]:=by simpa [Tr.cells,Value.cells] using hx
 have e:=(List.cons.inj e).1
 simp only [Value.slice.injEq] at e
 obtain ⟨rfl,rfl,rfl⟩:=e
 refine ⟨s,es,rfl,h1,fun e he=>(h3 e he).1,fun e he=>?_,sl_cap ho⟩
 obtain ⟨q,hq,rfl⟩:=List.mem_map.1 he
 exact (h3 q hq).2
theorem ents_light {s:Sl} {dl:List DE4} (h:DataW.Trod enc Tryz.prog W 0 (fun _=>true) true 40 (.slice s.a s.len s.cap) d p) (hw:Light Tryz.prog 40 d) (hr:EsR (Cx.of W) s dl):∀ e∈dl,e.2.dt.length≤140737488351232:=fun e he=>by
 obtain ⟨k,hk,rfl⟩:=List.mem_iff_getElem.1 he
 obtain ⟨fuel,h⟩:=h
 have h:DataW.trod enc Tryz.prog W 0 (fun _=>true) true fuel 40 [.slice s.a s.len s.cap]=some (d,p):=h
 have hl:=hr.rows.len
 rw [List.length_map] at hl
 obtain ⟨a',cs,f1,d1,p1,ha,hc,h1,w1⟩:=light_elem Tryz.underlying40 h hw (k:=k) (by omega)
 have hce:Tryz.prog.cellsOf 55=4:=by kernel_rfl
 rw [hce] at hc
 obtain ⟨hcl,hcc⟩:=cells?_cell hc
 obtain ⟨b,off,hb,hat⟩:=(hr.rows.reads (eqS (Sat.start W))).2 k (by simpa using hk)
 have hat:=hat 3 [.slice dl[k].1.a dl[k].1.len dl[k].1.cap] (by rw [List.getElem_map];exact ⟨rfl,trivial⟩) W rfl 0 _ rfl
 rw [ha] at hb
 obtain rfl:=Option.some.inj hb
 have h3:cs[3]? =some (.slice dl[k].1.a dl[k].1.len dl[k].1.cap):=by
  rw [←hcc 3 (by omega)]
  simpa [add_off,Nat.add_assoc] using hat
 obtain ⟨f2,d2,p2,h2,w2⟩:=light_field (T:=53) 3 3 1 Tryz.underlying55 h1 w1 (by kernel_rfl) (by kernel_rfl)
 have hcd:(cs.drop 3).take 1=[.slice dl[k].1.a dl[k].1.len dl[k].1.cap]:=by
  match cs,hcl,h3 with
  |[c0,c1,c2,c3],_,h3=>simp at h3;simp [h3]
 rw [hcd] at h2
 have h4:=light_slice Tryz.underlying53 h2 w2
 rw [show Tryz.prog.bytesOf 5=1 by kernel_rfl,reach_eq] at h4
 have:=hr.each.len he
 omega
theorem powR_of (W : World) (h : Lib.TabIs Tryz.prog W "internal/strconv.uint64pow10" .u64 Lib.pow10Tab) : PowR (Cx.of W) := fun Hs w hw => by
 have key:∀ {Hs:List HP} {R:Cx},Sat R Hs w→∀ b o,R.m b=some o→w.heap[b]? =some o:=fun {Hs}=>by
  induction Hs with
  |nil=>exact fun h=>h.1
  |cons H Hs ih=>
   intro R h b o hb
   obtain ⟨g,_,_,h⟩:=h
   refine ih h b o ?_
   simp only [Cx.add,Heap.add,hb]
 unfold Lib.TabIs World.var? at h ⊢
 rw [Option.bind_eq_some_iff] at h
 obtain ⟨g,hg,h⟩:=h
 rw [hg,Option.bind_some]
 split at h
 ·rename_i cs T fr hh
  have:=key hw g _ (show (Cx.of W).m g=_ from hh)
  rw [this]
  exact h
 ·cases h
theorem pow_laid {l1 l2 : String × DataW Unit} {rest : List (String × DataW Unit)} (h : laidMet Tryz.prog (l1 :: l2 :: ("internal/strconv.uint64pow10", Lib.tabData .u64 Lib.pow10Tab) :: rest) W) : PowR (Cx.of W) :=
 powR_of W (Lib.tabIs_of_head (g:=0) (t:=250) (e:=148) (n:=20) (by kernel_rfl) (by kernel_rfl) (by kernel_rfl) (by kernel_rfl) (by kernel_rfl) (by kernel_rfl) h.tail.tail)
end Go.Proofs.YtkfedbncmfnpnaaGreatDoor
/- A log on a disk that only grew, behind a crash: what is found; plain. No program. Condition: none. -/
namespace Go.Proofs.YtkfedbncmfnpnaaGreatDoor
set_option linter.unusedVariables false
set_option linter.unusedSimpArgs false
open Go Go.VC
def AllS (st:DS) (n:Nat) (i:Int) (ess:List (List Ey)):Prop:=∀ c∈mkC n i ess,getM (segName c.num) st.fs=some ⟨c.bytes,c.bytes.length⟩
def Su (st:DS) (n:Nat) (i:Int) (ess:List (List Ey)):Prop:=∀ c∈mkC n i ess,c.num + 1<n + ess.length→getM (segName c.num) st.fs=some ⟨c.bytes,c.bytes.length⟩
theorem AllS.su {st:DS} {n:Nat} {i:Int} {ess:List (List Ey)} (h:AllS st n i ess):Su st n i ess:=fun c hc _=>h c hc
theorem mkC_lt:∀ (a:List (List Ey)) (n:Nat) (i:Int),∀ c∈mkC n i a,c.num<n + a.length:=by
 intro a
 induction a with
 |nil=>intro n i c hc;cases hc
 |cons x a ih=>
  intro n i c hc
  unfold mkC at hc
  rcases List.mem_cons.1 hc with rfl|hc
  ·simp
  ·have:=ih _ _ c hc;simp;omega
theorem seg_ne {st:DS} {n:Nat} {i:Int} {ess:List (List Ey)} (h:Fu st n i ess) {c:Sc} (hc:c∈mkC n i ess) {m:Nat} (hm:m<100000000) (hne:c.num≠m):segName c.num≠segName m:=fun he=>hne (seg_inj (chain_bd h.chain c hc).2 hm he)
theorem roll_full {st:DS} {n:Nat} {i lim:Int} {ess:List (List Ey)} (h:Fu st n i ess) (c:Calm st) (hn:n + ess.length + 1≤100000000) (hr:total st.fs + 21≤st.room) (hsu:Su st n i ess):
  ∃ (st2:DS) (a:List (List Ey)) (es:List Ey),rollW (xOf lim n i ess) st=(st2,0)∧({ xOf lim n i ess with segs:=rollS (xOf lim n i ess) 0 }:WSt)=xOf lim n i (a++[es])∧Fu st2 n i (a++[es])∧(a++[es]).flatten=ess.flatten∧Got st 21 st2∧Su st2 n i (a++[es])∧
   (AllS st n i ess→AllS st2 n i (a++[es]))∧(a++[es]).length≤ess.length + 1:=by
 obtain ⟨a,es,rfl⟩:∃ a es,ess=a++[es]:=by
  rcases List.eq_nil_or_concat ess with h0|⟨a,es,h0⟩
  ·exact absurd h0 h.ne
  ·exact ⟨a,es,by rw [h0,List.concat_eq_append]⟩
 have ht:tailS (xOf lim n i (a++[es])).segs=(lastC n i a es).sg:=by rw [xOf_segs,tail_snoc]
 have hnum:(lastC n i a es).sg.num=n + a.length:=rfl
 have hlast:(xOf lim n i (a++[es])).g.last + 1=i + (a++[es]).flatten.length:=by unfold xOf Lg.last;simp only;omega
 by_cases hroll:(xOf lim n i (a++[es])).lim≤(tailS (xOf lim n i (a++[es])).segs).size
 ·obtain ⟨m,hg⟩:=h.tailget
  obtain ⟨d1,d2,d3,d4⟩:=sync_calm c (seg_nameOk (n + a.length)) hg
  have f1:=h.sync (k:=segName (n + a.length)) (by rw [hg];simp) d1
  have hlen0:(a++[es]).length=a.length + 1:=by simp
  have all1:AllS (syncD st (segName (n + a.length))).1 n i (a++[es]):=fun c hc=>by
   by_cases hk:c.num=n + a.length
   ·obtain ⟨m,hm⟩:=h.get c hc
    rw [hk] at hm ⊢
    exact sync_done hm d1
   ·rw [sync_get (seg_ne h hc (by omega) hk)]
    exact hsu c hc (by have:=mkC_lt _ _ _ c hc;omega)
  obtain ⟨st1,hst1⟩:∃ s,s=(syncD st (segName (n + a.length))).1:=⟨_,rfl⟩
  rw [←hst1] at d2 d3 d4 f1 all1
  have hbl:(headB (n + (a++[es]).length) (i + (a++[es]).flatten.length)).length≤21:=by
   unfold headB
   rw [recB_len]
   have:=hdB_len (n:=n + (a++[es]).length) (next:=i + (a++[es]).flatten.length) (by omega) h.i2
   omega
  obtain ⟨b,hbb⟩:∃ b,b=headB (n + (a++[es]).length) (i + (a++[es]).flatten.length):=⟨_,rfl⟩
  obtain ⟨g1,g2,g3,g4⟩:=append_calm d2 (k:=segName (n + (a++[es]).length)) (xs:=b) (seg_nameOk _) (by rw [hbb];omega)
  have hne:∀ c∈mkC n i (a++[es]),segName c.num≠segName (n + (a++[es]).length):=fun c hc=>seg_ne h hc (by omega) (by have:=mkC_lt _ _ _ c hc;omega)
  have hnone:getM (segName (n + (a++[es]).length)) st1.fs=none:=by
   rcases hgn:getM (segName (n + (a++[es]).length)) st1.fs with _|v
   ·rfl
   ·obtain ⟨c,hc,he⟩:=f1.only _ (by rw [hgn];simp)
    exact absurd he.symm (hne c hc)
  have hgs:=append_new hnone g1
  obtain ⟨j1,j2,j3,j4⟩:=sync_calm g2 (seg_nameOk (n + (a++[es]).length)) hgs
  have hmk:makeD st1 (n + (a++[es]).length) (i + (a++[es]).flatten.length)=syncD (appendD st1 (segName (n + (a++[es]).length)) b).1 (segName (n + (a++[es]).length)):=by
   unfold makeD
   rw [←hbb,thenD_ok g1]
  have f2:=f1.more (by omega) (by rw [hmk];exact j1)
  rw [hmk] at f2
  have all2:AllS (syncD (appendD st1 (segName (n + (a++[es]).length)) b).1 (segName (n + (a++[es]).length))).1 n i ((a++[es])++[[]]):=fun c hc=>by
   rw [mkC_snoc] at hc
   rcases List.mem_append.1 hc with hc|hc
   ·rw [sync_get (hne c hc),append_get (hne c hc)];exact all1 c hc
   ·simp only [List.mem_singleton] at hc
    subst hc
    rw [sync_done hgs j1,hbb]
    simp only [Sc.bytes,Sc.recs,List.map_nil,recsB_one]
    rfl
  obtain ⟨st2,hst2⟩:∃ s,s=(syncD (appendD st1 (segName (n + (a++[es]).length)) b).1 (segName (n + (a++[es]).length))).1:=⟨_,rfl⟩
  rw [←hst2] at j2 j3 j4 f2 all2
  refine ⟨st2,a++[es],[],?_,?_,f2,by simp,⟨j2,by rw [j3,g3,d3,hbb];omega,by rw [j4,g4,d4]⟩,all2.su,fun _=>all2,by simp⟩
  ·unfold rollW
   rw [if_pos hroll,ht,hnum,thenD_ok d1,←hst1,hlast]
   have:n + a.length + 1=n + (a++[es]).length:=by simp;omega
   rw [this,hmk,hst2]
   exact Prod.ext rfl j1
  ·have e1:rollS (xOf lim n i (a++[es])) 0=(xOf lim n i ((a++[es])++[[]])).segs:=by
    unfold rollS
    rw [if_pos ⟨hroll,rfl⟩,ht,hnum,hlast,xOf_segs lim n i (a++[es]) []]
    have:n + a.length + 1=n + (a++[es]).length:=by simp;omega
    rw [this]
    congr 1
    simp only [Sc.sg,Sc.bytes,Sc.recs,List.map_nil,recsB_one]
    rfl
   rw [e1]
   unfold xOf
   simp
 ·have hrw:rollW (xOf lim n i (a++[es])) st=(st,0):=by unfold rollW;rw [if_neg hroll]
  have hx:rollS (xOf lim n i (a++[es])) 0=(xOf lim n i (a++[es])).segs:=by unfold rollS;rw [if_neg fun h=>hroll h.1]
  exact ⟨st,a,es,hrw,by rw [hx],h,rfl,⟨c,by omega,rfl⟩,hsu,fun h=>h,by omega⟩
theorem add_full2 {st:DS} {n:Nat} {i lim:Int} {ess:List (List Ey)} {e:Ey} (h:Fu st n i ess) (c:Calm st) (ho:e.Ok) (hb:∀ y∈e.dt,0≤y∧y<256) (hi:e.ix=i + ess.flatten.length) (hn:n + ess.length + 1≤99999999)
  (hr:total st.fs + (50 + e.dt.length)≤st.room) (hsu:Su st n i ess):∃ (st2:DS) (a:List (List Ey)) (es:List Ey),addW (xOf lim n i ess) st e=(((appendD st2 (segName (n + a.length)) (recB (entB e))).1,0),xOf lim n i (a++[es++[e]]))∧
   Fu st2 n i (a++[es])∧(AllS st n i ess→AllS st2 n i (a++[es]))∧Fu (appendD st2 (segName (n + a.length)) (recB (entB e))).1 n i (a++[es++[e]])∧(appendD st2 (segName (n + a.length)) (recB (entB e))).2=0∧(a++[es]).flatten=ess.flatten∧(a++[es]).length≤ess.length + 1∧
   Got st (50 + e.dt.length) (appendD st2 (segName (n + a.length)) (recB (entB e))).1∧Su (appendD st2 (segName (n + a.length)) (recB (entB e))).1 n i (a++[es++[e]]):=by
 obtain ⟨st2,a,es,q1,q2,f2,q3,q4,s2,al2,q5⟩:=roll_full (lim:=lim) h c (by omega) (by omega) hsu
 have hle:=entB_len ho
 obtain ⟨d1,_,_,_⟩:=append_calm q4.calm (k:=segName (n + a.length)) (xs:=recB (entB e)) (seg_nameOk _) (by rw [recB_len,q4.room];have:=q4.tot;omega)
 obtain ⟨st3,p1,p2,p3,rfl⟩:=put_full (lim:=lim) f2 q4.calm ho hb (by rw [hi,q3]) (by have:=q4.tot;rw [q4.room];omega)
 refine ⟨st2,a,es,?_,f2,al2,p2,d1,q3,q5,⟨p3.calm,by have:=p3.tot;have:=q4.tot;omega,by rw [p3.room,q4.room]⟩,fun c hc hlt=>?_⟩
 ·unfold addW
  rw [q1,if_neg (by simp),q2]
  have:(⟨(xOf lim n i ess).g.base,(xOf lim n i ess).g.l++[e]⟩:Lg)=⟨i - 1,(a++[es]).flatten++[e]⟩:=by rw [q3];rfl
  rw [this]
  exact p1
 ·simp only [List.length_append,List.length_cons,List.length_nil] at hlt q5
  have hm:c∈mkC n i (a++[es]):=by
   rw [mkC_snoc] at hc ⊢
   rcases List.mem_append.1 hc with hc|hc
   ·exact List.mem_append_left _ hc
   ·simp only [List.mem_singleton] at hc;subst hc;simp only at hlt;omega
  rw [append_get (seg_ne f2 hm (by omega) (by omega))]
  exact s2 c hm (by simp;omega)
theorem adds_su {lim:Int} {n:Nat} {i:Int}:∀ {l:List Ey} {st:DS} {ess:List (List Ey)},Fu st n i ess→Calm st→EsOk (i + ess.flatten.length) l→n + ess.length + l.length≤99999990→total st.fs + costE l≤st.room→Su st n i ess→
  ∃ st' ess',addsW (xOf lim n i ess) st l=((st',0),xOf lim n i ess')∧Fu st' n i ess'∧ess'.flatten=ess.flatten++l∧ess'.length≤ess.length + l.length∧Got st (costE l) st'∧Su st' n i ess'
 |[],st,ess,h,c,_,_,_,hs=>⟨st,ess,rfl,h,by simp,by simp,⟨c,by simp [costE],rfl⟩,hs⟩
 |e::l,st,ess,h,c,hl,hn,hr,hs=>by
  simp only [List.length_cons] at hn
  have hce:costE (e::l)=50 + e.dt.length + costE l:=by simp [costE]
  have hcn:0≤costE l:=by rw [costE_eq];have:=sumD_nn l;omega
  have hek:=hl.ok e (List.mem_cons_self ..)
  have h0:=hl.fol 0 (by simp)
  simp only [List.getElem_cons_zero] at h0
  obtain ⟨st2,a,es,p1,_,_,p2,_,p3,p4,p5,p6⟩:=add_full2 (lim:=lim) h c hek.1 hek.2 (by omega) (by omega) (by omega) hs
  obtain ⟨st1,hst1⟩:∃ s,s=(appendD st2 (segName (n + a.length)) (recB (entB e))).1:=⟨_,rfl⟩
  rw [←hst1] at p1 p2 p5 p6
  have hfl:(a++[es++[e]]).flatten=ess.flatten++[e]:=by rw [←p3];simp
  have hl2:=(EsOk.app (a:=[e]) (b:=l) hl).2
  simp only [List.length_append,List.length_cons,List.length_nil] at p4
  obtain ⟨st3,ess2,q1,q2,q3,q4,q5,q6⟩:=adds_su (lim:=lim) (l:=l) p2 p5.calm (by rw [hfl];simp only [List.length_append,List.length_cons,List.length_nil] at hl2 ⊢;rwa [show i + ((ess.flatten.length + (0 + 1):Nat):Int)=i + (ess.flatten.length:Int) + ((0 + 1:Nat):Int) by omega]) (by simp;omega) (by have:=p5.tot;rw [p5.room];omega) p6
  simp only [List.length_append,List.length_cons,List.length_nil] at q4
  refine ⟨st3,ess2,?_,q2,by rw [q3,hfl];simp,by simp;omega,⟨q5.calm,by have:=p5.tot;have:=q5.tot;omega,by rw [q5.room,p5.room]⟩,q6⟩
  unfold addsW
  rw [p1]
  simp only [ne_eq,not_true_eq_false,if_false]
  exact q1
theorem runs_det:∀ {l:List Ey} {g g':Lg},(∀ e∈l,e.Ok)→runs g (l.map entB)=some g'→g'=⟨g.base,g.l++l⟩
 |[],g,g',_,h=>by simp [runs] at h;rw [←h];simp
 |e::l,g,g',ho,h=>by
  rw [List.map_cons] at h
  unfold runs at h
  rw [change_ent (ho e (List.mem_cons_self ..))] at h
  by_cases hx:e.ix=g.last + 1
  ·rw [if_pos hx] at h
   have:=runs_det (fun x hx=>ho x (List.mem_cons_of_mem _ hx)) h
   rw [this];simp
  ·rw [if_neg hx] at h;cases h
theorem updM_get_ne {β:Type} {k k2:ByteArray} {g:β→β} (h:k2≠k) {l:List (ByteArray × β)}:getM k (updM k2 g l)=getM k l:=getM_upd_ne h.symm
theorem crashL_one {k:ByteArray}:∀ (ks:List ByteArray) (keep:List Int) {fs:Fs} {f:Fl},getM k fs=some f→f.sure≤f.b.length→∃ m,f.sure≤m∧m≤f.b.length∧(getM k (crashL ks keep fs)=some ⟨f.b.take m,m⟩∨getM k (crashL ks keep fs)=some f)
 |[],keep,fs,f,h,hs=>⟨f.b.length,hs,Nat.le_refl _,.inr h⟩
 |k2::ks,keep,fs,f,h,hs=>by
  rw [crashL]
  by_cases hk:k2=k
  ·subst hk
   have hst:=stay_le keep.head? f hs
   obtain ⟨m,h1,h2,h3⟩:=crashL_one ks keep.tail (getM_upd (g:=cutF keep.head?) h) (by unfold cutF;simp only [List.length_take];omega)
   unfold cutF at h1 h2 h3
   simp only [List.length_take] at h1 h2
   refine ⟨m,by omega,by omega,?_⟩
   have hm:m=f.sure + stay keep.head? f:=by omega
   left
   rw [hm]
   rcases h3 with h3|h3
   ·refine h3.trans ?_
    rw [hm];simp [List.take_take]
   ·exact h3
  ·exact crashL_one ks keep.tail (by rw [updM_get_ne hk];exact h) hs
theorem getM_keys {fs fs':Fs} (h:fs'.map (·.1)=fs.map (·.1)) {k:ByteArray} (hk:getM k fs'≠none):getM k fs≠none:=fun hn=>by
 obtain ⟨v,hv⟩:=Option.ne_none_iff_exists'.1 hk
 obtain ⟨a,b,hab,_⟩:=getM_split hv
 have:k∈fs.map (·.1):=by rw [←h,hab];simp
 exact notin_of_getM hn this
theorem back_open {st2:DS} {n:Nat} {i lim:Int} {a:List (List Ey)} {es:List Ey} {e:Ey} {keep:List Int} (f2:Fu st2 n i (a++[es])) (al:AllS st2 n i (a++[es])) (hd:(appendD st2 (segName (n + a.length)) (recB (entB e))).2=0)
  (f3:Fu (appendD st2 (segName (n + a.length)) (recB (entB e))).1 n i (a++[es++[e]])) (h2:32≤lim) (h3:lim≤65536) (hr:2 * total (appendD st2 (segName (n + a.length)) (recB (entB e))).1.fs≤(appendD st2 (segName (n + a.length)) (recB (entB e))).1.room):
  ∃ (es3:List Ey) (q:List Ey),es3=es++q∧q.length≤1∧(∀ x∈q,x=e)∧openErr (crashD (appendD st2 (segName (n + a.length)) (recB (entB e))).1 keep) lim=0∧openedW (crashD (appendD st2 (segName (n + a.length)) (recB (entB e))).1 keep)=⟨⟨i - 1,(a++[es3]).flatten⟩,(mkC n i (a++[es3])).map Sc.sg⟩:=by
 have hall:=al (lastC n i a es) (by rw [mkC_snoc];simp)
 have hlastf:=append_more hall hd
 obtain ⟨st3,hst3⟩:∃ s,s=(appendD st2 (segName (n + a.length)) (recB (entB e))).1:=⟨_,rfl⟩
 have hold:∀ c∈mkC n i a,getM (segName c.num) st3.fs=some ⟨c.bytes,c.bytes.length⟩:=fun c hc=>by
  have hm:c∈mkC n i (a++[es]):=by rw [mkC_snoc];exact List.mem_append_left _ hc
  have hn2:=f2.n2
  simp only [List.length_append,List.length_cons,List.length_nil] at hn2
  rw [hst3,append_get (seg_ne f2 hm (by omega) (by have:=mkC_lt _ _ _ c hc;omega))]
  exact al c hm
 rw [←hst3] at f3 hr hlastf ⊢
 have hcb:(lastC n i a (es++[e])).bytes=(lastC n i a es).bytes++recB (entB e):=by
  simp only [Sc.bytes,Sc.recs,List.map_append,List.map_cons,List.map_nil]
  rw [←List.cons_append,recsB_app,recsB_one]
 have hlastf:getM (segName (n + a.length)) st3.fs=some ⟨(lastC n i a (es++[e])).bytes,(lastC n i a es).bytes.length⟩:=by rw [hcb];exact hlastf
 obtain ⟨st4,hst4⟩:∃ s,s=crashD st3 keep:=⟨_,rfl⟩
 have hkeys:st4.fs.map (·.1)=st3.fs.map (·.1):=by rw [hst4];exact crashL_keys _ _ _
 have hold4:∀ c∈mkC n i a,getM (segName c.num) st4.fs=some ⟨c.bytes,c.bytes.length⟩:=fun c hc=>by rw [hst4];exact crashL_get _ _ (hold c hc)
 obtain ⟨m,s4,hm1,hm2,hlast4⟩:∃ m s,(lastC n i a es).bytes.length≤m∧m≤(lastC n i a (es++[e])).bytes.length∧getM (segName (n + a.length)) st4.fs=some ⟨(lastC n i a (es++[e])).bytes.take m,s⟩:=by
  obtain ⟨m,h1,h2,h3⟩:=crashL_one (namesOf st3.fs) keep hlastf (by simp only;rw [hcb,List.length_append];omega)
  simp only at h1 h2 h3
  rcases h3 with h3|h3
  ·exact ⟨m,m,h1,h2,by rw [hst4];exact h3⟩
  ·exact ⟨_,_,by rw [hcb,List.length_append];omega,Nat.le_refl _,by rw [hst4,List.take_length];exact h3⟩
 have c4:Calm st4:=by rw [hst4];exact crash_calm _ _
 have i4:Inv st4:=by rw [hst4];exact crash_inv f3.inv keep
 have t4:total st4.fs≤total st3.fs:=by rw [hst4];exact crashL_total _ _ _
 have r4:st4.room=st3.room:=by rw [hst4];rfl
 rw [←hst4]
 have hc3:=f3.chain
 rw [mkC_snoc] at hc3
 -- the files
 have hperm:st4.fs.Perm (segFs (fOf st4) (mkC n i (a++[es++[e]]))):=by
  have hu:=segFs_uni (f:=fOf st4) f3.chain.nums.2 fun c hm=>(chain_bd f3.chain c hm).2
  refine perm_of_get i4.uni hu fun k=>?_
  rcases hg:getM k (segFs (fOf st4) (mkC n i (a++[es++[e]]))) with _|v
  ·rcases hk:getM k st4.fs with _|v
   ·rfl
   ·exfalso
    obtain ⟨c,hm,rfl⟩:=f3.only k (getM_keys hkeys (by rw [hk];simp))
    have:=getM_of_mem hu (List.mem_map_of_mem (f:=fun c=>(segName c.num,fOf st4 c)) hm)
    rw [hg] at this;cases this
  ·obtain ⟨x,y,hxy,_⟩:=getM_split hg
   have hm:(k,v)∈segFs (fOf st4) (mkC n i (a++[es++[e]])):=by rw [hxy];simp
   obtain ⟨c,hmc,he⟩:=List.mem_map.1 hm
   cases he
   rw [mkC_snoc] at hmc
   unfold fOf
   rcases List.mem_append.1 hmc with hmc|hmc
   ·rw [hold4 c hmc];rfl
   ·have hm:=hmc
    simp only [List.mem_singleton] at hm;subst hm
    have:getM (segName (n + a.length)) st4.fs=some ⟨(lastC n i a (es++[e])).bytes.take m,s4⟩:=hlast4
    simp only
    rw [this];rfl
 have hnums:=seg_nums hperm f3.chain.nums.2 (chain_bd f3.chain)
 have hscr:=seg_noscratch hperm f3.chain.nums.2 fun c hm=>(chain_bd f3.chain c hm).2
 rw [mkC_snoc,List.map_append] at hnums
 -- loading
 obtain ⟨g1,hca,hcl⟩:=hc3.split
 have hrd1:∀ c∈mkC n i a,(readD st4 (segName c.num)).1=c.bytes:=fun c hc=>by rw [read_get c4.off (seg_nameOk _) (hold4 c hc)]
 have hrd2:(readD st4 (segName (n + a.length))).1=(lastC n i a (es++[e])).bytes.take m:=by rw [read_get c4.off (seg_nameOk _) hlast4]
 have hl1:=load_chain (rd:=fun n=>(readD st4 (segName n)).1) (segs:=[]) (rest:=[n + a.length]) hca hrd1
 have hld:loadD st4=loadL (fun n=>(readD st4 (segName n)).1) (lastNum none (mkC n i a)) g1 ((mkC n i a).map Sc.sg) [n + a.length]:=by
  unfold loadD
  rw [hnums]
  simpa using hl1
 obtain ⟨g1',hp',hx',hg',hrun⟩:∃ g1':Lg,(lastNum none (mkC n i a)=none∨(lastNum none (mkC n i a)).map (· + 1)=some (n + a.length))∧(lastNum none (mkC n i a)≠none→(lastC n i a (es++[e])).next=g1.last + 1)∧
   (if lastNum none (mkC n i a)=none then (⟨(lastC n i a (es++[e])).next - 1,g1.l⟩:Lg) else g1)=g1'∧runs g1' ((es++[e]).map entB)=some ⟨i - 1,(a++[es++[e]]).flatten⟩:=by
  generalize lastNum none (mkC n i a)=p at hcl ⊢
  cases hcl with
  |first ho hl hr hc=>cases hc;exact ⟨_,.inl rfl,fun h=>absurd rfl h,by rw [if_pos rfl,hl],hr⟩
  |more ho hn hx hr hc=>cases hc;exact ⟨_,.inr (by simp only [Option.map_some];rw [←hn]),fun _=>hx,if_neg (by simp),hr⟩
 have hoks:∀ x∈es++[e],x.Ok:=fun x hx=>(f3.ok.ok x (by simp at hx ⊢;right;exact hx)).1
 have hdet:=runs_det hoks hrun
 have hb1:g1'.base=i - 1:=by have:=congrArg Lg.base hdet;exact this.symm
 have hb2:g1'.l=a.flatten:=by
  have:=congrArg Lg.l hdet
  simp only [List.flatten_append,List.flatten_cons,List.flatten_nil,List.append_nil] at this
  exact (List.append_cancel_right this).symm
 have hoC:(lastC n i a (es++[e])).Ok:=f3.chain.ok _ (by rw [mkC_snoc];simp)
 have hcut:=load_cut (rd:=fun n=>(readD st4 (segName n)).1) (segs:=(mkC n i a).map Sc.sg) (k:=m) hoC hp' hx' hg' hrun hrd2
 have hnext1:1≤i + (a.flatten.length:Int):=by have:=f3.i1;omega
 have hbl:scanLen (hdB (n + a.length) (i + a.flatten.length)::es.map entB)=(lastC n i a es).bytes.length:=(recsB_len _).symm
 have ho:¬ (lim<32∨lim>65536):=by omega
 rcases hcut with ⟨_,hk⟩|⟨j,g3,hj,hr3,hmax,hle,hcase⟩
 ·exfalso
  have:(headB (n + a.length) (i + a.flatten.length)).length≤(lastC n i a es).bytes.length:=by
   rw [←hbl,scanLen_cons]
   unfold headB
   rw [recB_len]
   omega
  simp only at hk
  omega
 ·have hj1:es.length≤j:=hmax es.length (by simp) (by
   have:(lastC n i a (es++[e])).bs.take es.length=es.map entB:=by simp
   rw [this]
   simp only
   omega)
  have hj2:j≤es.length + 1:=by simpa using hj
  obtain ⟨q,hq,hql,hqe⟩:∃ q,(es++[e]).take j=es++q∧q.length≤1∧∀ x∈q,x=e:=⟨[e].take (j - es.length),by rw [List.take_append,List.take_of_length_le hj1],by simp only [List.length_take,List.length_cons,List.length_nil];omega,fun x hx=>List.mem_singleton.1 (List.mem_of_mem_take hx)⟩
  have hbs:(lastC n i a (es++[e])).bs.take j=(es++q).map entB:=by rw [←hq,List.map_take]
  rw [hbs] at hr3 hle hcase
  have hg3:=runs_det (fun x hx=>hoks x (by rw [←hq] at hx;exact List.mem_of_mem_take hx)) hr3
  rw [hb1,hb2] at hg3
  have hfl3:(a++[es++q]).flatten=a.flatten++(es++q):=by simp
  have hsl3:scanLen (hdB (n + a.length) (i + a.flatten.length)::(es++q).map entB)=(lastC n i a (es++q)).bytes.length:=(recsB_len _).symm
  have hsegs:(mkC n i (a++[es++q])).map Sc.sg=(mkC n i a).map Sc.sg++[⟨n + a.length,i + a.flatten.length,(lastC n i a (es++q)).bytes.length⟩]:=by rw [mkC_snoc,List.map_append];rfl
  refine ⟨es++q,q,rfl,hql,hqe,?_⟩
  rw [hfl3,hsegs]
  simp only at hcase hle
  rw [hsl3] at hcase hle
  rcases hcase with ⟨e1,_,e3⟩|e3
  ·have hl4:loadD st4=⟨⟨i - 1,a.flatten++(es++q)⟩,(mkC n i a).map Sc.sg++[⟨n + a.length,i + a.flatten.length,(lastC n i a (es++q)).bytes.length⟩],none,[]⟩:=by
    rw [hld]
    rw [hg3,←e1] at e3
    exact e3
   have hrec:recoverD st4=(st4,0):=by
    unfold recoverD
    simp only [hl4,if_neg hscr,thenD,if_true,unlinksD]
    rw [if_neg (by simp)]
   refine ⟨?_,?_⟩
   ·unfold openErr
    rw [if_neg ho,c4.off,hrec];rfl
   ·unfold openedW
    simp only [hl4]
    rw [if_neg (by simp)]
  ·have hl4:loadD st4=⟨⟨i - 1,a.flatten++(es++q)⟩,(mkC n i a).map Sc.sg++[⟨n + a.length,i + a.flatten.length,((readD st4 (segName (n + a.length))).1.length:Int)⟩],some ⟨n + a.length,i + a.flatten.length,(lastC n i a (es++q)).bytes.length⟩,[]⟩:=by
    rw [hld]
    rw [hg3] at e3
    exact e3
   have hin:inSegs ((mkC n i a).map Sc.sg++[⟨n + a.length,i + a.flatten.length,((readD st4 (segName (n + a.length))).1.length:Int)⟩]) (n + a.length)=true:=by unfold inSegs;simp
   have hrd0:(readD st4 (segName (n + a.length))).2=0:=by rw [read_get c4.off (seg_nameOk _) hlast4]
   have hcond:¬ ((i + (a.flatten.length:Int))=0∨inSegs ((mkC n i a).map Sc.sg++[⟨n + a.length,i + a.flatten.length,((readD st4 (segName (n + a.length))).1.length:Int)⟩]) (n + a.length)=false):=fun h=>h.elim (fun h=>by omega) (fun h=>by rw [hin] at h;cases h)
   obtain ⟨bb,hbb⟩:∃ bb,bb=(readD st4 (segName (n + a.length))).1.take ((lastC n i a (es++q)).bytes.length:Int).toNat:=⟨_,rfl⟩
   have hbt:(bb.length:Int)≤total st4.fs:=by
    have:=total_le hlast4
    rw [hbb,hrd2]
    simp only [List.length_take] at this ⊢
    omega
   obtain ⟨g1,g2,g3',g4⟩:=append_calm c4 (k:=scratchN) (xs:=bb) scratch_nameOk (by rw [r4];omega)
   have hsn:getM scratchN st4.fs=none:=notin_names.1 hscr
   have hgs:=append_new hsn g1
   obtain ⟨j1,j2,j3,j4⟩:=sync_calm g2 scratch_nameOk hgs
   have hne:scratchN≠segName (n + a.length):=fun he=>seg_ne_scratch _ he.symm
   obtain ⟨l1,_,_,_⟩:=rename_calm j2 (sync_inv (appendD_inv i4 _ _) _).uni hne scratch_nameOk (seg_nameOk (n + a.length)) (sync_done hgs j1)
   have hmend:(mendD st4 ((mkC n i a).map Sc.sg++[⟨n + a.length,i + a.flatten.length,((readD st4 (segName (n + a.length))).1.length:Int)⟩]) ⟨n + a.length,i + a.flatten.length,(lastC n i a (es++q)).bytes.length⟩).2=0:=by
    unfold mendD
    simp only
    rw [if_neg hcond,if_neg (by rw [hrd0];simp),←hbb,thenD_ok g1,thenD_ok j1]
    exact l1
   have hrec:(recoverD st4).2=0:=by
    unfold recoverD
    simp only [hl4,if_neg hscr]
    rw [thenD_ok (x:=(st4,0)) rfl,thenD_ok hmend]
    simp only [unlinksD]
    rw [thenD_ok rfl,if_neg (by simp)]
   refine ⟨?_,?_⟩
   ·unfold openErr
    rw [if_neg ho,c4.off]
    exact hrec
   ·unfold openedW
    simp only [hl4]
    rw [if_neg (by simp)]
    unfold mendSegs
    simp only
    rw [if_neg hcond,setSize_snoc]
end Go.Proofs.YtkfedbncmfnpnaaGreatDoor
/- The law WalBack. Condition: the library's table of powers is laid. -/
namespace Go.Proofs.YtkfedbncmfnpnaaGreatDoor
set_option linter.unusedVariables false
set_option linter.unusedSimpArgs false
open Go Go.VC
variable {R R':Cx} {Hs Rest:List HP} {w:World} {p d:Nat} {x:WSt} {s sg:Sl} {ds:List DE4} {st:DS}
theorem app_su {lim:Int} {n:Nat} {i:Int} {ess:List (List Ey)} {l:List Ey} (f:Fu st n i ess) (c:Calm st) (hby:∀ e∈l,∀ y∈e.dt,0≤y∧y<256) (hn:n + ess.length + l.length≤99999990) (hr:total st.fs + costE l≤st.room) (hsu:Su st n i ess):
  ∃ (e:Int) (st':DS) (ess':List (List Ey)),appendW (xOf lim n i ess) st l=((st',e),xOf lim n i ess')∧Fu st' n i ess'∧Got st (costE l) st'∧ess'.length≤ess.length + l.length∧Su st' n i ess'∧
   ((e=0∧ess'.flatten=ess.flatten++l∧EsOk (i + ess.flatten.length) l)∨((e=1∨e=7)∧ess'.flatten=ess.flatten)):=by
 have hcn:0≤costE l:=by rw [costE_eq];have:=sumD_nn l;omega
 unfold appendW
 rw [if_neg (by simp [xOf])]
 by_cases h1:¬ ∀ e∈l,e.Ok
 ·rw [if_pos h1];exact ⟨1,st,ess,rfl,f,⟨c,by omega,rfl⟩,by omega,hsu,.inr ⟨.inl rfl,rfl⟩⟩
 ·rw [if_neg h1]
  have hlast:(xOf lim n i ess).g.last + 1=i + ess.flatten.length:=by unfold xOf Lg.last;simp only;omega
  by_cases h2:¬ Follows ((xOf lim n i ess).g.last + 1) l
  ·rw [if_pos h2];exact ⟨7,st,ess,rfl,f,⟨c,by omega,rfl⟩,by omega,hsu,.inr ⟨.inr rfl,rfl⟩⟩
  ·rw [if_neg h2]
   rw [hlast] at h2
   have ho:EsOk (i + ess.flatten.length) l:=⟨fun e he=>⟨Classical.not_not.1 h1 e he,hby e he⟩,Classical.not_not.1 h2⟩
   obtain ⟨st',ess',q1,q2,q3,q4,q5,q6⟩:=adds_su (lim:=lim) f c ho hn hr hsu
   refine ⟨0,st',ess',?_,q2,q5,q4,q6,.inl ⟨rfl,q3,ho⟩⟩
   rw [q1]
   rfl
theorem sync_all {lim:Int} {n:Nat} {i:Int} {ess:List (List Ey)} (f:Fu st n i ess) (c:Calm st) (hsu:Su st n i ess):∃ st',syncW (xOf lim n i ess) st=((st',0),xOf lim n i ess)∧Fu st' n i ess∧Got st 0 st'∧AllS st' n i ess:=by
 obtain ⟨a,es,rfl⟩:∃ a es,ess=a++[es]:=by
  rcases List.eq_nil_or_concat ess with h0|⟨a,es,h0⟩
  ·exact absurd h0 f.ne
  ·exact ⟨a,es,by rw [h0,List.concat_eq_append]⟩
 obtain ⟨m,hg⟩:=f.tailget
 obtain ⟨d1,d2,d3,d4⟩:=sync_calm c (seg_nameOk (n + a.length)) hg
 have hn2:=f.n2
 simp only [List.length_append,List.length_cons,List.length_nil] at hn2
 refine ⟨(syncD st (segName (n + a.length))).1,?_,f.sync (by rw [hg];simp) d1,⟨d2,by omega,d4⟩,fun c hc=>?_⟩
 ·have ht:(tailS (xOf lim n i (a++[es])).segs).num=n + a.length:=by rw [xOf_segs,tail_snoc];rfl
  unfold syncW
  rw [if_neg (by simp [xOf]),ht]
  have e1:syncD st (segName (n + a.length))=((syncD st (segName (n + a.length))).1,0):=Prod.ext rfl d1
  rw [e1]
  rfl
 ·by_cases hk:c.num=n + a.length
  ·obtain ⟨m,hm⟩:=f.get c hc
   rw [hk] at hm ⊢
   exact sync_done hm d1
  ·rw [sync_get (seg_ne f hc (by omega) hk)]
   exact hsu c hc (by have:=mkC_lt _ _ _ c hc;simp only [List.length_append,List.length_cons,List.length_nil] at this ⊢;omega)
theorem by_crashW {st:DS} (h:ByOk st.fs) (keep:List Int):ByOk (crashD st keep).fs:=by
 have key:∀ (ks:List ByteArray) (keep:List Int) (fs:Fs),ByOk fs→ByOk (crashL ks keep fs):=fun ks=>by
  induction ks with
  |nil=>exact fun _ _ h=>h
  |cons k ks ih=>exact fun keep fs h=>ih _ _ (by_upd h fun f hf x hx=>hf x (List.mem_of_mem_take hx))
 exact key _ _ _ h
theorem follows_one {i:Int} {e:Ey} (h:e.ix=i):Follows i [e]:=fun k hk=>by
 have:k=0:=by simpa using hk
 subst this
 simpa using h
set_option maxHeartbeats 1000000 in
theorem back_lspec {limit:Int} {sl sk:Sl} {dl:List DE4} {keep:List Int} (hl:RoN 4 R sl (dl.map eRow)) (hd0:DsR R dl) (hby:∀ e∈erE dl,∀ y∈e.dt,0≤y∧y<256) (hm:∀ e∈dl,e.2.dt.length≤140737488351232) (hk:RoI R sk keep) (hp:PowR R) (hw:Sat R Hs w):
  Gets Tryz.prog 5 #[.int .i64 limit,.slice sl.a sl.len sl.cap,.slice sk.a sk.len sk.cap] w fun v w'=>v=.bool true∧Sat R Hs w':=by
 have hsl:sl.len=dl.length:=by have:=hl.len;simpa using this
 apply call5
 suffices H:∀ K:Value→World→Prop,(∀ w',Sat R Hs w'→K (.bool true) w')→B5 limit sl sk K w from H _ fun w' h=>⟨rfl,h⟩
 intro K hK
 refine (awake_spec hp hw).use ?_
 clear hw
 rintro _ w ⟨R1,e1,rfl,hw⟩
 refine ⟨_,rfl,new_rule hw fun b1 w hw=>?_⟩
 have hw:Sat R1 (pts b1 (.cells (stRow sl).toArray 43 (0,0))::Hs) w:=hw
 obtain ⟨R2,e2,hr,hw⟩:=(OwnN.leak (s:=⟨some ⟨b1,0,none⟩,1,1⟩) (n:=5) (rows:=[sl].map stRow) (OwnN.of_pts (cap:=1) (rest:=[]) (fun r hr=>by simp at hr;subst hr;rfl) rfl (by exact hw)))
 have e12:=e1.trans e2
 refine (much06_spec (fun S hS=>hr.reads hS) (e12.roN hl) (hd0.ext e12) hm hw).use ?_
 clear hw
 rintro _ w ⟨bm,rfl,hmuch,hw⟩
 have fin:∀ {R3:Cx} {w:World},R.Ext R3→Sat R3 Hs w→K (.bool true) w:=fun e h=>hK _ (e.back h)
 refine ⟨_,rfl,fun w=>bm=false∧32≤limit∧limit≤65536∧Sat R2 Hs w,?_,?_⟩
 ·refine Br.f rfl (Br.mk (fun _=>fin e12 hw) (fun h=>Br.d (fun _=>fin e12 hw) (fun h2=>Br.d (fun _=>fin e12 hw) (fun h3=>⟨h,by omega,by omega,hw⟩))))
 clear hw
 rintro _ w ⟨rfl,hl1,hl2,hw⟩
 obtain ⟨m1,m2⟩:=hmuch rfl
 have hcost:costE (erE dl)≤50000:=by rw [costE_eq];simp only [List.length_map] at m2 ⊢;omega
 refine (new_ok (room:=200000) (by omega) (by omega) hw).use ?_
 clear hw
 rintro _ w ⟨d,rfl,hw⟩
 refine ⟨_,_,rfl,fun w=>Sat R2 (DiskAt d ⟨200000,[],-1,-1,false⟩::Hs) w,Br.ne (fun h=>absurd rfl h) (fun _=>Br.f rfl hw),?_⟩
 clear hw
 rintro _ w hw
 refine (new_open (lim:=limit) (by omega) (by omega) hl1 hl2 (hp.ext e12) hw).use ?_
 clear hw
 rintro _ w ⟨R3,p,s,ds,sg,st,e3,rfl,hd,he,f,c,ht,hroom,hw⟩
 have e13:=e12.trans e3
 refine ⟨_,_,rfl,fun w=>Sat R3 (WX p d (xOf limit 1 1 [[]]) s sg ds st Hs) w,Br.ne (fun h=>absurd rfl h) (fun _=>Br.f rfl hw),?_⟩
 clear hw
 rintro _ w hw
 have b0:=xOf_wbk (lim:=limit) f (by simp) (by omega) (by simp)
 have hsu0:Su st 1 1 [[]]:=fun c hc hlt=>by
  simp only [mkC,List.mem_singleton] at hc
  subst hc
  simp at hlt
 refine (appendW_spec b0 (by omega) f.inv (hp.ext e13) hd he (e13.roN hl) (hd0.ext e13) hby hw).use ?_
 clear hw hd he
 obtain ⟨e,st1,ess1,q1,q2,q3,q4,q6,q5⟩:=app_su (lim:=limit) f c hby (by simp only [List.length_map];simp;omega) (by rw [hroom];omega) hsu0
 rw [q1]
 rintro _ w ⟨R4,e4,rfl,s1,ds1,sg1,hd1,he1,hw⟩
 have e14:=e13.trans e4
 refine ⟨_,rfl,?_⟩
 have hlen1:ess1.length≤1001:=by simp only [List.length_map,List.length_cons,List.length_nil] at q4;omega
 have hfl1:ess1.flatten.length≤1000:=by
  rcases q5 with ⟨_,h,_⟩|⟨_,h⟩
  ·rw [h];simp;omega
  ·rw [h];simp
 have b1:=xOf_wbk (lim:=limit) q2 (by omega) (by omega) (by omega)
 obtain ⟨st2,y1,y2,y3,y4⟩:=sync_all (lim:=limit) q2 q3.calm q6
 refine (syncW_spec (b1.wb (by omega)) q2.inv (hp.ext e14) hd1 he1 hw).use ?_
 clear hw hd1 he1
 rw [y1]
 rintro _ w ⟨R5,e5,rfl,s2,ds2,sg2,hd2,he2,hw⟩
 have e15:=e14.trans e5
 have frame:∀ {R:Cx} {x:WSt} {s sg:Sl} {ds:List DE4} {st:DS} {w:World} {Hs:List HP},Sat R (WX p d x s sg ds st Hs) w→Sat R Hs w:=fun h=>h.drop.drop.drop.drop
 refine ⟨_,rfl,?_⟩
 by_cases hz0:¬ e=0
 ·have hz:e=1∨e=7:=by
   rcases q5 with ⟨h,_⟩|⟨h,_⟩
   ·exact absurd h hz0
   ·exact h
  refine Br.ne (fun _=>?_) (fun h=>absurd h hz0)
  refine Br.e (fun _=>fin e15 (frame hw)) (fun h=>?_)
  have h7:e=7:=by
   rcases hz with h1|h1
   ·exact absurd h1 h
   ·exact h1
  have hk7:K (.bool (e==7)) w:=by rw [h7];exact fin e15 (frame hw)
  exact hk7
 have hz1:e=0:=Classical.not_not.1 hz0
 obtain ⟨hfl,hok⟩:ess1.flatten=[[]].flatten++erE dl∧EsOk (1 + ([[]]:List (List Ey)).flatten.length) (erE dl):=by
  rcases q5 with ⟨_,h⟩|⟨h,_⟩
  ·exact h
  ·rcases h with h|h<;>omega
 subst hz1
 have hfl:ess1.flatten=erE dl:=by rw [hfl];simp
 have hdll:(erE dl).length=dl.length:=by simp
 have hfll:ess1.flatten.length=dl.length:=by rw [hfl,hdll]
 refine Br.ne (fun h=>absurd rfl h) (fun _=>?_)
 refine (lastW_spec (b1.wb (by omega)) he2 hw).use ?_
 clear hw
 rintro _ w ⟨rfl,hw⟩
 have hlw:lastW (xOf limit 1 1 ess1)=dl.length:=by unfold lastW xOf Lg.last;simp only;rw [if_neg (by simp)];omega
 rw [hlw]
 refine ⟨_,rfl,?_⟩
 rw [wrap64 (by omega) (by omega)]
 obtain ⟨oe,hoe⟩:∃ oe:DE4,oe=(⟨none,0,0⟩,⟨(dl.length:Int) + 1,0,0,[]⟩):=⟨_,rfl⟩
 refine new_rule hw fun b2 w hw=>?_
 have hw:Sat R5 (pts b2 (.cells (eRow oe).toArray 55 (0,0))::WX p d (xOf limit 1 1 ess1) s2 sg2 ds2 st2 Hs) w:=by rw [hoe];exact hw
 obtain ⟨R6,e6,hro,hw⟩:=(OwnN.leak (s:=⟨some ⟨b2,0,none⟩,1,1⟩) (n:=4) (rows:=[oe].map eRow) (OwnN.of_pts (cap:=1) (rest:=[]) (fun r hr=>by simp at hr;subst hr;rfl) rfl (by exact hw)))
 have e16:=e15.trans e6
 have hos:DsR R6 [oe]:=fun e he=>by
  simp only [List.mem_singleton] at he
  subst he
  rw [hoe]
  exact ⟨rfl,Nat.le_refl _,fun h=>absurd rfl h⟩
 have hoeok:oe.2.Ok:=by rw [hoe];exact ⟨by simp only;omega,by simp only;omega,by simp,by simp,by simp,by simp,by simp⟩
 have hdt0:oe.2.dt=[]:=by rw [hoe]
 have hoix:oe.2.ix=1 + ess1.flatten.length:=by rw [hoe,hfll];simp only;omega
 obtain ⟨st3,a,es,z1,z2,z3,z4,z5,z6,z7,z8,z9⟩:=add_full2 (lim:=limit) y2 y3.calm hoeok (by rw [hdt0];intro y hy;cases hy) hoix (by omega) (by rw [hdt0];have:=y3.tot;have:=q3.tot;rw [y3.room,q3.room,hroom];simp only [List.length_nil];omega) y4.su
 obtain ⟨st4,hst4⟩:∃ q,q=(appendD st3 (segName (1 + a.length)) (recB (entB oe.2))).1:=⟨_,rfl⟩
 have happ:appendW (xOf limit 1 1 ess1) st2 [oe.2]=((st4,0),xOf limit 1 1 (a++[es++[oe.2]])):=by
  unfold appendW
  rw [if_neg (by simp [xOf]),if_neg (fun h=>h (by intro e he;simp at he;rw [he];exact hoeok)),if_neg (fun h=>h (follows_one (by rw [hoix];unfold xOf Lg.last;simp only;omega)))]
  unfold addsW
  rw [z1,←hst4]
  simp only [ne_eq,not_true_eq_false,if_false]
  rfl
 have hby6:∀ e∈erE [oe],∀ y∈e.dt,0≤y∧y<256:=fun e he y hy=>by
  simp only [List.map_cons,List.map_nil,List.mem_singleton] at he
  rw [he,hdt0] at hy;cases hy
 refine (appendW_spec b1 (by simp) y2.inv (hp.ext e16) (hd2.ext e6) he2 hro hos hby6 hw).use ?_
 clear hw hd2 he2
 have herE:erE [oe]=[oe.2]:=rfl
 rw [herE,happ]
 rintro _ w ⟨R7,e7,rfl,s3,ds3,sg3,hd3,he3,hw⟩
 have e17:=e16.trans e7
 refine ⟨_,rfl,?_⟩
 rw [←hst4] at z4 z8
 have hal:(a++[es]).length≤1002:=by omega
 have hfs4:st4.fs.length≤2000:=by
  rw [z4.perm.length_eq]
  simp only [List.length_map,mkC_len,List.length_append,List.length_cons,List.length_nil] at hal ⊢
  omega
 obtain ⟨x4,hx4⟩:∃ x4,x4=xOf limit 1 1 (a++[es++[oe.2]]):=⟨_,rfl⟩
 have hw:Sat R7 (WX p d x4 s3 sg3 ds3 st4 Hs) w:=by rw [hx4];exact hw
 have hw:Sat R7 (DiskAt d st4::pts p (wCells d x4.lim x4.g.base s3 sg3 x4.brk)::EntO s3 ds3::SegO sg3 x4.segs::Hs) w:=hw.arr
 refine (crash_spec z4.inv (e17.ro hk) (by omega) hw).use ?_
 clear hw
 rintro _ w ⟨rfl,hw⟩
 refine ⟨rfl,?_⟩
 have hroom4:st4.room=200000:=by rw [z8.room,y3.room,q3.room,hroom]
 have htot4:total st4.fs≤60000:=by have:=z8.tot;have:=y3.tot;have:=q3.tot;rw [hdt0] at *;simp only [List.length_nil] at *;omega
 obtain ⟨es3,q,hes3,hq,hqe,hoe1,hoe2⟩:=back_open (keep:=keep) (lim:=limit) z2 (z3 y4) z5 (by rw [←hst4];exact z4) hl1 hl2 (by rw [←hst4];omega)
 rw [←hst4] at hoe1 hoe2
 have hfsc:(crashD st4 keep).fs.length≤2000:=by
  have:=congrArg List.length (crashL_keys (namesOf st4.fs) keep st4.fs)
  simp only [List.length_map] at this
  show (crashL (namesOf st4.fs) keep st4.fs).length≤_
  omega
 refine (open_spec limit (crash_inv z4.inv keep) (by_crashW z4.by' keep) (by omega) (hp.ext e17) hw).use ?_
 clear hw
 rw [hoe1]
 rintro _ w h
 rcases h with ⟨h,_⟩|⟨_,R8,p2,s4,ds4,sg4,e8,hd4,rfl,he4,_,_,_,_,hw⟩
 ·exact absurd rfl h
 rw [hoe2] at he4 hw
 have e18:=e17.trans e8
 refine ⟨_,_,rfl,Br.ne (fun h=>absurd rfl h) (fun _=>Br.ne (fun h=>absurd rfl h) (fun _=>Br.f rfl ?_))⟩
 have hflq:(a++[es3]).flatten=erE dl++q:=by rw [hes3,←hfl,←z6];simp
 have hmaxes:ess1.length≤1001:=hlen1
 obtain ⟨x5,hx5⟩:∃ x5,x5=xOf limit 1 1 (a++[es3]):=⟨_,rfl⟩
 have hw:Sat R8 (WX p2 d x5 s4 sg4 ds4 (openD (crashD st4 keep) limit) (pts p (wCells d x4.lim x4.g.base s3 sg3 x4.brk)::EntO s3 ds3::SegO sg3 x4.segs::Hs)) w:=by rw [hx5];exact hw
 have he4:erE ds4=x5.g.l:=by rw [hx5];exact he4
 have b5:WB x5:=by
  rw [hx5]
  refine ⟨by show (0:Int)≤1 - 1;omega,by show (1:Int) - 1≤_;omega,?_,?_,?_,fun g hg=>?_⟩
  ·show ((a++[es3]).flatten.length)≤_
   rw [hflq,List.length_append];omega
  ·show 0<((mkC 1 1 (a++[es3])).map Sc.sg).length
   simp [mkC_len]
  ·show ((mkC 1 1 (a++[es3])).map Sc.sg).length≤_
   simp only [List.length_map,mkC_len,List.length_append,List.length_cons,List.length_nil] at hal ⊢
   omega
  ·obtain ⟨c,hc,rfl⟩:=List.mem_map.1 hg
   have hcn:=mkC_lt _ _ _ c hc
   simp only [List.length_append,List.length_cons,List.length_nil] at hcn hal
   refine ⟨by show c.num≤_;omega,by show (0:Int)≤c.bytes.length;omega,?_⟩
   show (c.bytes.length:Int)≤_
   rw [mkC_snoc] at hc
   rcases List.mem_append.1 hc with hc|hc
   ·have:=total_le (z3 y4 c (by rw [mkC_snoc];exact List.mem_append_left _ hc))
    have hi3:=z2.inv.full
    have hi4:=z2.inv.r1
    simp only at this
    omega
   ·simp only [List.mem_singleton] at hc
    subst hc
    have h1:=total_le (z3 y4 (lastC 1 1 a es) (by rw [mkC_snoc];simp))
    have hi3:=z2.inv.full
    have hi4:=z2.inv.r1
    simp only at h1
    have hcc:(lastC 1 1 a es3).bytes=(lastC 1 1 a es).bytes++recsB (q.map entB):=by
     simp only [Sc.bytes,Sc.recs,hes3,List.map_append]
     rw [←List.cons_append,recsB_app]
    show ((lastC 1 1 a es3).bytes.length:Int)≤_
    have hlo:=entB_len hoeok
    rw [hdt0] at hlo
    have hqb:scanLen (q.map entB)≤1000:=by
     match q,hq,hqe with
     |[],_,_=>simp [scanLen]
     |[z],_,hqe=>rw [hqe z (List.mem_singleton.2 rfl),List.map_cons,List.map_nil,scanLen_cons];simp [scanLen] at hlo ⊢;omega
    rw [hcc,List.length_append,recsB_len]
    omega
 have hdt:∀ e∈x5.g.l,e.dt.length≤1099511627776:=fun e he=>by
  rw [hx5] at he
  have he:e∈(a++[es3]).flatten:=he
  rw [hflq] at he
  rcases List.mem_append.1 he with he|he
  ·have:=(hok.ok e he).1.d1;omega
  ·rw [hqe e he,hdt0];simp
 refine (getW_spec b5 1 sl.len (by omega) hdt hd4 he4 hw).use ?_
 clear hw
 rintro _ w ⟨R9,t,dt,e9,rfl,ht9,het,hw⟩
 obtain ⟨R10,e10,hrt,hw⟩:=OwnN.leak hw
 have e20:=(e18.trans e9).trans e10
 have hsame:erE dt=erE dl:=by
  rw [het,hx5]
  unfold getW
  have e1:(xOf limit 1 1 (a++[es3])).g.base=1 - 1:=rfl
  have e2:(xOf limit 1 1 (a++[es3])).g.last=(erE dl++q).length:=by unfold xOf Lg.last;simp only;rw [hflq];omega
  have e3:(xOf limit 1 1 (a++[es3])).g.l=erE dl++q:=hflq
  have e4:(xOf limit 1 1 (a++[es3])).brk=false:=rfl
  rw [e1,e2,e3,e4,hsl]
  by_cases h0:dl.length=0
  ·rw [if_pos (by right;right;right;omega)]
   have:dl=[]:=List.length_eq_zero_iff.1 h0
   rw [this];rfl
  ·rw [if_neg (by simp only [List.length_append,List.length_map];simp;omega)]
   rw [show (1 - 1 - (1 - 1):Int).toNat=0 by decide,List.drop_zero,Int.toNat_natCast,←hdll,List.take_left]
 refine ⟨_,rfl,(same06_spec hrt (e20.roN hl) (ht9.ext e10) (hd0.ext e20) hsame (by have:=congrArg List.length hsame;simp at this;omega) (fun e he=>?_) hw).use ?_⟩
 ·have:e.2∈erE dl:=by rw [←hsame];exact List.mem_map_of_mem he
  obtain ⟨e',he',h'⟩:=List.mem_map.1 this
  have:=hm e' he'
  rw [h'] at this
  omega
 clear hw
 rintro _ w ⟨rfl,hw⟩
 exact ⟨_,rfl,fin e20 (hw.drop.drop.drop.drop.drop.drop.drop)⟩
end Go.Proofs.YtkfedbncmfnpnaaGreatDoor
