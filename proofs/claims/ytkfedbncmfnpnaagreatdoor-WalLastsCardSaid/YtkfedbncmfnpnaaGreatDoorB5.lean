/- A log on a disk: opening, whole. Condition: bounds on lengths; the library's table of powers is laid. -/
import Derived.Test.YtkfedbncmfnpnaaGreatDoorB4
import Derived.Test.YtkfedbncmfnpnaaGreatDoorB2
import Derived.ProofKit
import Derived.OpenShut
import Derived.ShutString
import Derived.ChangeOld
import Derived.Below
import Derived.Lib.SmallJoins
import Derived.SizedLaws
import Derived.Stop.LaidErr
namespace Go.Proofs.YtkfedbncmfnpnaaGreatDoor
set_option linter.unusedVariables false
set_option linter.unusedSimpArgs false
open Go Go.VC
variable {R R':Cx} {Hs Rest:List HP} {w:World} {p d:Nat} {lim base:Int} {s sg:Sl} {brk:Bool} {ds:List DE4} {segs:List Sg} {st:DS}
abbrev x0D (st:DS):DS × Int:=if scratchN∈namesOf st.fs then unlinkD st scratchN else (st,0)
abbrev f1D (ld:Ld) (st:DS):DS × Int:=match ld.amiss with|some s=>mendD st ld.segs s|none=>(st,0)
abbrev f3D (ld:Ld) (st:DS):DS × Int:=if ld.segs=[] then makeD st 1 1 else (st,0)
theorem readD_le {st:DS} (i:Inv st) (k:ByteArray):(readD st k).1.length≤16777216:=by
 unfold readD
 split
 ·simp
 ·split
  ·simp
  ·split
   ·simp
   ·rename_i f hf
    have:=total_le hf;have:=i.full;have:=i.r1
    simp only;omega
theorem x0_read {st:DS} (n:Nat) (h:(x0D st).2=0):readD (x0D st).1 (segName n)=readD st (segName n):=by
 unfold x0D at h ⊢
 split
 ·rename_i hs
  rw [if_pos hs] at h
  exact (unlink_read (seg_ne_scratch n) h).2
 ·rfl
theorem x0_inv {st:DS} (i:Inv st):Inv (x0D st).1:=by
 unfold x0D
 split
 ·exact unlink_inv i _
 ·exact i
theorem thenD_inv {x:DS × Int} {f:DS→DS × Int} (hx:Inv x.1) (hf:∀ st,Inv st→Inv (f st).1):Inv (thenD x f).1:=by
 unfold thenD
 split
 ·exact hf _ hx
 ·exact hx
theorem mendD_inv {st:DS} (i:Inv st) (segs:List Sg) (g:Sg):Inv (mendD st segs g).1:=by
 unfold mendD
 split
 ·exact unlink_inv i _
 ·split
  ·exact i
  ·exact thenD_inv (thenD_inv (appendD_inv i _ _) fun st i=>sync_inv i _) fun st i=>rename_inv i _ _
theorem mendE_ok {st:DS} {segs:List Sg} {g:Sg} (h:(mendD st segs g).2=0):mendSegsE st segs g=mendSegs segs g:=by
 unfold mendSegsE mendSegs
 split
 ·rfl
 ·rename_i hc
  split
  ·rename_i he
   unfold mendD at h
   rw [if_neg hc,if_pos he] at h
   exact absurd h he
  ·rfl
theorem loadD_bd {st:DS} (hby:ByOk st.fs):(∀ g,(loadD st).amiss=some g→g.num<100000000∧0≤g.size∧g.size≤(readD st (segName g.num)).1.length)∧∀ n∈(loadD st).behind,n<100000000:=by
 have hnb:∀ n∈numsOf (namesOf st.fs),n<100000000:=fun n hn=>by
  unfold numsOf at hn
  rw [List.mem_filter] at hn
  obtain ⟨k,_,rfl⟩:=List.mem_map.1 hn.1
  exact numL_lt
 obtain ⟨h1,h2⟩:=loadL_mem (rd:=fun n=>(readD st (segName n)).1) (nums:=numsOf (namesOf st.fs)) (prev:=none) (g:=⟨0,[]⟩) (segs:=[])
 refine ⟨fun g hg=>⟨hnb _ (h1 g hg),?_⟩,fun n hn=>hnb _ (h2 n hn)⟩
 refine loadL_size (rd:=fun n=>(readD st (segName n)).1) (fun n b hb x hx=>?_) (fun n=>scanLen_le _ _ (Nat.le_refl _)) g hg
 obtain ⟨_,h3⟩:=scan_mem _ _ (Nat.le_refl _) b hb
 exact by_read hby _ x (h3 x hx)
theorem recover_spec (i:Inv st) (hby:ByOk st.fs) (hc:st.fs.length≤40000) (hp:PowR R) (hw:Sat R (WS p d lim base s sg brk ds segs st Hs) w):
  Gets Tryz.prog 41 #[.pointer (some ⟨p,0,none⟩)] w fun v w'=>∃ e,v=.int .i64 e∧RecQ R Hs p d lim brk st e w':=by
 apply call41
 suffices H:∀ K:Value→World→Prop,(∀ e w',RecQ R Hs p d lim brk st e w'→K (.int .i64 e) w')→B41 (some ⟨p,0,none⟩) K w from H _ fun e _ h=>⟨e,rfl,h⟩
 intro K hK
 obtain ⟨hbd1,hbd2⟩:=loadD_bd hby
 refine new_rule hw fun bw w hw=>?_
 obtain ⟨R1,e1,b1,hw⟩:=box_leak hw
 refine ⟨fun ss w=>∃ (R2:Cx) (us:List Value),R1.Ext R2∧((scratchN∈namesOf st.fs∧∃ v,us=[v]∧UnlF R2 p v scratchN)∨(scratchN ∉ namesOf st.fs∧us=[]))∧Sat R2 (Own ss 52 us::WS p d lim base s sg brk ds segs st Hs) w,?_,?_⟩
 ·refine ⟨_,b1.at (eqS hw),NilP.mk rfl ⟨_,(by rw [add_off];exact At.own (eqS hw) (by exact ⟨rfl,trivial⟩)),?_⟩⟩
  have hw:Sat R1 (DiskAt d st::pts p (wCells d lim base s sg brk)::EntO s ds::SegO sg segs::Hs) w:=hw.arr
  refine (names_spec i (by omega) hw).use ?_
  clear hw
  rintro _ w ⟨sn,rfl,hw⟩
  refine ⟨sn,rfl,?_⟩
  obtain ⟨R2,e2,hn,hw⟩:=Own.leak hw
  have hw:Sat R2 (WS p d lim base s sg brk ds segs st Hs) w:=hw.arr
  have hnl:=namesOf_len st.fs
  refine (contains_spec (k:=scratchN) (hn.ro (by rw [List.length_map];omega)) hw).use ?_
  clear hw
  rintro _ w ⟨rfl,hw⟩
  refine ⟨_,rfl,Br.d (fun h=>?_) (fun h=>⟨R2,[],e2,.inr ⟨h,rfl⟩,Own.nil hw⟩)⟩
  refine ⟨_,(b1.ext e2).at (eqS hw),?_⟩
  refine (unlinkF_spec p scratchN hw).use ?_
  clear hw
  rintro _ w ⟨R3,bw2,bn,e3,rfl,c1,c2,hw⟩
  refine ⟨_,rfl,?_⟩
  refine buildF_rule hw fun b w hw=>?_
  refine push1_in elFn (s:=⟨none,0,0⟩) (xs:=[]) (Own.nil hw) rfl rfl (by simp) (by simp) fun s2 w hw=>?_
  exact ⟨R3,_,e2.trans e3,.inl ⟨h,_,rfl,bw2,bn,rfl,c1,c2⟩,hw⟩
 clear hw
 rintro _ ss w ⟨R2,us,e2,hus,hw⟩
 have husF:FnL us:=by
  rcases hus with ⟨_,v,rfl,hv⟩|⟨_,rfl⟩
  ·exact hv.fn
  ·exact .nil
 have husl:us.length≤1:=by
  rcases hus with ⟨_,v,rfl,hv⟩|⟨_,rfl⟩<;>simp
 refine ⟨_,(b1.ext e2).at (eqS hw),?_⟩
 have e12:=e1.trans e2
 have hw:Sat R2 (WS p d lim base s sg brk ds segs st (Own ss 52 us::Hs)) w:=hw.arr
 refine (load_spec i hby hc (hp.ext e12) hw).use ?_
 clear hw
 rintro _ w ⟨R3,base,s,ds,sg,am,bh,e3,hd,rfl,hg,hbh,hb0,hb1,hdl,hsl,hw⟩
 refine ⟨am,bh,rfl,new_rule hw fun bA w hw=>?_⟩
 refine store_rule hw (by kernel_rfl) rfl (by simp [Value.cells,putL_len]) fun w hw=>?_
 obtain ⟨R4,e4,bA4,hw⟩:=box_leak2 (v:=.pointer am) rfl hw
 obtain ⟨R5,e5,hA,hw⟩:∃ R5:Cx,R4.Ext R5∧(((loadD st).amiss=none∧am=none)∨∃ g bg,(loadD st).amiss=some g∧am=some ⟨bg,0,none⟩∧R5.m bg=some (sCells g))∧Sat R5 (WS p d lim base s sg brk ds (loadD st).segs st (Own ss 52 us::Hs)) w:=by
  cases hm:(loadD st).amiss with
  |none=>
   rw [hm] at hw
   obtain ⟨ha,hw⟩:=Sat.pur.1 hw
   exact ⟨R4,.refl,.inl ⟨rfl,ha⟩,hw⟩
  |some g=>
   rw [hm] at hw
   obtain ⟨bg,hw⟩:=Sat.exs.1 hw
   obtain ⟨ha,hw⟩:=Sat.pur.1 (Sat.star.1 hw)
   obtain ⟨R5,e5,bg5,hw⟩:=pts.leak hw
   exact ⟨R5,e5,.inr ⟨g,bg,rfl,ha,bg5⟩,hw⟩
 have e35:=e4.trans e5
 have e25:=e3.trans e35
 have hd:=hd.ext e35
 have hbh:=e35.slR hbh
 have b1:=(b1.ext e2).ext e25
 have bA5:=bA4.ext e5
 have hp5:=hp.ext (e12.trans e25)
 have hus:(scratchN∈namesOf st.fs∧∃ v,us=[v]∧UnlF R5 p v scratchN)∨(scratchN ∉ namesOf st.fs∧us=[]):=hus.imp (fun ⟨h,v,hv,hu⟩=>⟨h,v,hv,hu.ext e25⟩) id
 have e15:=e12.trans e25
 obtain ⟨mv,hmv⟩:∃ mv:List Value,mv=match (loadD st).amiss with|none=>[]|some _=>[.func (.func 86) #[] #[.pointer (some ⟨bw,0,none⟩),.pointer (some ⟨bA,0,none⟩)]]:=⟨_,rfl⟩
 have hmvF:FnL mv:=by
  rw [hmv]
  split
  ·exact .nil
  ·exact .sing _ _
 have hmvl:mv.length≤1:=by rw [hmv];split<;>simp
 have hwJ:Sat R5 (Own ss 52 us::WS p d lim base s sg brk ds (loadD st).segs st Hs) w:=hw.arr
 clear hw
 refine ⟨fun ss w=>Sat R5 (Own ss 52 (us++mv)::WS p d lim base s sg brk ds (loadD st).segs st Hs) w,?_,?_⟩
 ·refine ⟨am,bA5.at (eqS hwJ),?_⟩
  rcases hA with ⟨hm,rfl⟩|⟨g,bg,hm,rfl,_⟩
  ·refine Br.f rfl ?_
   have:mv=[]:=by rw [hmv,hm]
   rw [this,List.append_nil]
   exact hwJ
  ·refine Br.t rfl ?_
   have hm2:mv=[.func (.func 86) #[] #[.pointer (some ⟨bw,0,none⟩),.pointer (some ⟨bA,0,none⟩)]]:=by rw [hmv,hm]
   refine buildF_rule hwJ fun b w hw=>?_
   refine push1_in elFn (s:=ss) (xs:=us) hw.swap husF.one rfl (by omega) (by omega) fun s2 w hw=>?_
   rw [hm2]
   exact hw
 clear hwJ
 rintro _ ss w hw
 have hbl:bh.len=(loadD st).behind.length:=by have:=hbh.len;simpa using this
 have hnlen:(numsOf (namesOf st.fs)).length≤40000:=by have:=numsOf_le (namesOf st.fs);rw [namesOf_len] at this;omega
 have hbhl:(loadD st).behind.length≤40000:=by
  have:=loadL_blen (rd:=fun n=>(readD st (segName n)).1) (nums:=numsOf (namesOf st.fs)) (prev:=none) (g:=⟨0,[]⟩) (segs:=[])
  exact Nat.le_trans this hnlen
 -- all steps
 have fin:∀ {R6:Cx} {ss:Sl} {vs nv:List Value} {w:World},R5.Ext R6→UnlL R6 p vs (loadD st).behind→(nv=if (loadD st).segs=[] then [.func (.func 88) #[] #[.pointer (some ⟨bw,0,none⟩)]] else [])→Sat R6 (Own ss 52 (us++mv++vs++nv)::WS p d lim base s sg brk ds (loadD st).segs st Hs) w→
   Gets Tryz.prog 90 #[.slice ss.a ss.len ss.cap] w fun v w'=>∃ n:Int,v=.int .i64 n∧RecQ R Hs p d lim brk st n w':=fun {R6 ss vs nv w} e6 hvs hnv hw=>by
  obtain ⟨R7,e7,hro,hwF⟩:=Own.leak hw
  clear hw
  have e57:=e6.trans e7
  have hvs:=hvs.ext e7
  have b1:=b1.ext e57
  have bA5:=bA5.ext e57
  have hp7:=hp5.ext e57
  have hd:=hd.ext e57
  have hvl:=hvs.len
  have hnvl:nv.length≤1:=by rw [hnv];split<;>simp
  have hlen:(us++mv++vs++nv).length≤40003:=by simp only [List.length_append];omega
  have i0:=x0_inv i
  have out:∀ {x:DS × Int} {sg:Sl} {sgs:List Sg} {w:World},recoverD st=x→x.2≠0→Sat R7 (WS p d lim base s sg brk ds sgs x.1 Hs) w→RecQ R Hs p d lim brk st x.2 w:=fun {x sg sgs w} hx he hw=>
   ⟨R7,base,s,ds,sg,sgs,e15.trans e57,hd,by rw [hx],fun h=>absurd h he,hb0,hb1,hdl,by rw [hx];exact hw⟩
  have fin:∀ {sg:Sl} {sgs:List Sg} {x:DS} {w:World},recoverD st=(x,0)→sgs=(openedW st).segs→sgs.length≤40001→Sat R7 (WS p d lim base s sg brk ds sgs x Hs) w→RecQ R Hs p d lim brk st 0 w:=fun {sg sgs x w} hx hs hl hw=>
   ⟨R7,base,s,ds,sg,sgs,e15.trans e57,hd,by rw [hx],fun _=>⟨hg,hs,hl⟩,hb0,hb1,hdl,by rw [hx];exact hw⟩
  obtain ⟨x0,hx0⟩:∃ x,x=x0D st:=⟨_,rfl⟩
  rw [←hx0] at i0
  obtain ⟨x1,hx1⟩:∃ x,x=thenD x0 (f1D (loadD st)):=⟨_,rfl⟩
  obtain ⟨x2,hx2⟩:∃ x,x=thenD x1 fun st'=>unlinksD st' (loadD st).behind:=⟨_,rfl⟩
  have hx3:recoverD st=thenD x2 (f3D (loadD st)):=by rw [hx2,hx1,hx0];rfl
  obtain ⟨segs1,hsegs1⟩:∃ x,x=match (loadD st).amiss with|none=>(loadD st).segs|some g=>mendSegsE x0.1 (loadD st).segs g:=⟨_,rfl⟩
  have hs1l:segs1.length=(loadD st).segs.length:=by
   rw [hsegs1]
   split
   ·rfl
   ·unfold mendSegsE
    split
    ·rfl
    ·split
     ·rfl
     ·unfold setSize
      split
      ·simp
      ·rfl
  have stage3:∀ {sg:Sl} {w:World},x1.2=0→x2.2=0→Inv x2.1→Sat R7 (WS p d lim base s sg brk ds segs1 x2.1 Hs) w→StepsQ R7 nv (RecQ R Hs p d lim brk st) w:=fun {sg w} h1 h2 i2 hw=>by
   have hx3:=hx3
   rw [thenD_ok h2] at hx3
   by_cases hsn:(loadD st).segs=[]
   ·rw [hnv,if_pos hsn]
    have hs1:segs1=[]:=List.length_eq_zero_iff.1 (by rw [hs1l,hsn];rfl)
    have e3:recoverD st=makeD x2.1 1 1:=by rw [hx3];unfold f3D;rw [if_pos hsn]
    refine CalW.mk (by kernel_rfl) ((recover2_spec i2 hp7 (by rw [hs1];simp) b1 hw).use ?_)
    clear hw
    rintro _ w ⟨e,rfl,R8,sg2,e8,rfl,hw⟩
    have hw:=e8.back hw
    refine ⟨_,rfl,?_⟩
    by_cases he:(makeD x2.1 1 1).2=0
    case neg=>exact .inl ⟨he,out e3 he hw⟩
    refine .inr ⟨he,⟨_,hw⟩,?_⟩
    rw [he] at hw
    refine fin (sgs:=madeS segs1 1 1 0) (x:=(makeD x2.1 1 1).1) (by rw [e3];exact Prod.ext rfl he) ?_ ?_ hw
    ·rw [hs1];unfold openedW madeS;rw [if_pos rfl];simp only;rw [if_pos hsn];rfl
    ·rw [hs1];unfold madeS;rw [if_pos rfl];simp
   ·rw [hnv,if_neg hsn]
    have e3:recoverD st=(x2.1,0):=by rw [hx3];unfold f3D;rw [if_neg hsn]
    refine fin e3 ?_ (by omega) hw
    unfold openedW
    simp only
    rw [if_neg hsn,hsegs1]
    cases hm:(loadD st).amiss with
    |none=>rfl
    |some g=>
     simp only
     refine mendE_ok ?_
     have h0:x0.2=0:=by
      apply Classical.byContradiction
      intro h0
      rw [hx1,thenD_err h0] at h1
      exact h0 h1
     rw [hx1,thenD_ok h0] at h1
     unfold f1D at h1
     rw [hm] at h1
     exact h1
  have stage2:∀ {sg:Sl} {w:World},x1.2=0→Inv x1.1→Sat R7 (WS p d lim base s sg brk ds segs1 x1.1 Hs) w→StepsQ R7 (vs++nv) (RecQ R Hs p d lim brk st) w:=fun {sg w} h1 i1 hw=>by
   have e2:x2=unlinksD x1.1 (loadD st).behind:=by rw [hx2,thenD_ok h1]
   rw [e2] at hx3 stage3
   refine unl_steps hvs i1 hw (fun w he hw=>?_) (fun w he i2 hw=>stage3 h1 he i2 hw)
   exact out (by rw [hx3,thenD_err he]) he hw
  have stage1:∀ {sg:Sl} {w:World},x0.2=0→Sat R7 (WS p d lim base s sg brk ds (loadD st).segs x0.1 Hs) w→StepsQ R7 (mv++(vs++nv)) (RecQ R Hs p d lim brk st) w:=fun {sg w} h0 hw=>by
   have e1:x1=f1D (loadD st) x0.1:=by rw [hx1,thenD_ok h0]
   rcases hA with ⟨hm,_⟩|⟨g,bg,hm,ham,hbg⟩
   ·have hmv0:mv=[]:=by rw [hmv,hm]
    have e1':x1=(x0.1,0):=by rw [e1];unfold f1D;rw [hm]
    have es:segs1=(loadD st).segs:=by rw [hsegs1,hm]
    rw [hmv0,List.nil_append]
    rw [e1',es] at stage2
    exact stage2 rfl i0 hw
   ·have hmv1:mv=[.func (.func 86) #[] #[.pointer (some ⟨bw,0,none⟩),.pointer (some ⟨bA,0,none⟩)]]:=by rw [hmv,hm]
    have e1':x1=mendD x0.1 (loadD st).segs g:=by rw [e1];unfold f1D;rw [hm]
    have es:segs1=mendSegsE x0.1 (loadD st).segs g:=by rw [hsegs1,hm]
    obtain ⟨g1,g2,g3⟩:=hbd1 g hm
    have hrd:readD x0.1 (segName g.num)=readD st (segName g.num):=by rw [hx0];exact x0_read _ (by rw [←hx0];exact h0)
    rw [hmv1]
    have bA7:BoxP R7 bA bg:=by rw [ham] at bA5;exact bA5
    refine CalW.mk (by kernel_rfl) ((recover1_spec (g:=g) (bg:=bg) i0 hp7 g1 (by omega) g2 (fun _=>by rw [hrd];exact g3) b1 bA7 (e57.m _ _ hbg) hw).use ?_)
    clear hw
    rintro _ w ⟨e,rfl,R8,sg2,e8,rfl,hw⟩
    have hw:=e8.back hw
    rw [←e1',←es] at hw
    rw [←e1']
    refine ⟨_,rfl,?_⟩
    by_cases he:x1.2=0
    case neg=>exact .inl ⟨he,out (by rw [hx3,hx2,thenD_err he,thenD_err he]) he hw⟩
    refine .inr ⟨he,⟨_,hw⟩,stage2 he (by rw [e1'];exact mendD_inv i0 _ _) hw⟩
  refine all_spec (hro.ro (by omega)) (by omega) hwF ?_
  rw [List.append_assoc,List.append_assoc]
  rcases hus with ⟨hs,v,rfl,bw2,bn2,rfl,c1,c2⟩|⟨hs,rfl⟩
  ·have e0:x0=unlinkD st scratchN:=by rw [hx0];unfold x0D;rw [if_pos hs]
   refine CalW.mk (by kernel_rfl) ((unlinkC_spec i (c1.ext e57) (c2.ext e57) hwF).use ?_)
   clear hwF
   rintro _ w ⟨rfl,hw⟩
   rw [←e0] at hw ⊢
   refine ⟨_,rfl,?_⟩
   by_cases he:x0.2=0
   case neg=>
    have h1:x1=x0:=by rw [hx1,thenD_err he]
    have h2:x2=x0:=by rw [hx2,h1,thenD_err he]
    exact .inl ⟨he,out (by rw [hx3,h2,thenD_err he]) he hw⟩
   exact .inr ⟨he,⟨_,hw⟩,stage1 he hw⟩
  ·have e0:x0=(st,0):=by rw [hx0];unfold x0D;rw [if_neg hs]
   rw [e0] at stage1
   exact stage1 rfl hwF
 refine ⟨fun ss i w=>∃ (k:Nat) (R6:Cx) (vs:List Value),i=k∧k≤(loadD st).behind.length∧R5.Ext R6∧UnlL R6 p vs ((loadD st).behind.take k)∧Sat R6 (Own ss 52 (us++mv++vs)::WS p d lim base s sg brk ds (loadD st).segs st Hs) w,fun _ i _=>(loadD st).behind.length - i.toNat,⟨0,R5,[],rfl,by omega,.refl,trivial,by rw [List.append_nil];exact hw⟩,?_⟩
 clear hw
 rintro _ ss _ w ⟨k,R6,vs,rfl,hk,e6,hvs,hw⟩
 have b1:=b1.ext e6
 refine Br.d (fun h=>?_) (fun h=>?_)
 ·have hk':k<(loadD st).behind.length:=by omega
  have hnk:=hbd2 _ (List.getElem_mem hk')
  obtain ⟨n,hn⟩:∃ n,n=(loadD st).behind[k]:=⟨_,rfl⟩
  refine (e6.slR hbh).ix (eqS hw) k rfl (by simpa using hk') ?_
  have en:((loadD st).behind.map fun n:Nat=>(n:Int))[k]'(by simpa using hk')=((n:Nat):Int):=by simp [hn]
  rw [en]
  rw [←hn] at hnk
  refine drw_rule' (Sat R6 [VC.tru]) hw (fun w hw=>Sat.toTru (As:=[]) hw) fun w hw=>?_
  refine ⟨_,b1.at selfS,?_⟩
  refine (name_spec (x:=0) (z:=0) (hp5.ext e6) hnk hw).use ?_
  clear hw
  rintro _ w ⟨rfl,hw⟩
  refine ⟨_,rfl,Sat.toTru (As:=[]) hw,?_⟩
  refine (unlinkF_spec p (segName n) hw).use ?_
  clear hw
  rintro _ w ⟨R7,bw2,bn,e7,rfl,c1,c2,hw⟩
  refine ⟨_,rfl,?_⟩
  have hvs:=hvs.ext e7
  have hvl:=hvs.len
  rw [List.length_take] at hvl
  refine buildF_rule hw fun b w hw=>⟨e7.back (Sat.toTru (As:=[]) hw),?_⟩
  refine push1_in elFn (s:=ss) (xs:=us++mv++vs) hw.swap (((husF.app hmvF).app hvs.fn).one) rfl (by simp only [List.length_append];omega) (by simp only [List.length_append];omega) fun s2 w hw=>⟨e7.back (Sat.toTru (As:=[]) hw),?_⟩
  refine ⟨⟨k + 1,R7,vs++[.func (.func 103) #[] #[.pointer (some ⟨bw2,0,none⟩),.pointer (some ⟨bn,0,none⟩)]],by rw [wrap64 (by omega) (by omega)];omega,by omega,e6.trans e7,?_,?_⟩,by dsimp only;rw [wrap64 (by omega) (by omega)];omega⟩
  ·rw [List.take_add_one,List.getElem?_eq_getElem hk',←hn]
   exact hvs.snoc ⟨bw2,bn,rfl,c1,c2⟩
  ·rw [←List.append_assoc];exact hw
 ·have hkl:k=(loadD st).behind.length:=by omega
  rw [hkl,List.take_length] at hvs
  have hvl:=hvs.len
  have hsgl:sg.len=(loadD st).segs.length:=by
   have h2:Sat R6 (SegO sg (loadD st).segs::Own ss 52 (us++mv++vs)::pts p (wCells d lim base s sg brk)::EntO s ds::DiskAt d st::Hs) w:=hw.arr
   have:=OwnN.len h2;simpa using this
  refine ⟨_,b1.at (eqS hw),NilP.mk rfl ⟨sg,At.own (eqS hw) (by exact ⟨rfl,trivial⟩),Br.e (fun h2=>?_) (fun h2=>?_)⟩⟩
  ·have hsn:(loadD st).segs=[]:=List.length_eq_zero_iff.1 (by omega)
   refine buildF_rule hw fun b w hw=>?_
   refine push1_in elFn (s:=ss) (xs:=us++mv++vs) hw.swap (((husF.app hmvF).app hvs.fn).one) rfl (by simp only [List.length_append];omega) (by simp only [List.length_append];omega) fun s2 w hw=>?_
   refine (fin e6 hvs (by rw [if_pos hsn]) hw).use ?_
   rintro _ w ⟨e,rfl,h⟩
   exact ⟨e,rfl,hK _ _ h⟩
  ·have hsn:(loadD st).segs≠[]:=fun h=>h2 (by rw [hsgl,h];rfl)
   refine (fin (nv:=[]) e6 hvs (by rw [if_neg hsn]) (by rw [List.append_nil];exact hw)).use ?_
   rintro _ w ⟨e,rfl,h⟩
   exact ⟨e,rfl,hK _ _ h⟩
def OpenQ (R:Cx) (Hs:List HP) (d:Nat) (lim:Int) (st:DS) (e:Int) (v:Value) (w:World):Prop:=
 (e≠0∧v=.tuple #[.pointer none,.int .i64 e]∧Sat R (DiskAt d (openD st lim)::Hs) w)∨
 (e=0∧∃ R' p s ds sg,R.Ext R'∧DsR R' ds∧v=.tuple #[.pointer (some ⟨p,0,none⟩),.int .i64 0]∧erE ds=(openedW st).g.l∧0≤(openedW st).g.base∧(openedW st).g.base≤1099511627776∧ds.length≤100000000000∧(openedW st).segs.length≤40001∧
  Sat R' (WS p d lim (openedW st).g.base s sg false ds (openedW st).segs (openD st lim) Hs) w)
theorem open_spec {d:Nat} {st:DS} (lim:Int) (i:Inv st) (hby:ByOk st.fs) (hc:st.fs.length≤40000) (hp:PowR R) (hw:Sat R (DiskAt d st::Hs) w):
  Gets Tryz.prog 13 #[.pointer (some ⟨d,0,none⟩),.int .i64 lim] w (OpenQ R Hs d lim st (openErr st lim)):=by
 apply call13
 refine ⟨fun w=>¬ (lim<32∨lim>65536)∧st.off=false∧Sat R (DiskAt d st::Hs) w,?_,?_⟩
 ·refine Br.f rfl (Br.d (fun h=>?_) (fun h=>Br.d (fun h2=>?_) (fun h2=>?_)))
  ·have h:lim<32∨lim>65536:=.inl h
   refine .inl ⟨by unfold openErr;rw [if_pos h];decide,by unfold openErr;rw [if_pos h],by unfold openD;rw [if_pos h];exact hw⟩
  ·have h:lim<32∨lim>65536:=.inr h2
   refine .inl ⟨by unfold openErr;rw [if_pos h];decide,by unfold openErr;rw [if_pos h],by unfold openD;rw [if_pos h];exact hw⟩
  ·have h:¬ (lim<32∨lim>65536):=by omega
   refine (off_spec hw).use ?_
   clear hw
   rintro _ w ⟨rfl,hw⟩
   refine ⟨_,rfl,?_⟩
   cases ho:st.off with
   |false=>exact Br.f rfl ⟨h,rfl,hw⟩
   |true=>
    refine Br.t rfl (.inl ⟨by unfold openErr;rw [if_neg h,if_pos ho];decide,by unfold openErr;rw [if_neg h,if_pos ho],by unfold openD;rw [if_neg h,if_pos ho];exact hw⟩)
 clear hw
 rintro _ w ⟨h,ho,hw⟩
 have ee:openErr st lim=(recoverD st).2:=by unfold openErr;rw [if_neg h,if_neg (by rw [ho];simp)]
 have ed:openD st lim=(recoverD st).1:=by unfold openD;rw [if_neg h,if_neg (by rw [ho];simp)]
 rw [ee]
 refine new_rule hw fun p w hw=>?_
 have hw:Sat R (WS p d lim 0 ⟨none,0,0⟩ ⟨none,0,0⟩ false [] [] st Hs) w:=by
  have hw:Sat R (pts p (wCells d lim 0 ⟨none,0,0⟩ ⟨none,0,0⟩ false)::DiskAt d st::Hs) w:=hw
  exact hw.cons fun _ h=>OwnN.nil (OwnN.nil h)
 refine (recover_spec i hby hc hp hw).use ?_
 clear hw
 rintro _ w ⟨e,rfl,R1,base,s,ds,sg,segs,e1,hd,rfl,hok,hb0,hb1,hdl,hw⟩
 refine ⟨_,rfl,Br.ne (fun h2=>?_) (fun h2=>?_)⟩
 ·refine .inl ⟨h2,rfl,?_⟩
  rw [ed]
  have hw:Sat R1 (DiskAt d (recoverD st).1::pts p (wCells d lim base s sg false)::EntO s ds::SegO sg segs::Hs) w:=hw.arr
  exact e1.back (hw.cons fun _ h=>h.drop.drop.drop)
 ·obtain ⟨hg,hs,hl⟩:=hok h2
  refine .inr ⟨h2,R1,p,s,ds,sg,e1,hd,rfl,by rw [←hg],by rw [←hg];exact hb0,by rw [←hg];exact hb1,hdl,by rw [←hs];exact hl,?_⟩
  rw [ed,←hg,←hs]
  exact hw
end Go.Proofs.YtkfedbncmfnpnaaGreatDoor
/- A log on a disk: what its operations reckon, plain; the small ones walked. Condition: bounds on lengths; the library's table of powers is laid. -/
namespace Go.Proofs.YtkfedbncmfnpnaaGreatDoor
set_option linter.unusedVariables false
set_option linter.unusedSimpArgs false
open Go Go.VC
structure WSt where
 lim:Int
 g:Lg
 segs:List Sg
 brk:Bool
def tailS (segs:List Sg):Sg:=segs.getD (segs.length - 1) ⟨0,0,0⟩
def growS (segs:List Sg) (n:Nat):List Sg:=setSize segs ((tailS segs).size + n)
def rollW (x:WSt) (st:DS):DS × Int:=if x.lim≤(tailS x.segs).size then thenD (syncD st (segName (tailS x.segs).num)) fun st=>makeD st ((tailS x.segs).num + 1) (x.g.last + 1) else (st,0)
def rollS (x:WSt) (e:Int):List Sg:=if x.lim≤(tailS x.segs).size∧e=0 then x.segs++[⟨(tailS x.segs).num + 1,x.g.last + 1,(headB ((tailS x.segs).num + 1) (x.g.last + 1)).length⟩] else x.segs
def putW (x:WSt) (st:DS) (b:List Int) (g:Lg):(DS × Int) × WSt:=
 if (appendD st (segName (tailS x.segs).num) b).2=0 then (appendD st (segName (tailS x.segs).num) b,{ x with segs:=growS x.segs b.length,g:=g }) else (appendD st (segName (tailS x.segs).num) b,x)
def addW (x:WSt) (st:DS) (e:Ey):(DS × Int) × WSt:=
 if (rollW x st).2≠0 then (rollW x st,x) else putW { x with segs:=rollS x 0 } (rollW x st).1 (recB (entB e)) ⟨x.g.base,x.g.l++[e]⟩
def addsW:WSt→DS→List Ey→(DS × Int) × WSt
 |x,st,[]=>((st,0),x)
 |x,st,e::es=>if (addW x st e).1.2≠0 then addW x st e else addsW (addW x st e).2 (addW x st e).1.1 es
def doesW (r:(DS × Int) × WSt):(DS × Int) × WSt:=(r.1,{ r.2 with brk:=r.1.2 !=0 })
instance (x:Ey):Decidable x.Ok:=decidable_of_iff (1≤x.ix∧x.ix≤1099511627776∧0≤x.tm∧x.tm≤1099511627776∧0≤x.kd∧x.kd≤7∧x.dt.length≤4096)
 ⟨fun ⟨a,b,c,d,e,f,g⟩=>⟨a,b,c,d,e,f,g⟩,fun ⟨a,b,c,d,e,f,g⟩=>⟨a,b,c,d,e,f,g⟩⟩
def Follows (i:Int) (l:List Ey):Prop:=∀ (k:Nat) (h:k<l.length),l[k].ix=i + k
open Classical in
noncomputable def appendW (x:WSt) (st:DS) (l:List Ey):(DS × Int) × WSt:=
 if x.brk then ((st,8),x) else if ¬ (∀ e∈l,e.Ok) then ((st,1),x) else if ¬ Follows (x.g.last + 1) l then ((st,7),x) else doesW (addsW x st l)
def cutW (x:WSt) (st:DS) (i:Int):(DS × Int) × WSt:=
 if x.brk then ((st,8),x) else if i≤x.g.base∨i>x.g.last + 1 then ((st,7),x) else if i=x.g.last + 1 then ((st,0),x) else doesW (putW x st (recB (cutB i)) ⟨x.g.base,x.g.l.take (i - 1 - x.g.base).toNat⟩)
def resetW (x:WSt) (st:DS) (i:Int):(DS × Int) × WSt:=
 if x.brk then ((st,8),x) else if i<1∨i>1099511627776 then ((st,1),x) else doesW (putW x st (recB (resB i)) ⟨i - 1,[]⟩)
def syncW (x:WSt) (st:DS):(DS × Int) × WSt:=if x.brk then ((st,8),x) else doesW (syncD st (segName (tailS x.segs).num),x)
def firstW (x:WSt):Int:=if x.brk then 0 else x.g.base + 1
def lastW (x:WSt):Int:=if x.brk then 0 else x.g.last
def getW (x:WSt) (from' most:Int):List Ey:=if x.brk∨from'≤x.g.base∨from'>x.g.last∨most<1 then [] else (x.g.l.drop (from' - 1 - x.g.base).toNat).take most.toNat
structure WB (x:WSt):Prop where
 b0:0≤x.g.base
 b1:x.g.base≤1099511627776
 l1:x.g.l.length≤200000000000
 s0:0<x.segs.length
 s1:x.segs.length≤900000
 n1:∀ g∈x.segs,g.num≤99999998∧0≤g.size∧g.size≤1099511627776
structure WB0 (x:WSt):Prop where
 b0:0≤x.g.base
 b1:x.g.base≤1099511627776
 l1:x.g.l.length≤200000000000
theorem WB.w0 {x:WSt} (b:WB x):WB0 x:=⟨b.b0,b.b1,b.l1⟩
variable {R R':Cx} {Hs Rest:List HP} {w:World} {p d:Nat} {x:WSt} {s sg:Sl} {ds:List DE4} {st:DS}
abbrev WX (p d:Nat) (x:WSt) (s sg:Sl) (ds:List DE4) (st:DS) (Hs:List HP):List HP:=WS p d x.lim x.g.base s sg x.brk ds x.segs st Hs
def WMem (R:Cx) (p d:Nat) (x:WSt) (st:DS) (Hs:List HP) (w:World):Prop:=∃ s ds sg,DsR R ds∧erE ds=x.g.l∧Sat R (WX p d x s sg ds st Hs) w
theorem first_spec0 (b:WB0 x) (hw:Sat R (WX p d x s sg ds st Hs) w):Gets Tryz.prog 22 #[.pointer (some ⟨p,0,none⟩)] w fun v w'=>v=.int .i64 (firstW x)∧Sat R (WX p d x s sg ds st Hs) w':=by
 have h0:=b.b0;have h1:=b.b1
 apply call22
 refine NilP.mk rfl ⟨x.brk,At.own (eqS hw) (by exact ⟨rfl,trivial⟩),Br.mk (fun h=>?_) (fun h=>?_)⟩
 ·refine ⟨?_,hw⟩;unfold firstW;rw [if_pos h]
 ·refine NilP.mk rfl ⟨_,At.own (eqS hw) (by exact ⟨rfl,trivial⟩),?_,hw⟩
  rw [wrap64 (by omega) (by omega)];unfold firstW;rw [if_neg (by simp [h])]
theorem first_spec (b:WB x) (hw:Sat R (WX p d x s sg ds st Hs) w):Gets Tryz.prog 22 #[.pointer (some ⟨p,0,none⟩)] w fun v w'=>v=.int .i64 (firstW x)∧Sat R (WX p d x s sg ds st Hs) w':=first_spec0 b.w0 hw
theorem lastG (h:erE ds=x.g.l):x.g.last=x.g.base + (ds.length:Int):=by unfold Lg.last;rw [←h];simp
theorem WX.slen (hw:Sat R (WX p d x s sg ds st Hs) w):s.len=ds.length∧sg.len=x.segs.length:=by
 constructor
 ·have h2:Sat R (EntO s ds::pts p (wCells d x.lim x.g.base s sg x.brk)::SegO sg x.segs::DiskAt d st::Hs) w:=hw.arr
  have:=OwnN.len h2;simpa using this
 ·have h2:Sat R (SegO sg x.segs::pts p (wCells d x.lim x.g.base s sg x.brk)::EntO s ds::DiskAt d st::Hs) w:=hw.arr
  have:=OwnN.len h2;simpa using this
theorem lastX_spec0 (b:WB0 x) (hd:erE ds=x.g.l) (hw:Sat R (WX p d x s sg ds st Hs) w):Gets Tryz.prog 52 #[.pointer (some ⟨p,2,none⟩)] w fun v w'=>v=.int .i64 x.g.last∧Sat R (WX p d x s sg ds st Hs) w':=by
 have hl:=(WX.slen hw).1
 have h1:=b.l1
 rw [←hd] at h1
 simp only [List.length_map] at h1
 refine (last_spec (p:=p) b.b0 (by have:=b.b1;omega) (by omega) hw).mono ?_
 rintro _ w ⟨rfl,hw⟩
 rw [lastG hd,hl]
 exact ⟨rfl,hw⟩
theorem lastX_spec (b:WB x) (hd:erE ds=x.g.l) (hw:Sat R (WX p d x s sg ds st Hs) w):Gets Tryz.prog 52 #[.pointer (some ⟨p,2,none⟩)] w fun v w'=>v=.int .i64 x.g.last∧Sat R (WX p d x s sg ds st Hs) w':=lastX_spec0 b.w0 hd hw
theorem lastW_spec0 (b:WB0 x) (hd:erE ds=x.g.l) (hw:Sat R (WX p d x s sg ds st Hs) w):Gets Tryz.prog 24 #[.pointer (some ⟨p,0,none⟩)] w fun v w'=>v=.int .i64 (lastW x)∧Sat R (WX p d x s sg ds st Hs) w':=by
 apply call24
 refine NilP.mk rfl ⟨x.brk,At.own (eqS hw) (by exact ⟨rfl,trivial⟩),Br.mk (fun h=>?_) (fun h=>?_)⟩
 ·refine ⟨?_,hw⟩;unfold lastW;rw [if_pos h]
 ·refine NilP.mk rfl ((lastX_spec0 b hd hw).use ?_)
  clear hw
  rintro _ w ⟨rfl,hw⟩
  refine ⟨_,rfl,?_,hw⟩
  unfold lastW;rw [if_neg (by simp [h])]
theorem copied_spec {e:DE4} (hs:SlR R.m e.1 (b8 e.2.dt)) (hl:e.2.dt.length≤1099511627776) (hw:Sat R Hs w):Gets Tryz.prog 59 #[eVal e] w fun v w'=>∃ (R':Cx) (t:Sl),R.Ext R'∧v=eVal (t,e.2)∧SlR R'.m t (b8 e.2.dt)∧Sat R' Hs w':=by
 apply call59
 refine new_rule hw fun b w hw=>new_rule hw fun b2 w hw=>?_
 refine ⟨e.1,At.own (eqS hw) (by exact ⟨rfl,trivial⟩),?_⟩
 refine (clone_spec (hs.ro (by rw [List.length_map];omega)) hl hw).use ?_
 clear hw
 rintro _ w ⟨t,rfl,hw⟩
 obtain ⟨R1,e1,ht,hw⟩:=Own.leak hw
 refine ⟨t,rfl,?_⟩
 have hw:Sat R1 (pts b (.cells (eRow e).toArray 55 (0,0))::pts b2 (.cells [.int .i64 0,.int .i64 0,.int .i64 0,.slice none 0 0].toArray 55 (0,0))::Hs) w:=hw.swap
 refine store_rule hw (by kernel_rfl) rfl (by simp [Value.cells,putL_len]) fun w hw=>?_
 have hw:Sat R1 (pts b (.cells (eRow (t,e.2)).toArray 55 (0,0))::pts b2 (.cells [.int .i64 0,.int .i64 0,.int .i64 0,.slice none 0 0].toArray 55 (0,0))::Hs) w:=hw
 refine ⟨e.2.ix,e.2.tm,e.2.kd,t,At.own (eqS hw) (by exact ⟨rfl,rfl,rfl,rfl,trivial⟩),?_⟩
 have hw:=hw.swap
 refine store_rule hw (by kernel_rfl) rfl (by simp [Value.cells,putL_len]) fun w hw=>?_
 have hw:Sat R1 (pts b2 (.cells (eRow (t,e.2)).toArray 55 (0,0))::pts b (.cells (eRow (t,e.2)).toArray 55 (0,0))::Hs) w:=hw
 refine ⟨e.2.ix,e.2.tm,e.2.kd,t,At.own (eqS hw) (by exact ⟨rfl,rfl,rfl,rfl,trivial⟩),?_⟩
 exact ⟨R1,t,e1,rfl,ht,hw.drop.drop⟩
theorem getW_spec0 (b:WB0 x) (from' most:Int) (hf: -9223372036854775808≤from'∧from'<9223372036854775808) (hdl:∀ e∈x.g.l,e.dt.length≤1099511627776) (hd:DsR R ds) (he:erE ds=x.g.l) (hw:Sat R (WX p d x s sg ds st Hs) w):
  Gets Tryz.prog 21 #[.pointer (some ⟨p,0,none⟩),.int .i64 from',.int .i64 most] w fun v w'=>∃ (R':Cx) (t:Sl) (ds':List DE4),R.Ext R'∧v=.slice t.a t.len t.cap∧DsR R' ds'∧erE ds'=getW x from' most∧Sat R' (EntO t ds'::WX p d x s sg ds st Hs) w':=by
 have h0:=b.b0;have h1:=b.b1;have h2:=b.l1
 have hsl:=(WX.slen hw).1
 have hlast:=lastG he
 have hdl2:ds.length=x.g.l.length:=by rw [←he];simp
 apply call21
 suffices H:∀ K:Value→World→Prop,(∀ (R':Cx) (t:Sl) (ds':List DE4) w',R.Ext R'→DsR R' ds'→erE ds'=getW x from' most→Sat R' (EntO t ds'::WX p d x s sg ds st Hs) w'→K (.slice t.a t.len t.cap) w')→B21 (some ⟨p,0,none⟩) from' most K w from H _ fun R' t ds' w' a b c h=>⟨R',t,ds',a,rfl,b,c,h⟩
 intro K hK
 have none:∀ {w},(x.brk=true∨from'≤x.g.base∨from'>x.g.last∨most<1)→Sat R (WX p d x s sg ds st Hs) w→K (.slice none 0 0) w:=fun {w} h hw=>
  hK R ⟨.none,0,0⟩ [] w .refl .nil (by unfold getW;rw [if_pos h];rfl) (OwnN.nil hw)
 refine ⟨fun w=>¬ (x.brk=true∨from'≤x.g.base∨from'>x.g.last∨most<1)∧Sat R (WX p d x s sg ds st Hs) w,?_,?_⟩
 ·refine NilP.mk rfl ⟨x.brk,At.own (eqS hw) (by exact ⟨rfl,trivial⟩),Br.mk (fun h=>none (.inl h) hw) (fun h=>?_)⟩
  refine NilP.mk rfl ⟨_,At.own (eqS hw) (by exact ⟨rfl,trivial⟩),Br.d (fun h3=>none (.inr (.inl h3)) hw) (fun h3=>?_)⟩
  refine NilP.mk rfl ((lastX_spec0 b he hw).use ?_)
  clear hw
  rintro _ w ⟨rfl,hw⟩
  refine ⟨_,rfl,Br.d (fun h4=>none (.inr (.inr (.inl h4))) hw) (fun h4=>Br.d (fun h5=>none (.inr (.inr (.inr h5))) hw) (fun h5=>⟨?_,hw⟩))⟩
  rintro (h6|h6|h6|h6)
  ·rw [h] at h6;cases h6
  ·exact h3 h6
  ·exact h4 h6
  ·exact h5 h6
 clear hw
 rintro _ w ⟨hc,hw⟩
 have hc':=hc
 rw [not_or,not_or,not_or] at hc'
 obtain ⟨c1,c2,c3,c4⟩:=hc'
 have w1:IntKind.i64.wrap (IntKind.i64.wrap (from' - 1) - x.g.base)=((from' - 1 - x.g.base).toNat:Int):=by rw [wrap64 (x:=from' - 1) (by omega) (by omega),wrap64 (by omega) (by omega)];omega
 obtain ⟨o,ho⟩:∃ o,o=(from' - 1 - x.g.base).toNat:=⟨_,rfl⟩
 rw [←ho] at w1
 have hol:o≤ds.length:=by omega
 refine drw_rule hw fun w hw=>?_
 refine NilP.mk rfl ⟨s,At.own selfS (by exact ⟨rfl,trivial⟩),NilP.mk rfl ⟨_,At.own selfS (by exact ⟨rfl,trivial⟩),?_⟩⟩
 rw [w1,Int.toNat_natCast]
 obtain ⟨m,hm⟩:∃ m:Nat,(m:Int)=if ((s.len - o:Nat):Int)<most then ((s.len - o:Nat):Int) else most:=⟨(if ((s.len - o:Nat):Int)<most then ((s.len - o:Nat):Int) else most).toNat,by split<;>omega⟩
 rw [←hm]
 have hcap:s.len≤s.cap:=by
  have h2:Sat R (EntO s ds::pts p (wCells d x.lim x.g.base s sg x.brk)::SegO sg x.segs::DiskAt d st::Hs) w:=hw.arr
  exact OwnN.cap (by omega) h2
 have hml:m≤ds.length - o:=by
  have:(m:Int)≤((s.len - o:Nat):Int):=by rw [hm];split<;>omega
  omega
 have hwant:getW x from' most=((erE ds).drop o).take m:=by
  unfold getW
  rw [if_neg hc,←ho,he]
  by_cases hlt:((s.len - o:Nat):Int)<most
  ·rw [if_pos hlt] at hm
   rw [List.take_of_length_le (by simp;omega),List.take_of_length_le (by simp;omega)]
  ·rw [if_neg hlt] at hm
   congr 1
   omega
 refine ⟨by omega,by omega,by omega,by omega,?_⟩
 rw [Int.toNat_natCast]
 refine ⟨fun o' i w=>∃ (k:Nat) (R2:Cx) (ds':List DE4),i=k∧k≤m∧R.Ext R2∧DsR R2 ds'∧erE ds'=((erE ds).drop o).take k∧Sat R2 (EntO o' ds'::WX p d x s sg ds st Hs) w,fun _ i _=>m - i.toNat,⟨0,R,[],rfl,by omega,.refl,.nil,by simp [erE],OwnN.nil hw⟩,?_⟩
 clear hw
 rintro _ o' _ w ⟨k,R2,ds',rfl,hk,e2,hd',he',hw⟩
 refine Br.d (fun h=>?_) (fun h=>?_)
 ·have hk':k<m:=by omega
  have hok:o + k<ds.length:=by omega
  have hwE:Sat R2 (EntO s ds::EntO o' ds'::pts p (wCells d x.lim x.g.base s sg x.brk)::SegO sg x.segs::DiskAt d st::Hs) w:=hw.arr
  have hwE2:=hwE
  obtain ⟨R3,hr,hx3,hw3,back⟩:=OwnN.lend hwE
  have hsub:=hr.sub (l:=o) (h:=o + m) (m:=s.cap) (by omega) (by rw [List.length_map];omega) (fun h=>by omega)
  have hrows:((ds.map eRow).take (o + m)).drop o=(((ds.drop o).take m).map eRow):=by
   rw [List.map_take,List.map_drop,List.drop_take];congr 1;omega
  rw [hrows,Nat.add_sub_cancel_left] at hsub
  have hrdk:=hsub.reads (S:=fun w'=>w'=w) (eqS hw3)
  have hlk:k<((ds.drop o).take m).length:=by simp;omega
  refine hrdk.rngM hlk fun a _ el=>?_
  have hel:((ds.drop o).take m)[k]=ds[o + k]:=by simp
  rw [hel] at el
  obtain ⟨e,hee⟩:∃ e,e=ds[o + k]:=⟨_,rfl⟩
  rw [←hee] at el
  have hem:e∈ds:=by rw [hee];exact List.getElem_mem _
  refine ⟨e.2.ix,e.2.tm,e.2.kd,e.1,el.z (by exact ⟨rfl,rfl,rfl,rfl,trivial⟩),new_rule hw fun b w hw=>?_⟩
  refine store_rule hw (by kernel_rfl) rfl (by simp [Value.cells,putL_len]) fun w hw=>?_
  have hw:Sat R2 (pts b (.cells (eRow e).toArray 55 (0,0))::EntO o' ds'::WX p d x s sg ds st Hs) w:=hw
  refine ⟨e.2.ix,e.2.tm,e.2.kd,e.1,At.own (eqS hw) (by exact ⟨rfl,rfl,rfl,rfl,trivial⟩),?_⟩
  refine (copied_spec (e:=e) (e2.slR (hd e hem)) (hdl e.2 (by rw [←he];exact List.mem_map_of_mem (f:=(·.2)) hem)) hw.drop).use ?_
  clear hw
  rintro _ w ⟨R4,t,e4,rfl,ht,hw⟩
  refine ⟨_,_,_,t,rfl,new_rule hw fun b w hw=>?_⟩
  have hdl':ds'.length=k:=by have:=congrArg List.length he';simp at this;omega
  refine pushN_in elE (s:=o') (rows:=ds'.map eRow) (x:=eRow (t,e.2)) hw.swap rfl rfl (by rw [List.length_map];omega) (by rw [List.length_map];omega) fun s2 w hw=>?_
  refine ⟨⟨k + 1,R4,ds'++[(t,e.2)],by rw [wrap64 (by omega) (by omega)];omega,by omega,e2.trans e4,(hd'.ext e4).app (.one ht),?_,?_⟩,by dsimp only;rw [wrap64 (by omega) (by omega)];omega⟩
  ·rw [List.take_add_one]
   have:((erE ds).drop o)[k]? =some e.2:=by
    rw [List.getElem?_drop,List.getElem?_map,List.getElem?_eq_getElem hok,←hee];rfl
   rw [this,erE,List.map_append]
   show erE ds'++[e.2]=_
   rw [he'];rfl
  ·unfold EntO;rw [List.map_append];exact hw
 ·have hkm:k=m:=by omega
  exact hK R2 o' ds' w e2 hd' (by rw [he',hkm,hwant]) hw
end Go.Proofs.YtkfedbncmfnpnaaGreatDoor
/- A log on a disk: writing. Condition: bounds on lengths; the library's table of powers is laid. -/
namespace Go.Proofs.YtkfedbncmfnpnaaGreatDoor
set_option linter.unusedVariables false
set_option linter.unusedSimpArgs false
open Go Go.VC
variable {R R':Cx} {Hs Rest:List HP} {w:World} {p d:Nat} {x:WSt} {s sg:Sl} {ds:List DE4} {st:DS}
theorem tail_get (b:WB x):tailS x.segs=x.segs[x.segs.length - 1]'(by have:=b.s0;omega):=by
 unfold tailS
 rw [List.getD_eq_getElem?_getD,List.getElem?_eq_getElem (by have:=b.s0;omega)]
 rfl
theorem tail_bd (b:WB x):(tailS x.segs).num≤99999998∧0≤(tailS x.segs).size∧(tailS x.segs).size≤1099511627776:=by
 rw [tail_get b]
 exact b.n1 _ (List.getElem_mem _)
theorem tail_spec (b:WB x) (hw:Sat R (WX p d x s sg ds st Hs) w):Gets Tryz.prog 61 #[.pointer (some ⟨p,0,none⟩)] w fun v w'=>∃ a:Addr,sg.a=some a∧v=.pointer (some (Addr.add a (mulS ((x.segs.length - 1:Nat):Int).toNat 3)))∧Sat R (WX p d x s sg ds st Hs) w':=by
 have h0:=b.s0;have h1:=b.s1
 have hsl:=(WX.slen hw).2
 apply call61
 refine drw_rule hw fun w hw=>?_
 refine NilP.mk rfl ⟨sg,At.own selfS (by exact ⟨rfl,trivial⟩),NilP.mk rfl ⟨sg,At.own selfS (by exact ⟨rfl,trivial⟩),?_⟩⟩
 have wk:IntKind.i64.wrap ((sg.len:Int) - 1)=((x.segs.length - 1:Nat):Int):=by rw [wrap64 (by omega) (by omega)];omega
 rw [wk]
 have hrd:ReadsN 3 sg (x.segs.map sRow) (fun w'=>w'=w):=OwnN.readsM (n:=3) (s:=sg) (T:=96) (rows:=x.segs.map sRow) hw (eqS hw)
 refine hrd.rngM (by omega) fun a ha _=>⟨a,ha,rfl,hw⟩
theorem tail_read (b:WB x) {a:Addr} (ha:sg.a=some a) {S:World→Prop} {Hs' R1:List HP} (hw:Sat R Hs' w) [t:Take (SegO sg x.segs) Hs' R1] (hS:∀ w,S w→Sat R Hs' w):
  Elt 3 S a (x.segs.length - 1) (sRow (tailS x.segs)):=by
 have h0:=b.s0
 have hrd:ReadsN 3 sg (x.segs.map sRow) S:=OwnN.readsM (n:=3) (s:=sg) (T:=96) (rows:=x.segs.map sRow) hw hS
 have:=hrd.eltM (k:=x.segs.length - 1) (by omega) ha
 rw [tail_get b]
 exact this
theorem write_spec (b:WB x) (i:Inv st) (hp:PowR R) {t:Sl} {xs:List Int} (hx:Ro R t (b8 xs)) (hxl:xs.length≤100000) (hw:Sat R (WX p d x s sg ds st Hs) w):
  Gets Tryz.prog 63 #[.pointer (some ⟨p,0,none⟩),.slice t.a t.len t.cap] w fun v w'=>v=.int .i64 (appendD st (segName (tailS x.segs).num) xs).2∧
   Sat R (WX p d { x with segs:=if (appendD st (segName (tailS x.segs).num) xs).2=0 then growS x.segs xs.length else x.segs } s sg ds (appendD st (segName (tailS x.segs).num) xs).1 Hs) w':=by
 have h0:=b.s0;have h1:=b.s1
 obtain ⟨t1,t2,t3⟩:=tail_bd b
 have htl:t.len=xs.length:=by have:=hx.len;simpa using this
 apply call63
 refine drw_rule' (Sat R [pts p (wCells d x.lim x.g.base s sg x.brk),SegO sg x.segs,VC.tru]) hw (fun w hw=>hw.k2) fun w hw=>?_
 refine NilP.mk rfl ⟨_,(by rw [add_off];exact At.own selfS (by exact ⟨rfl,trivial⟩)),?_⟩
 refine (tail_spec b hw).use ?_
 clear hw
 rintro _ w ⟨a,ha,rfl,hw⟩
 refine ⟨_,rfl,hw.k2,NilP.mk rfl ?_⟩
 have el:=tail_read b ha (S:=Sat R [pts p (wCells d x.lim x.g.base s sg x.brk),SegO sg x.segs,VC.tru]) (hw.k2:Sat R [pts p (wCells d x.lim x.g.base s sg x.brk),SegO sg x.segs,VC.tru] w) selfS
 refine ⟨_,_,_,el.z (by exact ⟨rfl,rfl,rfl,trivial⟩),?_⟩
 refine (name_spec hp (by omega) hw).use ?_
 clear hw
 rintro _ w ⟨rfl,hw⟩
 refine ⟨_,rfl,hw.k2,?_⟩
 have hw:Sat R (DiskAt d st::pts p (wCells d x.lim x.g.base s sg x.brk)::EntO s ds::SegO sg x.segs::Hs) w:=hw.arr
 refine (append_spec (k:=segName (tailS x.segs).num) i hx (by omega) hw).use ?_
 clear hw
 rintro _ w ⟨rfl,hw⟩
 have hw:Sat R (WX p d x s sg ds (appendD st (segName (tailS x.segs).num) xs).1 Hs) w:=hw.arr
 refine ⟨_,rfl,hw.k2,Br.e (fun h=>?_) (fun h=>?_)⟩
 ·refine (tail_spec b hw).use ?_
  clear hw
  rintro _ w ⟨a,ha,rfl,hw⟩
  refine ⟨_,rfl,NilP.mk rfl ?_⟩
  have el:=tail_read b ha (S:=fun w'=>w'=w) hw (eqS hw)
  refine ⟨_,el.f 2 (by exact ⟨rfl,trivial⟩),NilP.mk rfl ?_⟩
  rw [wrap64 (by omega) (by omega),htl]
  have hk:x.segs.length - 1<x.segs.length:=by omega
  refine OwnN.storeM (n:=3) (s:=sg) (T:=96) (E:=x.segs) (g:=sRow) 2 ⟨x.segs[x.segs.length - 1].num,x.segs[x.segs.length - 1].next,(tailS x.segs).size + (xs.length:Nat)⟩ hw ha hk (by kernel_rfl) rfl (by simp [Value.cells]) rfl fun w hw=>?_
  have ess:growS x.segs xs.length=x.segs.set (x.segs.length - 1) ⟨x.segs[x.segs.length - 1].num,x.segs[x.segs.length - 1].next,(tailS x.segs).size + (xs.length:Nat)⟩:=by
   unfold growS setSize
   rw [List.getElem?_eq_getElem hk]
  rw [←ess] at hw
  refine ⟨rfl,?_⟩
  rw [if_pos h]
  exact hw.arr
 ·refine ⟨rfl,?_⟩
  rw [if_neg h]
  exact hw
theorem right_specW {e:DE4} (hs:e.1.len=e.2.dt.length) (hw:Sat R Hs w):Gets Tryz.prog 50 #[eVal e] w fun v w'=>v=.bool (decide e.2.Ok)∧Sat R Hs w':=by
 apply call50
 have hno:∀ {w},¬ e.2.Ok→Sat R Hs w→(Value.bool false=.bool (decide e.2.Ok)∧Sat R Hs w):=fun h hw=>⟨by rw [decide_eq_false h],hw⟩
 refine new_rule hw fun b w hw=>?_
 have hw:Sat R (pts b (.cells (eRow e).toArray 55 (0,0))::Hs) w:=hw
 refine ⟨_,At.own (eqS hw) (by exact ⟨rfl,trivial⟩),Br.d (fun h1=>?_) (fun h1=>hno (fun h=>by have:=h.i0;omega) hw.drop)⟩
 refine ⟨_,At.own (eqS hw) (by exact ⟨rfl,trivial⟩),Br.d (fun h2=>?_) (fun h2=>hno (fun h=>by have:=h.i1;omega) hw.drop)⟩
 refine ⟨_,At.own (eqS hw) (by exact ⟨rfl,trivial⟩),Br.d (fun h3=>?_) (fun h3=>hno (fun h=>by have:=h.t0;omega) hw.drop)⟩
 refine ⟨_,At.own (eqS hw) (by exact ⟨rfl,trivial⟩),Br.d (fun h4=>?_) (fun h4=>hno (fun h=>by have:=h.t1;omega) hw.drop)⟩
 refine ⟨_,At.own (eqS hw) (by exact ⟨rfl,trivial⟩),Br.d (fun h5=>?_) (fun h5=>hno (fun h=>by have:=h.k0;omega) hw.drop)⟩
 refine ⟨_,At.own (eqS hw) (by exact ⟨rfl,trivial⟩),Br.d (fun h6=>?_) (fun h6=>hno (fun h=>by have:=h.k1;omega) hw.drop)⟩
 refine ⟨e.1,At.own (eqS hw) (by exact ⟨rfl,trivial⟩),?_,hw.drop⟩
 congr 1
 rw [hs]
 exact decide_eq_decide.2 ⟨fun h=>⟨h1,h2,h3,h4,h5,h6,by omega⟩,fun h=>by have:=h.d1;omega⟩
theorem rollS_wb (b:WB x) (hn:(tailS x.segs).num≤99999997) (h1:x.g.last + 1≤1099511627777) (hsl:x.segs.length≤800000):WB { x with segs:=rollS x 0 }:=by
 refine ⟨b.b0,b.b1,b.l1,?_,?_,?_⟩
 ·unfold rollS;split
  ·simp
  ·exact b.s0
 ·unfold rollS;split
  ·simp;omega
  ·exact b.s1
 ·unfold rollS;split
  ·intro g hg
   rcases List.mem_append.1 hg with hg|hg
   ·exact b.n1 g hg
   ·simp at hg;subst hg
    have:=hdB_len (n:=(tailS x.segs).num + 1) (next:=x.g.last + 1) (by omega) h1
    simp only
    unfold headB
    rw [recB_len]
    omega
  ·exact b.n1
theorem add1_spec {bw bs:Nat} {g:Sg} (i:Inv st) (hp:PowR R) (hn:g.num<100000000) (h1:BoxP R bw p) (h2:R.m bs=some (sCells g)) (hw:Sat R (WX p d x s sg ds st Hs) w):
  Gets Tryz.prog 101 #[.pointer (some ⟨bw,0,none⟩),.pointer (some ⟨bs,0,none⟩)] w fun v w'=>v=.int .i64 (syncD st (segName g.num)).2∧Sat R (WX p d x s sg ds (syncD st (segName g.num)).1 Hs) w':=by
 apply call101
 refine drw_rule' (Sat R [pts p (wCells d x.lim x.g.base s sg x.brk),VC.tru]) hw (fun w hw=>hw.k1) fun w hw=>?_
 refine NilP.mk rfl ⟨_,h1.at selfS,NilP.mk rfl ⟨_,(by rw [add_off];exact At.own selfS (by exact ⟨rfl,trivial⟩)),NilP.mk rfl ⟨_,_,_,At.ro selfS h2 (by exact ⟨rfl,rfl,rfl,trivial⟩),?_⟩⟩⟩
 refine (name_spec hp hn hw).use ?_
 clear hw
 rintro _ w ⟨rfl,hw⟩
 refine ⟨_,rfl,hw.k1,?_⟩
 have hw:Sat R (DiskAt d st::pts p (wCells d x.lim x.g.base s sg x.brk)::EntO s ds::SegO sg x.segs::Hs) w:=hw.arr
 refine (sync_spec i hw).use ?_
 clear hw
 rintro _ w ⟨rfl,hw⟩
 exact ⟨_,rfl,hw.k1,rfl,hw.arr⟩
theorem add2_spec {bw bs:Nat} {g:Sg} (b:WB x) (hd:erE ds=x.g.l) (i:Inv st) (hp:PowR R) (hn:g.num + 1≤99999999) (hl1:x.g.last + 1≤1099511627777) (h1:BoxP R bw p) (h2:R.m bs=some (sCells g)) (hw:Sat R (WX p d x s sg ds st Hs) w):
  Gets Tryz.prog 102 #[.pointer (some ⟨bw,0,none⟩),.pointer (some ⟨bs,0,none⟩)] w fun v w'=>∃ e,v=.int .i64 e∧DoneQ R Hs p d x.lim x.g.base s x.brk ds (madeS x.segs (g.num + 1) (x.g.last + 1)) (makeD st (g.num + 1) (x.g.last + 1)) e w':=by
 have hb0:=b.b0;have hs1:=b.s1
 have hlb:x.g.base≤x.g.last:=x.g.base_le
 apply call102
 refine drw_rule' (Sat R [VC.tru]) hw (fun w hw=>Sat.toTru (As:=[]) hw) fun w hw=>?_
 refine NilP.mk rfl ⟨_,h1.at selfS,NilP.mk rfl ⟨_,(by rw [add_off];exact At.ro selfS h2 (by exact ⟨rfl,trivial⟩)),NilP.mk rfl ⟨_,h1.at selfS,NilP.mk rfl ?_⟩⟩⟩
 refine (lastX_spec b hd hw).use ?_
 clear hw
 rintro _ w ⟨rfl,hw⟩
 refine ⟨_,rfl,Sat.toTru (As:=[]) hw,?_⟩
 have w1:IntKind.i64.wrap ((g.num:Int) + 1)=((g.num + 1:Nat):Int):=by rw [wrap64 (by omega) (by omega)];omega
 rw [w1,wrap64 (by omega) (by omega)]
 refine (make_spec (n:=g.num + 1) (next:=x.g.last + 1) i hp hn (by omega) hl1 (by omega) hw).use ?_
 rintro _ w ⟨e,rfl,h⟩
 have h':=h
 obtain ⟨R2,sg2,e2,_,hw⟩:=h'
 exact ⟨_,rfl,e2.back (Sat.toTru (As:=[]) hw),e,rfl,h⟩
def OpQ (R:Cx) (Hs:List HP) (p d:Nat) (r:(DS × Int) × WSt) (v:Value) (w:World):Prop:=∃ R',R.Ext R'∧v=.int .i64 r.1.2∧WMem R' p d r.2 r.1.1 Hs w
theorem add_specW (b:WB x) (i:Inv st) (hp:PowR R) (hd:DsR R ds) (he:erE ds=x.g.l) {e:DE4} (hok:e.2.Ok) (hes:SlR R.m e.1 (b8 e.2.dt)) (hby:∀ y∈e.2.dt,0≤y∧y<256) (hix:e.2.ix=x.g.last + 1) (hn:(tailS x.segs).num≤99999997) (hl1:x.g.l.length<150000000000) (hsl:x.segs.length≤800000) (hw:Sat R (WX p d x s sg ds st Hs) w):
  Gets Tryz.prog 55 #[.pointer (some ⟨p,0,none⟩),eVal e] w (OpQ R Hs p d (addW x st e.2)):=by
 have hix1:=hok.i1
 have hb0:=b.b0
 obtain ⟨t1,t2,t3⟩:=tail_bd b
 apply call55
 suffices H:∀ K:Value→World→Prop,(∀ v w',OpQ R Hs p d (addW x st e.2) v w'→K v w')→B55 (some ⟨p,0,none⟩) e.2.ix e.2.tm e.2.kd e.1 K w from H _ fun _ _ h=>h
 intro K hK
 refine new_rule hw fun bw w hw=>?_
 obtain ⟨R1,e1,b1,hw⟩:=box_leak hw
 refine new_rule hw fun bx w hw=>?_
 have hw:Sat R1 (pts bx (.cells (eRow e).toArray 55 (0,0))::WX p d x s sg ds st Hs) w:=hw
 obtain ⟨R2,e2,bx2,hw⟩:=pts.leak hw
 have e12:=e1.trans e2
 have b1:=b1.ext e2
 have hp2:=hp.ext e12
 have hd2:=hd.ext e12
 have hes2:=e12.slR hes
 obtain ⟨x1,hx1⟩:∃ y:WSt,y={ x with segs:=rollS x 0 }:=⟨_,rfl⟩
 refine ⟨fun w=>(rollW x st).2=0∧∃ (R3:Cx) (sg:Sl),R2.Ext R3∧Sat R3 (WX p d x1 s sg ds (rollW x st).1 Hs) w,?_,?_⟩
 ·refine ⟨_,b1.at (eqS hw),(tail_spec b hw).use ?_⟩
  clear hw
  rintro _ w ⟨a,ha,rfl,hw⟩
  refine ⟨_,rfl,NilP.mk rfl ?_⟩
  have el:=tail_read b ha (S:=fun w'=>w'=w) hw (eqS hw)
  refine ⟨_,_,_,el.z (by exact ⟨rfl,rfl,rfl,trivial⟩),new_rule hw fun bs w hw=>?_⟩
  refine store_rule hw (by kernel_rfl) rfl (by simp [Value.cells,putL_len]) fun w hw=>?_
  have hw:Sat R2 (pts bs (sCells (tailS x.segs))::WX p d x s sg ds st Hs) w:=hw
  obtain ⟨R3,e3,bs3,hw⟩:=pts.leak hw
  have b1:=b1.ext e3
  have hp3:=hp2.ext e3
  refine drw_rule hw fun w hw=>?_
  refine ⟨(tailS x.segs).size,At.ro selfS bs3 (by exact ⟨rfl,trivial⟩),_,b1.at selfS,NilP.mk rfl ⟨x.lim,At.own selfS (by exact ⟨rfl,trivial⟩),Br.d (fun h=>?_) (fun h=>?_)⟩⟩
  ·have hroll:x.lim≤(tailS x.segs).size:=h
   have er:rollW x st=thenD (syncD st (segName (tailS x.segs).num)) fun st=>makeD st ((tailS x.segs).num + 1) (x.g.last + 1):=by unfold rollW;rw [if_pos hroll]
   refine new_rule hw fun bt w hw=>?_
   obtain ⟨R4,e4,bt4,hw⟩:=pts.leak hw
   have b1:=b1.ext e4
   have bs4:=e4.m _ _ bs3
   have hp4:=hp3.ext e4
   have e14:=(e12.trans e3).trans e4
   have hro:Ro R4 ⟨some ⟨bt,0,none⟩,2,2⟩ [.func (.func 101) #[] #[.pointer (some ⟨bw,0,none⟩),.pointer (some ⟨bs,0,none⟩)],.func (.func 102) #[] #[.pointer (some ⟨bw,0,none⟩),.pointer (some ⟨bs,0,none⟩)]]:=
    ⟨rfl,by simp,fun _=>⟨bt,0,_,_,_,rfl,bt4,fun i v h=>by simpa using h⟩⟩
   have i2:=sync_inv i (segName (tailS x.segs).num)
   refine (all_spec (Q:=fun n w=>n=(rollW x st).2∧∃ sg,Sat R4 (WS p d x.lim x.g.base s sg x.brk ds (rollS x n) (rollW x st).1 Hs) w) hro (by simp) hw ?_).use ?_
   ·refine CalW.mk (by kernel_rfl) ((add1_spec (g:=tailS x.segs) i hp4 (by omega) b1 bs4 hw).use ?_)
    clear hw
    rintro _ w ⟨rfl,hw⟩
    refine ⟨_,rfl,?_⟩
    by_cases h2:(syncD st (segName (tailS x.segs).num)).2=0
    case neg=>
     have er2:rollW x st=syncD st (segName (tailS x.segs).num):=by rw [er,thenD_err h2]
     refine .inl ⟨h2,by rw [er2],sg,?_⟩
     rw [er2]
     unfold rollS;rw [if_neg (fun h=>h2 h.2)];exact hw
    have er2:rollW x st=makeD (syncD st (segName (tailS x.segs).num)).1 ((tailS x.segs).num + 1) (x.g.last + 1):=by rw [er,thenD_ok h2]
    refine .inr ⟨h2,⟨_,hw⟩,?_⟩
    refine CalW.mk (by kernel_rfl) ((add2_spec (g:=tailS x.segs) b he i2 hp4 (by omega) (by omega) b1 bs4 hw).use ?_)
    clear hw
    rintro _ w ⟨n,rfl,R5,sg5,e5,rfl,hw⟩
    have hw:=e5.back hw
    rw [←er2] at hw ⊢
    have es:madeS x.segs ((tailS x.segs).num + 1) (x.g.last + 1) (rollW x st).2=rollS x (rollW x st).2:=by
     unfold madeS rollS
     by_cases h3:(rollW x st).2=0
     ·rw [if_pos h3,if_pos ⟨hroll,h3⟩]
     ·rw [if_neg h3,if_neg (fun h=>h3 h.2)]
    rw [es] at hw
    refine ⟨_,rfl,?_⟩
    by_cases h3:(rollW x st).2=0
    case neg=>exact .inl ⟨h3,rfl,sg5,hw⟩
    refine .inr ⟨h3,⟨_,hw⟩,h3.symm,sg5,?_⟩
    rw [h3] at hw;exact hw
   ·rintro _ w ⟨n,rfl,rfl,sg5,hw⟩
    refine ⟨_,rfl,Br.ne (fun h3=>?_) (fun h3=>?_)⟩
    ·have ea:addW x st e.2=(rollW x st,x):=by unfold addW;rw [if_pos h3]
     refine hK _ _ ⟨R4,e14,by rw [ea],s,ds,sg5,hd2.ext (e3.trans e4),by rw [ea];exact he,?_⟩
     rw [ea]
     have es:rollS x (rollW x st).2=x.segs:=by unfold rollS;rw [if_neg (fun h=>h3 h.2)]
     rw [es] at hw
     exact hw
    ·refine ⟨h3,R4,sg5,e3.trans e4,?_⟩
     rw [h3] at hw
     rw [hx1]
     exact hw
  ·have hroll:¬ x.lim≤(tailS x.segs).size:=h
   have er:rollW x st=(st,0):=by unfold rollW;rw [if_neg hroll]
   have es:rollS x 0=x.segs:=by unfold rollS;rw [if_neg (fun h=>hroll h.1)]
   refine ⟨by rw [er],R3,sg,e3,?_⟩
   rw [er,hx1]
   show Sat R3 (WS p d x.lim x.g.base s sg x.brk ds (rollS x 0) st Hs) w
   rw [es]
   exact hw
 clear hw
 rintro _ w ⟨hr,R3,sg3,e3,hw⟩
 have b1:=b1.ext e3
 have bx3:=e3.m _ _ bx2
 have hp3:=hp2.ext e3
 have hd3:=hd2.ext e3
 have hes3:=e3.slR hes2
 have bb1:WB x1:=by rw [hx1];exact rollS_wb b hn (by omega) hsl
 have ir:Inv (rollW x st).1:=by
  unfold rollW
  split
  ·refine thenD_inv (sync_inv i _) fun st i=>?_
   exact thenD_inv (appendD_inv i _ _) fun st i=>sync_inv i _
  ·exact i
 have ea:addW x st e.2=putW x1 (rollW x st).1 (recB (entB e.2)) ⟨x.g.base,x.g.l++[e.2]⟩:=by rw [hx1];unfold addW;rw [if_neg (fun h=>h hr)]
 have hel:=entB_len hok
 have hd1:=hok.d1
 have hx1b:x1.g=x.g∧x1.brk=x.brk∧x1.lim=x.lim:=by rw [hx1];exact ⟨rfl,rfl,rfl⟩
 refine drw_rule' (Sat R3 [VC.tru]) hw (fun w hw=>Sat.toTru (As:=[]) hw) fun w hw=>?_
 refine ⟨_,b1.at selfS,e.1,At.ro selfS bx3 (by exact ⟨rfl,trivial⟩),e.2.ix,At.ro selfS bx3 (by exact ⟨rfl,trivial⟩),e.2.tm,At.ro selfS bx3 (by exact ⟨rfl,trivial⟩),e.2.kd,At.ro selfS bx3 (by exact ⟨rfl,trivial⟩),new_rule hw fun b3 w hw=>⟨Sat.toTru (As:=[]) hw,?_⟩⟩
 obtain ⟨hc3,hw⟩:=Sat.lend.1 hw
 have hroD:=hes3.ro (by rw [List.length_map];omega)
 refine (encoded_spec (t:=some e.2.dt) (sd:=e.1) (xs:=[1,e.2.ix,e.2.tm,e.2.kd]) (sl:=⟨some ⟨b3,0,none⟩,4,4⟩) (fun y hy=>by
  have:=hok.i0;have:=hok.t0;have:=hok.t1;have:=hok.k0;have:=hok.k1
  simp at hy;omega) (by simp) (fun d h=>by cases h;exact ⟨hroD.add,hd1,hby⟩) (ro_new (by simp) rfl hc3) hw).use ?_
 clear hw
 rintro _ w ⟨t,rfl,hw⟩
 rw [encB_ent] at hw
 have hw:Sat R3 (Own t 5 (b8 (recB (entB e.2)))::WX p d x1 s sg3 ds (rollW x st).1 Hs) w:=((Sat.lend.2 ⟨hc3,hw⟩:Sat R3 (pts b3 _::Own t 5 (b8 (recB (entB e.2)))::WX p d x1 s sg3 ds (rollW x st).1 Hs) w)).drop
 refine ⟨t,rfl,Sat.toTru (As:=[]) hw,?_⟩
 obtain ⟨R4,e4,ht,hw⟩:=Own.leak hw
 have b1:=b1.ext e4
 have bx4:=e4.m _ _ bx3
 have hp4:=hp3.ext e4
 have hd4:=hd3.ext e4
 have hes4:=e4.slR hes3
 have e14:=(e12.trans e3).trans e4
 have hrl:=recB_len (entB e.2)
 refine (write_spec bb1 ir hp4 (ht.ro (by rw [List.length_map];omega)) (by omega) hw).use ?_
 clear hw
 rintro _ w ⟨rfl,hw⟩
 obtain ⟨q,hq⟩:∃ q,q=appendD (rollW x st).1 (segName (tailS x1.segs).num) (recB (entB e.2)):=⟨_,rfl⟩
 rw [←hq] at hw
 refine ⟨_,rfl,e4.back (Sat.toTru (As:=[]) hw),?_⟩
 rw [←hq]
 refine Br.e (fun h=>?_) (fun h=>?_)
 ·rw [if_pos h] at hw
  have ea2:addW x st e.2=(q,{ x1 with segs:=growS x1.segs (recB (entB e.2)).length,g:=⟨x.g.base,x.g.l++[e.2]⟩ }):=by rw [ea];unfold putW;rw [←hq,if_pos h]
  have hw:Sat R4 (WS p d x.lim x.g.base s sg3 x.brk ds (growS x1.segs (recB (entB e.2)).length) q.1 Hs) w:=by
   rw [←hx1b.1,←hx1b.2.1,←hx1b.2.2];exact hw
  refine drw_rule' (Sat R4 [pts p (wCells d x.lim x.g.base s sg3 x.brk),VC.tru]) hw (fun w hw=>hw.k1) fun w hw=>?_
  refine ⟨_,b1.at selfS,_,b1.at selfS,NilP.mk rfl ⟨s,At.own selfS (by exact ⟨rfl,trivial⟩),e.2.ix,e.2.tm,e.2.kd,e.1,At.ro selfS bx4 (by exact ⟨rfl,rfl,rfl,rfl,trivial⟩),?_⟩⟩
  refine (copied_spec (e:=e) hes4 (by omega) hw).use ?_
  clear hw
  rintro _ w ⟨R5,t5,e5,rfl,ht5,hw⟩
  refine ⟨_,_,_,t5,rfl,e5.back hw.k1,new_rule hw fun b5 w hw=>⟨e5.back hw.k1,?_⟩⟩
  have hw:Sat R5 (EntO s ds::pts b5 (.cells (eRow (t5,e.2)).toArray 55 (0,0))::pts p (wCells d x.lim x.g.base s sg3 x.brk)::SegO sg3 (growS x1.segs (recB (entB e.2)).length)::DiskAt d q.1::Hs) w:=hw.arr
  have hdl2:ds.length=x.g.l.length:=by rw [←he];simp
  refine pushN_in elE (s:=s) (rows:=ds.map eRow) (x:=eRow (t5,e.2)) hw rfl rfl (by rw [List.length_map];omega) (by rw [List.length_map];omega) fun s2 w hw=>?_
  have hw:Sat R5 (pts p (wCells d x.lim x.g.base s sg3 x.brk)::EntO s2 (ds++[(t5,e.2)])::SegO sg3 (growS x1.segs (recB (entB e.2)).length)::DiskAt d q.1::Hs) w:=by
   unfold EntO;rw [List.map_append];simp only [List.map_cons,List.map_nil];exact hw.arr
  refine ⟨e5.back hw.k1,NilP.mk rfl ?_⟩
  refine store_rule hw (by kernel_rfl) rfl (by simp [Value.cells,putL_len]) fun w hw=>?_
  refine hK _ _ ⟨R5,e14.trans e5,by rw [ea2],s2,ds++[(t5,e.2)],sg3,(hd4.ext e5).app (.one ht5),?_,?_⟩
  ·rw [ea2];simp only [erE,List.map_append,List.map_cons,List.map_nil];rw [show ds.map (·.2)=x.g.l from he]
  ·rw [ea2]
   show Sat R5 (WS p d x1.lim x.g.base s2 sg3 x1.brk (ds++[(t5,e.2)]) (growS x1.segs (recB (entB e.2)).length) q.1 Hs) w
   rw [hx1b.2.1,hx1b.2.2]
   exact hw
 ·rw [if_neg h] at hw
  have ea2:addW x st e.2=(q,x1):=by rw [ea];unfold putW;rw [←hq,if_neg h]
  refine hK _ _ ⟨R4,e14,by rw [ea2],s,ds,sg3,hd4,by rw [ea2,hx1b.1];exact he,?_⟩
  rw [ea2]
  exact hw
end Go.Proofs.YtkfedbncmfnpnaaGreatDoor
/- A log on a disk: Append, Cut, Reset, Sync. Condition: bounds on lengths; the library's table of powers is laid. -/
namespace Go.Proofs.YtkfedbncmfnpnaaGreatDoor
set_option linter.unusedVariables false
set_option linter.unusedSimpArgs false
open Go Go.VC
variable {R R':Cx} {Hs Rest:List HP} {w:World} {p d:Nat} {x:WSt} {s sg:Sl} {ds:List DE4} {st:DS}
structure WBk (x:WSt) (k:Nat):Prop where
 b0:0≤x.g.base
 b1:x.g.base≤1099511627776
 l1:x.g.l.length≤100000000000 + k
 s0:0<x.segs.length
 s1:x.segs.length≤40001 + k
 n1:∀ g∈x.segs,g.num≤1 + k∧0≤g.size∧g.size≤1000000000 + 100000 * k
theorem WBk.wb {k:Nat} (b:WBk x k) (hk:k≤800000):WB x:=by
 refine ⟨b.b0,b.b1,by have:=b.l1;omega,b.s0,by have:=b.s1;omega,fun g hg=>?_⟩
 have:=b.n1 g hg
 omega
theorem WBk.mono {k j:Nat} (b:WBk x k) (h:k≤j):WBk x j:=by
 refine ⟨b.b0,b.b1,by have:=b.l1;omega,b.s0,by have:=b.s1;omega,fun g hg=>?_⟩
 have:=b.n1 g hg
 omega
theorem setSize_mem {segs:List Sg} {z:Int} {g:Sg} (h:g∈setSize segs z):g∈segs∨∃ g0∈segs,g=⟨g0.num,g0.next,z⟩:=by
 unfold setSize at h
 split at h
 ·rename_i s hs
  obtain ⟨hlt,rfl⟩:=List.getElem?_eq_some_iff.1 hs
  rcases List.mem_or_eq_of_mem_set h with h|h
  ·exact .inl h
  ·exact .inr ⟨_,List.getElem_mem hlt,h⟩
 ·exact .inl h
theorem setSize_len (segs:List Sg) (z:Int):(setSize segs z).length=segs.length:=by
 unfold setSize
 split
 ·simp
 ·rfl
theorem WBk.tail {k:Nat} (b:WBk x k):(tailS x.segs).num≤1 + k∧0≤(tailS x.segs).size∧(tailS x.segs).size≤1000000000 + 100000 * k:=by
 have h0:=b.s0
 have:tailS x.segs=x.segs[x.segs.length - 1]'(by omega):=by
  unfold tailS
  rw [List.getD_eq_getElem?_getD,List.getElem?_eq_getElem (by omega)]
  rfl
 rw [this]
 exact b.n1 _ (List.getElem_mem _)
theorem WBk.put {k n:Nat} (b:WBk x k) {st:DS} {bs:List Int} {g:Lg} (hb:bs.length≤90000) (hg:0≤g.base∧g.base≤1099511627776∧g.l.length≤100000000000 + n) (hn:k + 1≤n):WBk (putW x st bs g).2 n:=by
 have bn:=b.mono (show k≤n by omega)
 unfold putW
 split
 ·refine ⟨hg.1,hg.2.1,hg.2.2,by simp only [growS,setSize_len];exact b.s0,by simp only [growS,setSize_len];exact bn.s1,fun y hy=>?_⟩
  have ht:=b.tail
  rcases setSize_mem hy with hy|⟨g0,hg0,rfl⟩
  ·exact bn.n1 y hy
  ·have:=bn.n1 g0 hg0
   simp only
   omega
 ·exact bn
theorem WBk.roll {k:Nat} (b:WBk x k) (hl:x.g.last≤1099511627776) (hk:k≤90000000):WBk { x with segs:=rollS x 0 } (k + 1):=by
 have bn:=b.mono (show k≤k + 1 by omega)
 have ht:=b.tail
 refine ⟨b.b0,b.b1,bn.l1,?_,?_,?_⟩
 ·unfold rollS;split
  ·simp
  ·exact b.s0
 ·have:=b.s1
  unfold rollS;split
  ·simp;omega
  ·simp only;omega
 ·unfold rollS;split
  ·intro g hg
   rcases List.mem_append.1 hg with hg|hg
   ·exact bn.n1 g hg
   ·simp at hg;subst hg
    have:=hdB_len (n:=(tailS x.segs).num + 1) (next:=x.g.last + 1) (by omega) (by omega)
    simp only
    unfold headB
    rw [recB_len]
    omega
  ·exact bn.n1
theorem WBk.add {k:Nat} (b:WBk x k) {st:DS} {e:Ey} (hok:e.Ok) (hix:e.ix=x.g.last + 1) (hk:k≤90000000):WBk (addW x st e).2 (k + 2):=by
 have hi:=hok.i1
 have hel:=entB_len hok
 have hd:=hok.d1
 unfold addW
 split
 ·exact b.mono (by omega)
 ·have br:=b.roll (by omega) hk
  refine br.put (by rw [recB_len];omega) ⟨b.b0,b.b1,?_⟩ (by omega)
  have:=b.l1
  simp;omega
theorem addW_inv {e:Ey} (i:Inv st):Inv (addW x st e).1.1:=by
 have ir:Inv (rollW x st).1:=by
  unfold rollW
  split
  ·refine thenD_inv (sync_inv i _) fun st i=>?_
   exact thenD_inv (appendD_inv i _ _) fun st i=>sync_inv i _
  ·exact i
 unfold addW
 split
 ·exact ir
 ·unfold putW
  split<;>exact appendD_inv ir _ _
theorem addW_ok {e:Ey} (h:(addW x st e).1.2=0):(addW x st e).2.g=⟨x.g.base,x.g.l++[e]⟩:=by
 unfold addW at h ⊢
 split
 ·rename_i h2;rw [if_pos h2] at h;exact absurd h h2
 ·rename_i h2
  rw [if_neg h2] at h
  unfold putW at h ⊢
  split
  ·rfl
  ·rename_i h3;rw [if_neg h3] at h;exact absurd h h3
theorem addW_brk {e:Ey}:(addW x st e).2.brk=x.brk∧(addW x st e).2.lim=x.lim:=by
 unfold addW
 split
 ·exact ⟨rfl,rfl⟩
 ·unfold putW;split<;>exact ⟨rfl,rfl⟩
theorem addsW_brk:∀ (x:WSt) (st:DS) (l:List Ey),(addsW x st l).2.brk=x.brk
 |_,_,[]=>rfl
 |x,st,e::l=>by
  unfold addsW
  split
  ·exact addW_brk.1
  ·rw [addsW_brk];exact addW_brk.1
theorem does_spec {f:Value} {r:(DS × Int) × WSt} (hr:r.2.brk=x.brk) (hw:Sat R (WX p d x s sg ds st Hs) w) (hd:DsR R ds) (he:erE ds=x.g.l) (hf:x.brk=false→CalW Tryz.prog cl f [] w (fun e w'=>∃ v,e=.returned v∧OpQ R Hs p d r v w')):
  Gets Tryz.prog 53 #[.pointer (some ⟨p,0,none⟩),f] w (OpQ R Hs p d (if x.brk then ((st,8),x) else doesW r)):=by
 apply call53
 refine NilP.mk rfl ⟨x.brk,At.own (eqS hw) (by exact ⟨rfl,trivial⟩),Br.mk (fun h=>?_) (fun h=>?_)⟩
 ·rw [if_pos h]
  exact ⟨R,.refl,rfl,s,ds,sg,hd,he,hw⟩
 ·rw [if_neg (by simp [h])]
  refine CalW.mono (hf h) ?_
  rintro _ w' ⟨v,rfl,R1,e1,rfl,s1,ds1,sg1,hd1,he1,hw1⟩
  refine ⟨_,rfl,NilP.mk rfl ?_⟩
  clear hw
  have hw:=hw1
  refine store_rule hw (by kernel_rfl) rfl (by simp [Value.cells,putL_len]) fun w hw=>?_
  refine ⟨R1,e1,rfl,s1,ds1,sg1,hd1,he1,?_⟩
  have hw:Sat R1 (WS p d r.2.lim r.2.g.base s1 sg1 (r.1.2 !=0) ds1 r.2.segs r.1.1 Hs) w:=hw
  exact hw
theorem sync1W_spec {bw:Nat} (b:WB x) (i:Inv st) (hp:PowR R) (hd:DsR R ds) (he:erE ds=x.g.l) (h1:BoxP R bw p) (hw:Sat R (WX p d x s sg ds st Hs) w):
  Gets Tryz.prog 60 #[.pointer (some ⟨bw,0,none⟩)] w (OpQ R Hs p d (syncD st (segName (tailS x.segs).num),x)):=by
 obtain ⟨t1,t2,t3⟩:=tail_bd b
 apply call60
 refine drw_rule' (Sat R [pts p (wCells d x.lim x.g.base s sg x.brk),SegO sg x.segs,VC.tru]) hw (fun w hw=>hw.k2) fun w hw=>?_
 refine NilP.mk rfl ⟨_,h1.at selfS,NilP.mk rfl ⟨_,(by rw [add_off];exact At.own selfS (by exact ⟨rfl,trivial⟩)),NilP.mk rfl ⟨_,h1.at selfS,?_⟩⟩⟩
 refine (tail_spec b hw).use ?_
 clear hw
 rintro _ w ⟨a,ha,rfl,hw⟩
 refine ⟨_,rfl,hw.k2,NilP.mk rfl ?_⟩
 have el:=tail_read b ha (S:=Sat R [pts p (wCells d x.lim x.g.base s sg x.brk),SegO sg x.segs,VC.tru]) (hw.k2:Sat R [pts p (wCells d x.lim x.g.base s sg x.brk),SegO sg x.segs,VC.tru] w) selfS
 refine ⟨_,_,_,el.z (by exact ⟨rfl,rfl,rfl,trivial⟩),?_⟩
 refine (name_spec hp (by omega) hw).use ?_
 clear hw
 rintro _ w ⟨rfl,hw⟩
 refine ⟨_,rfl,hw.k2,?_⟩
 have hw:Sat R (DiskAt d st::pts p (wCells d x.lim x.g.base s sg x.brk)::EntO s ds::SegO sg x.segs::Hs) w:=hw.arr
 refine (sync_spec (k:=segName (tailS x.segs).num) i hw).use ?_
 clear hw
 rintro _ w ⟨rfl,hw⟩
 have hw:Sat R (WX p d x s sg ds (syncD st (segName (tailS x.segs).num)).1 Hs) w:=hw.arr
 exact ⟨_,rfl,hw.k2,R,.refl,rfl,s,ds,sg,hd,he,hw⟩
theorem syncW_spec (b:WB x) (i:Inv st) (hp:PowR R) (hd:DsR R ds) (he:erE ds=x.g.l) (hw:Sat R (WX p d x s sg ds st Hs) w):
  Gets Tryz.prog 23 #[.pointer (some ⟨p,0,none⟩)] w (OpQ R Hs p d (syncW x st)):=by
 apply call23
 refine new_rule hw fun bw w hw=>?_
 obtain ⟨R1,e1,b1,hw⟩:=box_leak hw
 refine ⟨_,b1.at (eqS hw),?_⟩
 refine (does_spec (r:=(syncD st (segName (tailS x.segs).num),x)) rfl hw (hd.ext e1) he fun _=>CalW.mk (by kernel_rfl) (sync1W_spec b i (hp.ext e1) (hd.ext e1) he b1 hw)).use ?_
 rintro _ w ⟨R2,e2,rfl,h⟩
 exact ⟨_,rfl,R2,e1.trans e2,rfl,h⟩
theorem cut1W_spec {bw bf:Nat} {from':Int} (b:WB x) (i:Inv st) (hp:PowR R) (hd:DsR R ds) (he:erE ds=x.g.l) (h1:BoxP R bw p) (h2:BoxV R bf (.int .i64 from')) (hf1:x.g.base<from') (hf2:from'≤x.g.last) (hf3:from'≤1099511627777) (hw:Sat R (WX p d x s sg ds st Hs) w):
  Gets Tryz.prog 62 #[.pointer (some ⟨bw,0,none⟩),.pointer (some ⟨bf,0,none⟩)] w (OpQ R Hs p d (putW x st (recB (cutB from')) ⟨x.g.base,x.g.l.take (from' - 1 - x.g.base).toNat⟩)):=by
 have hb0:=b.b0;have hb1:=b.b1;have hl1:=b.l1
 have hlast:=lastG he
 have hdl2:ds.length=x.g.l.length:=by rw [←he];simp
 apply call62
 refine drw_rule' (Sat R [VC.tru]) hw (fun w hw=>Sat.toTru (As:=[]) hw) fun w hw=>?_
 refine NilP.mk rfl ⟨_,h1.at selfS,NilP.mk rfl ⟨from',h2.at selfS,new_rule hw fun b3 w hw=>⟨Sat.toTru (As:=[]) hw,?_⟩⟩⟩
 obtain ⟨hc3,hw⟩:=Sat.lend.1 hw
 refine (encoded_spec (t:=none) (sd:=⟨none,0,0⟩) (xs:=[2,from']) (sl:=⟨some ⟨b3,0,none⟩,2,2⟩) (fun y hy=>by simp at hy;omega) (by simp) (fun d h=>by cases h) (ro_new (by simp) rfl hc3) hw).use ?_
 clear hw
 rintro _ w ⟨t,rfl,hw⟩
 rw [encB_cut] at hw
 have hw:Sat R (Own t 5 (b8 (recB (cutB from')))::WX p d x s sg ds st Hs) w:=((Sat.lend.2 ⟨hc3,hw⟩:Sat R (pts b3 _::Own t 5 (b8 (recB (cutB from')))::WX p d x s sg ds st Hs) w)).drop
 refine ⟨t,rfl,Sat.toTru (As:=[]) hw,?_⟩
 obtain ⟨R4,e4,ht,hw⟩:=Own.leak hw
 have b1:=h1.ext e4
 have b2:=h2.ext e4
 have hp4:=hp.ext e4
 have hd4:=hd.ext e4
 have hcl:=cutB_len (i:=from') hf3
 have hrl:=recB_len (cutB from')
 refine (write_spec b i hp4 (ht.ro (by rw [List.length_map];omega)) (by omega) hw).use ?_
 clear hw
 rintro _ w ⟨rfl,hw⟩
 obtain ⟨q,hq⟩:∃ q,q=appendD st (segName (tailS x.segs).num) (recB (cutB from')):=⟨_,rfl⟩
 rw [←hq] at hw
 refine ⟨_,rfl,e4.back (Sat.toTru (As:=[]) hw),?_⟩
 rw [←hq]
 have ep:∀ g,putW x st (recB (cutB from')) g=if q.2=0 then (q,{ x with segs:=growS x.segs (recB (cutB from')).length,g:=g }) else (q,x):=fun g=>by unfold putW;rw [←hq]
 rw [ep]
 refine Br.e (fun h=>?_) (fun h=>?_)
 ·rw [if_pos h] at hw ⊢
  have hw:Sat R4 (WS p d x.lim x.g.base s sg x.brk ds (growS x.segs (recB (cutB from')).length) q.1 Hs) w:=hw
  have hsl:s.len=ds.length:=by
   have h2:Sat R4 (EntO s ds::pts p (wCells d x.lim x.g.base s sg x.brk)::SegO sg (growS x.segs (recB (cutB from')).length)::DiskAt d q.1::Hs) w:=hw.arr
   have:=OwnN.len h2;simpa using this
  have hcap:s.len≤s.cap:=by
   have h2:Sat R4 (EntO s ds::pts p (wCells d x.lim x.g.base s sg x.brk)::SegO sg (growS x.segs (recB (cutB from')).length)::DiskAt d q.1::Hs) w:=hw.arr
   exact OwnN.cap (by omega) h2
  have w1:IntKind.i64.wrap (IntKind.i64.wrap (from' - 1) - x.g.base)=from' - 1 - x.g.base:=by rw [wrap64 (x:=from' - 1) (by omega) (by omega),wrap64 (by omega) (by omega)]
  refine drw_rule' (Sat R4 [pts p (wCells d x.lim x.g.base s sg x.brk),VC.tru]) hw (fun w hw=>hw.k1) fun w hw=>?_
  refine NilP.mk rfl ⟨_,b1.at selfS,NilP.mk rfl ⟨_,b1.at selfS,NilP.mk rfl ⟨s,At.own selfS (by exact ⟨rfl,trivial⟩),NilP.mk rfl ⟨from',b2.at selfS,NilP.mk rfl ⟨_,b1.at selfS,NilP.mk rfl ⟨x.g.base,At.own selfS (by exact ⟨rfl,trivial⟩),?_⟩⟩⟩⟩⟩⟩
  rw [w1]
  refine ⟨by omega,by omega,?_⟩
  have hwE:Sat R4 (EntO s ds::pts p (wCells d x.lim x.g.base s sg x.brk)::SegO sg (growS x.segs (recB (cutB from')).length)::DiskAt d q.1::Hs) w:=hw.arr
  obtain ⟨R5,hr,_,hw5,back⟩:=OwnN.lend hwE
  have hr2:=hr.take (h:=(from' - 1 - x.g.base).toNat) (by rw [List.length_map];omega) s.cap
  rw [←List.map_take] at hr2
  refine (clonE_spec hr2 (by rw [List.length_take];omega) hw5).use ?_
  rintro _ w ⟨t2,rfl,hw5⟩
  have hw:=back hw5
  have hw:Sat R4 (pts p (wCells d x.lim x.g.base s sg x.brk)::EntO t2 (ds.take (from' - 1 - x.g.base).toNat)::EntO s ds::SegO sg (growS x.segs (recB (cutB from')).length)::DiskAt d q.1::Hs) w:=hw.arr
  refine ⟨t2,rfl,hw.k1,NilP.mk rfl ?_⟩
  refine store_rule hw (by kernel_rfl) rfl (by simp [Value.cells,putL_len]) fun w hw=>?_
  have hw:Sat R4 (pts p (wCells d x.lim x.g.base t2 sg x.brk)::EntO t2 (ds.take (from' - 1 - x.g.base).toNat)::EntO s ds::SegO sg (growS x.segs (recB (cutB from')).length)::DiskAt d q.1::Hs) w:=hw
  exact ⟨R4,e4,rfl,t2,_,sg,hd4.take _,by rw [←he];simp [erE],hw.cons fun _ h=>h.cons fun _ h=>h.drop⟩
 ·rw [if_neg h] at hw ⊢
  exact ⟨R4,e4,rfl,s,ds,sg,hd4,he,hw⟩
theorem cutW_spec (b:WB x) (from':Int) (hlx:x.g.last≤1099511627776) (i:Inv st) (hp:PowR R) (hd:DsR R ds) (he:erE ds=x.g.l) (hw:Sat R (WX p d x s sg ds st Hs) w):
  Gets Tryz.prog 26 #[.pointer (some ⟨p,0,none⟩),.int .i64 from'] w (OpQ R Hs p d (cutW x st from')):=by
 have hb0:=b.b0
 have hlb:=x.g.base_le
 apply call26
 refine new_rule hw fun bw w hw=>?_
 obtain ⟨R1,e1,b1,hw⟩:=box_leak hw
 refine new_rule hw fun bf w hw=>?_
 obtain ⟨R2,e2,b2,hw⟩:=box_leak hw
 have b1:=b1.ext e2
 have e12:=e1.trans e2
 have hp2:=hp.ext e12
 have hd2:=hd.ext e12
 have out:∀ {n:Int} {w:World},cutW x st from'=((st,n),x)→Sat R2 (WX p d x s sg ds st Hs) w→OpQ R Hs p d (cutW x st from') (.int .i64 n) w:=fun {n w} h hw=>by
  rw [h];exact ⟨R2,e12,rfl,s,ds,sg,hd2,he,hw⟩
 refine ⟨_,b1.at (eqS hw),NilP.mk rfl ⟨x.brk,At.own (eqS hw) (by exact ⟨rfl,trivial⟩),Br.mk (fun h=>out (by unfold cutW;rw [if_pos h]) hw) (fun h=>?_)⟩⟩
 have hnb:¬ x.brk=true:=by simp [h]
 refine drw_rule hw fun w hw=>?_
 refine ⟨from',b2.at selfS,_,b1.at selfS,NilP.mk rfl ⟨_,At.own selfS (by exact ⟨rfl,trivial⟩),Br.d (fun h2=>out (by unfold cutW;rw [if_neg hnb,if_pos (.inl h2)]) hw) (fun h2=>?_)⟩⟩
 refine ⟨from',b2.at selfS,_,b1.at selfS,NilP.mk rfl ((lastX_spec b he hw).use ?_)⟩
 clear hw
 rintro _ w ⟨rfl,hw⟩
 refine ⟨_,rfl,hw,?_⟩
 rw [wrap64 (by omega) (by omega)]
 refine Br.d (fun h3=>out (by unfold cutW;rw [if_neg hnb,if_pos (.inr h3)]) hw) (fun h3=>?_)
 refine drw_rule hw fun w hw=>?_
 refine ⟨from',b2.at selfS,_,b1.at selfS,NilP.mk rfl ((lastX_spec b he hw).use ?_)⟩
 clear hw
 rintro _ w ⟨rfl,hw⟩
 refine ⟨_,rfl,hw,?_⟩
 rw [wrap64 (by omega) (by omega)]
 refine Br.e (fun h4=>out (by unfold cutW;rw [if_neg hnb,if_neg (fun h=>h.elim h2 h3),if_pos h4]) hw) (fun h4=>?_)
 refine ⟨_,b1.at (eqS hw),?_⟩
 obtain ⟨r,hr⟩:∃ r,r=putW x st (recB (cutB from')) ⟨x.g.base,x.g.l.take (from' - 1 - x.g.base).toNat⟩:=⟨_,rfl⟩
 have ec:cutW x st from'=if x.brk then ((st,8),x) else doesW r:=by rw [hr];unfold cutW;rw [if_neg hnb,if_neg (fun h=>h.elim h2 h3),if_neg h4,if_neg hnb]
 rw [ec]
 refine (does_spec (r:=r) (by rw [hr];unfold putW;split<;>rfl) hw hd2 he fun _=>CalW.mk (by kernel_rfl) (by rw [hr];exact cut1W_spec b i hp2 hd2 he b1 b2 (by omega) (by omega) (by omega) hw)).use ?_
 rintro _ w ⟨R3,e3,rfl,h⟩
 exact ⟨_,rfl,R3,e12.trans e3,rfl,h⟩
theorem reset1W_spec {bw bf:Nat} {next:Int} (b:WB x) (i:Inv st) (hp:PowR R) (hd:DsR R ds) (he:erE ds=x.g.l) (h1:BoxP R bw p) (h2:BoxV R bf (.int .i64 next)) (hf1:1≤next) (hf2:next≤1099511627776) (hw:Sat R (WX p d x s sg ds st Hs) w):
  Gets Tryz.prog 66 #[.pointer (some ⟨bw,0,none⟩),.pointer (some ⟨bf,0,none⟩)] w (OpQ R Hs p d (putW x st (recB (resB next)) ⟨next - 1,[]⟩)):=by
 apply call66
 refine drw_rule' (Sat R [VC.tru]) hw (fun w hw=>Sat.toTru (As:=[]) hw) fun w hw=>?_
 refine NilP.mk rfl ⟨_,h1.at selfS,NilP.mk rfl ⟨next,h2.at selfS,new_rule hw fun b3 w hw=>⟨Sat.toTru (As:=[]) hw,?_⟩⟩⟩
 obtain ⟨hc3,hw⟩:=Sat.lend.1 hw
 refine (encoded_spec (t:=none) (sd:=⟨none,0,0⟩) (xs:=[3,next]) (sl:=⟨some ⟨b3,0,none⟩,2,2⟩) (fun y hy=>by simp at hy;omega) (by simp) (fun d h=>by cases h) (ro_new (by simp) rfl hc3) hw).use ?_
 clear hw
 rintro _ w ⟨t,rfl,hw⟩
 rw [encB_res] at hw
 have hw:Sat R (Own t 5 (b8 (recB (resB next)))::WX p d x s sg ds st Hs) w:=((Sat.lend.2 ⟨hc3,hw⟩:Sat R (pts b3 _::Own t 5 (b8 (recB (resB next)))::WX p d x s sg ds st Hs) w)).drop
 refine ⟨t,rfl,Sat.toTru (As:=[]) hw,?_⟩
 obtain ⟨R4,e4,ht,hw⟩:=Own.leak hw
 have b1:=h1.ext e4
 have b2:=h2.ext e4
 have hcl:=resB_len (i:=next) (by omega)
 have hrl:=recB_len (resB next)
 refine (write_spec b i (hp.ext e4) (ht.ro (by rw [List.length_map];omega)) (by omega) hw).use ?_
 clear hw
 rintro _ w ⟨rfl,hw⟩
 obtain ⟨q,hq⟩:∃ q,q=appendD st (segName (tailS x.segs).num) (recB (resB next)):=⟨_,rfl⟩
 rw [←hq] at hw
 refine ⟨_,rfl,e4.back (Sat.toTru (As:=[]) hw),?_⟩
 rw [←hq]
 have ep:∀ g,putW x st (recB (resB next)) g=if q.2=0 then (q,{ x with segs:=growS x.segs (recB (resB next)).length,g:=g }) else (q,x):=fun g=>by unfold putW;rw [←hq]
 rw [ep]
 refine Br.e (fun h=>?_) (fun h=>?_)
 ·rw [if_pos h] at hw ⊢
  have hw:Sat R4 (WS p d x.lim x.g.base s sg x.brk ds (growS x.segs (recB (resB next)).length) q.1 Hs) w:=hw
  refine NilP.mk rfl ⟨_,b1.at (eqS hw),NilP.mk rfl ⟨next,b2.at (eqS hw),NilP.mk rfl ?_⟩⟩
  rw [wrap64 (by omega) (by omega)]
  refine store_rule hw (by kernel_rfl) rfl (by simp [Value.cells,putL_len]) fun w hw=>?_
  have hw:Sat R4 (pts p (wCells d x.lim (next - 1) ⟨none,0,0⟩ sg x.brk)::EntO s ds::SegO sg (growS x.segs (recB (resB next)).length)::DiskAt d q.1::Hs) w:=hw
  exact ⟨R4,e4,rfl,⟨none,0,0⟩,[],sg,.nil,rfl,hw.cons fun _ h=>OwnN.nil h.drop⟩
 ·rw [if_neg h] at hw ⊢
  exact ⟨R4,e4,rfl,s,ds,sg,hd.ext e4,he,hw⟩
theorem resetW_spec (b:WB x) (next:Int) (i:Inv st) (hp:PowR R) (hd:DsR R ds) (he:erE ds=x.g.l) (hw:Sat R (WX p d x s sg ds st Hs) w):
  Gets Tryz.prog 27 #[.pointer (some ⟨p,0,none⟩),.int .i64 next] w (OpQ R Hs p d (resetW x st next)):=by
 apply call27
 refine new_rule hw fun bw w hw=>?_
 obtain ⟨R1,e1,b1,hw⟩:=box_leak hw
 refine new_rule hw fun bf w hw=>?_
 obtain ⟨R2,e2,b2,hw⟩:=box_leak hw
 have b1:=b1.ext e2
 have e12:=e1.trans e2
 have hp2:=hp.ext e12
 have hd2:=hd.ext e12
 have out:∀ {n:Int} {w:World},resetW x st next=((st,n),x)→Sat R2 (WX p d x s sg ds st Hs) w→OpQ R Hs p d (resetW x st next) (.int .i64 n) w:=fun {n w} h hw=>by
  rw [h];exact ⟨R2,e12,rfl,s,ds,sg,hd2,he,hw⟩
 refine ⟨_,b1.at (eqS hw),NilP.mk rfl ⟨x.brk,At.own (eqS hw) (by exact ⟨rfl,trivial⟩),Br.mk (fun h=>out (by unfold resetW;rw [if_pos h]) hw) (fun h=>?_)⟩⟩
 have hnb:¬ x.brk=true:=by simp [h]
 refine ⟨next,b2.at (eqS hw),Br.d (fun h2=>out (by unfold resetW;rw [if_neg hnb,if_pos (.inl h2)]) hw) (fun h2=>?_)⟩
 refine ⟨next,b2.at (eqS hw),Br.d (fun h3=>out (by unfold resetW;rw [if_neg hnb,if_pos (.inr h3)]) hw) (fun h3=>?_)⟩
 refine ⟨_,b1.at (eqS hw),?_⟩
 obtain ⟨r,hr⟩:∃ r,r=putW x st (recB (resB next)) ⟨next - 1,[]⟩:=⟨_,rfl⟩
 have ec:resetW x st next=if x.brk then ((st,8),x) else doesW r:=by rw [hr];unfold resetW;rw [if_neg hnb,if_neg (fun h=>h.elim h2 h3),if_neg hnb]
 rw [ec]
 refine (does_spec (r:=r) (by rw [hr];unfold putW;split<;>rfl) hw hd2 he fun _=>CalW.mk (by kernel_rfl) (by rw [hr];exact reset1W_spec b i hp2 hd2 he b1 b2 (by omega) (by omega) hw)).use ?_
 rintro _ w ⟨R3,e3,rfl,h⟩
 exact ⟨_,rfl,R3,e12.trans e3,rfl,h⟩
end Go.Proofs.YtkfedbncmfnpnaaGreatDoor
/- A log on a disk: Append, Drop. Condition: bounds on lengths; the library's table of powers is laid. -/
namespace Go.Proofs.YtkfedbncmfnpnaaGreatDoor
set_option linter.unusedVariables false
set_option linter.unusedSimpArgs false
open Go Go.VC
variable {R R':Cx} {Hs Rest:List HP} {w:World} {p d:Nat} {x:WSt} {s sg:Sl} {ds:List DE4} {st:DS}
theorem DsR.len {dl:List DE4} (h:DsR R dl) {e:DE4} (he:e∈dl):e.1.len=e.2.dt.length:=by have:=(h e he).len;simpa using this
theorem oddE_spec {e:DE4} (hs:e.1.len=e.2.dt.length) (hw:Sat R Hs w):Gets Tryz.prog 49 #[eVal e] w fun v w'=>v=.bool (!decide e.2.Ok)∧Sat R Hs w':=by
 apply call49
 refine new_rule hw fun b w hw=>?_
 have hw:Sat R (pts b (.cells (eRow e).toArray 55 (0,0))::Hs) w:=hw
 refine ⟨_,_,_,e.1,At.own (eqS hw) (by exact ⟨rfl,rfl,rfl,rfl,trivial⟩),?_⟩
 refine (right_specW hs hw).use ?_
 clear hw
 rintro _ w ⟨rfl,hw⟩
 exact ⟨_,rfl,rfl,hw.drop⟩
open Classical in
theorem contE_spec {sl:Sl} {dl:List DE4} (hr:RoN 4 R sl (dl.map eRow)) (hd:DsR R dl) (hl:dl.length≤1000000) (hw:Sat R Hs w):
  Gets Tryz.prog 51 #[.slice sl.a sl.len sl.cap,.func (.func 49) #[] #[]] w fun v w'=>v=.bool (decide (¬ ∀ e∈erE dl,e.Ok))∧Sat R Hs w':=by
 have hsl:sl.len=dl.length:=by have:=hr.len;simpa using this
 apply call51
 have h1:Gets Tryz.prog 100 #[.slice sl.a sl.len sl.cap,.func (.func 49) #[] #[]] w fun v w'=>(∃ n:Int,v=.int .i64 n∧(0≤n↔¬ ∀ e∈erE dl,e.Ok))∧Sat R Hs w':=by
  apply call100
  refine ⟨fun i w=>∃ k:Nat,i=k∧k≤dl.length∧(∀ e∈dl.take k,e.2.Ok)∧Sat R Hs w,fun i _=>dl.length - i.toNat,⟨0,rfl,by omega,by simp,hw⟩,?_⟩
  clear hw
  rintro _ _ w ⟨k,rfl,hk,hok,hw⟩
  refine Br.d (fun h2=>?_) (fun h2=>?_)
  ·have hk':k<dl.length:=by omega
   refine (hr.reads (S:=fun w'=>w'=w) (eqS hw)).rngM hk' fun a _ el=>⟨_,_,_,dl[k].1,el.z (by exact ⟨rfl,rfl,rfl,rfl,trivial⟩),?_⟩
   refine CalW.mk (by kernel_rfl) ((oddE_spec (e:=dl[k]) (hd.len (List.getElem_mem _)) hw).use ?_)
   clear hw
   rintro _ w ⟨rfl,hw⟩
   refine ⟨_,rfl,Br.nd (fun h3=>?_) (fun h3=>?_)⟩
   ·refine ⟨⟨_,rfl,fun _=>fun hall=>h3 (hall dl[k].2 (List.mem_map_of_mem (f:=fun e:DE4=>e.2) (List.getElem_mem (h:=hk')))),fun _=>by omega⟩,hw⟩
   ·refine ⟨⟨k + 1,by rw [wrap64 (by omega) (by omega)];omega,by omega,fun e he=>?_,hw⟩,by dsimp only;rw [wrap64 (by omega) (by omega)];omega⟩
    rw [List.take_add_one,List.getElem?_eq_getElem hk'] at he
    rcases List.mem_append.1 he with he|he
    ·exact hok e he
    ·simp at he;rw [he];exact h3
  ·have:k=dl.length:=by omega
   rw [this,List.take_length] at hok
   refine ⟨⟨_,rfl,fun h=>by omega,fun h=>?_⟩,hw⟩
   exact absurd (fun e he=>by obtain ⟨y,hy,rfl⟩:=List.mem_map.1 he;exact hok y hy) h
 refine h1.use ?_
 rintro _ w ⟨⟨n,rfl,hn⟩,hw⟩
 refine ⟨n,rfl,?_,hw⟩
 congr 1
 rw [Bool.eq_iff_iff,decide_eq_true_eq,decide_eq_true_eq,←hn]
theorem addsW_drop {l:List Ey} {j:Nat} (hj:j<l.length):addsW x st (l.drop j)=if (addW x st l[j]).1.2≠0 then addW x st l[j] else addsW (addW x st l[j]).2 (addW x st l[j]).1.1 (l.drop (j + 1)):=by
 rw [drop_get hj];rfl
theorem app2_spec {bl bw k:Nat} {sl:Sl} {dl:List DE4} (b:WBk x k) (hk:k + 2 * dl.length≤700000) (i:Inv st) (hp:PowR R) (hd:DsR R ds) (he:erE ds=x.g.l) (h1:BoxV R bl (.slice sl.a sl.len sl.cap)) (h2:BoxP R bw p)
  (hr:RoN 4 R sl (dl.map eRow)) (hdl:DsR R dl) (hby:∀ e∈erE dl,∀ y∈e.dt,0≤y∧y<256) (hok:∀ e∈erE dl,e.Ok) (hfo:Follows (x.g.last + 1) (erE dl)) (hw:Sat R (WX p d x s sg ds st Hs) w):
  Gets Tryz.prog 54 #[.pointer (some ⟨bl,0,none⟩),.pointer (some ⟨bw,0,none⟩)] w (OpQ R Hs p d (addsW x st (erE dl))):=by
 have hsl:sl.len=dl.length:=by have:=hr.len;simpa using this
 apply call54
 refine NilP.mk rfl ⟨sl,h1.at (eqS hw),?_⟩
 refine ⟨fun i w=>∃ (j:Nat) (R2:Cx) (x':WSt) (st':DS) (s:Sl) (ds:List DE4) (sg:Sl),i=j∧j≤dl.length∧R.Ext R2∧addsW x st (erE dl)=addsW x' st' ((erE dl).drop j)∧WBk x' (k + 2 * j)∧x'.g.last=x.g.last + j∧x'.g.l.length=x.g.l.length + j∧Inv st'∧DsR R2 ds∧erE ds=x'.g.l∧Sat R2 (WX p d x' s sg ds st' Hs) w,fun i _=>dl.length - i.toNat,⟨0,R,x,st,s,ds,sg,rfl,by omega,.refl,rfl,b,by omega,by omega,i,hd,he,hw⟩,?_⟩
 clear hw
 rintro _ _ w ⟨j,R2,x',st',s,ds,sg,rfl,hj,e2,hadd,b',hlast,hlen,i',hd',he',hw⟩
 have hel:(erE dl).length=dl.length:=by simp
 refine Br.d (fun h=>?_) (fun h=>?_)
 ·have hj':j<dl.length:=by omega
  have hj2:j<(erE dl).length:=by omega
  have hx:(erE dl)[j]=dl[j].2:=by simp
  rw [addsW_drop hj2] at hadd
  have hmem:(erE dl)[j]∈erE dl:=List.getElem_mem _
  have hokj:=hok _ hmem
  have hixj:=hfo j hj2
  have hbyj:=hby _ hmem
  rw [hx] at hadd hokj hixj hbyj
  obtain ⟨e,hee⟩:∃ e,e=dl[j]:=⟨_,rfl⟩
  rw [←hee] at hadd hokj hixj hbyj
  have hes:SlR R.m e.1 (b8 e.2.dt):=by rw [hee];exact hdl _ (List.getElem_mem _)
  refine (e2.roN hr|>.reads (S:=fun w'=>w'=w) (eqS hw)).rngM hj' fun a _ el=>?_
  rw [←hee] at el
  refine ⟨_,_,_,e.1,el.z (by exact ⟨rfl,rfl,rfl,rfl,trivial⟩),new_rule hw fun b4 w hw=>?_⟩
  refine store_rule hw (by kernel_rfl) rfl (by simp [Value.cells,putL_len]) fun w hw=>?_
  have hw:Sat R2 (pts b4 (.cells (eRow e).toArray 55 (0,0))::WX p d x' s sg ds st' Hs) w:=hw
  refine NilP.mk rfl ⟨_,(h2.ext e2).at (eqS hw),e.2.ix,e.2.tm,e.2.kd,e.1,At.own (eqS hw) (by exact ⟨rfl,rfl,rfl,rfl,trivial⟩),?_⟩
  have ht:=b'.tail
  have hs1:=b'.s1
  have hl1:=b'.l1
  refine (add_specW (b'.wb (by omega)) i' (hp.ext e2) hd' he' hokj (e2.slR hes) hbyj (by omega) (by omega) (by omega) (by omega) hw.drop).use ?_
  clear hw
  rintro _ w ⟨R3,e3,rfl,s3,ds3,sg3,hd3,he3,hw⟩
  obtain ⟨r,hrr⟩:∃ r,r=addW x' st' e.2:=⟨_,rfl⟩
  rw [←hrr] at hadd he3 hw ⊢
  refine ⟨_,rfl,Br.ne (fun h3=>?_) (fun h3=>?_)⟩
  ·rw [if_pos h3] at hadd
   exact ⟨R3,e2.trans e3,by rw [hadd],s3,ds3,sg3,hd3,by rw [hadd];exact he3,by rw [hadd];exact hw⟩
  ·rw [if_neg (fun h=>h h3)] at hadd
   have hg:r.2.g=⟨x'.g.base,x'.g.l++[e.2]⟩:=by rw [hrr];exact addW_ok (by rw [←hrr];exact h3)
   refine ⟨⟨j + 1,R3,r.2,r.1.1,s3,ds3,sg3,by rw [wrap64 (by omega) (by omega)];omega,by omega,e2.trans e3,hadd,?_,?_,?_,by rw [hrr];exact addW_inv i',hd3,he3,hw⟩,by dsimp only;rw [wrap64 (by omega) (by omega)];omega⟩
   ·rw [hrr];exact (b'.add hokj (by omega) (by omega)).mono (by omega)
   ·rw [hg];unfold Lg.last at hlast ⊢;simp only [List.length_append,List.length_cons,List.length_nil];omega
   ·rw [hg];simp only [List.length_append,List.length_cons,List.length_nil];omega
 ·have hjl:j=dl.length:=by omega
  rw [hjl,←hel,List.drop_length] at hadd
  have hadd:addsW x st (erE dl)=((st',0),x'):=hadd
  exact ⟨R2,e2,by rw [hadd],s,ds,sg,hd',by rw [hadd];exact he',by rw [hadd];exact hw⟩
theorem appendW_spec {k:Nat} {sl:Sl} {dl:List DE4} (b:WBk x k) (hk:k + 2 * dl.length≤700000) (i:Inv st) (hp:PowR R) (hd:DsR R ds) (he:erE ds=x.g.l)
  (hr:RoN 4 R sl (dl.map eRow)) (hdl:DsR R dl) (hby:∀ e∈erE dl,∀ y∈e.dt,0≤y∧y<256) (hw:Sat R (WX p d x s sg ds st Hs) w):
  Gets Tryz.prog 18 #[.pointer (some ⟨p,0,none⟩),.slice sl.a sl.len sl.cap] w (OpQ R Hs p d (appendW x st (erE dl))):=by
 have hsl:sl.len=dl.length:=by have:=hr.len;simpa using this
 have bb:=b.wb (by omega)
 have hb0:=b.b0;have hb1:=b.b1;have hl1:=b.l1
 have hlb:=x.g.base_le
 have hlb2:x.g.last=x.g.base + x.g.l.length:=rfl
 apply call18
 refine new_rule hw fun bw w hw=>?_
 obtain ⟨R1,e1,b1,hw⟩:=box_leak hw
 refine new_rule hw fun bl w hw=>?_
 obtain ⟨R2,e2,b2,hw⟩:=box_leak hw
 have b1:=b1.ext e2
 have e12:=e1.trans e2
 have hp2:=hp.ext e12
 have hd2:=hd.ext e12
 have hr2:=e12.roN hr
 have hdl2:=hdl.ext e12
 have out:∀ {n:Int} {w:World},appendW x st (erE dl)=((st,n),x)→Sat R2 (WX p d x s sg ds st Hs) w→OpQ R Hs p d (appendW x st (erE dl)) (.int .i64 n) w:=fun {n w} h hw=>by
  rw [h];exact ⟨R2,e12,rfl,s,ds,sg,hd2,he,hw⟩
 refine ⟨_,b1.at (eqS hw),NilP.mk rfl ⟨x.brk,At.own (eqS hw) (by exact ⟨rfl,trivial⟩),Br.mk (fun h=>out (by unfold appendW;rw [if_pos h]) hw) (fun h=>?_)⟩⟩
 have hnb:¬ x.brk=true:=by simp [h]
 refine ⟨sl,b2.at (eqS hw),(contE_spec hr2 hdl2 (by omega) hw).use ?_⟩
 clear hw
 rintro _ w ⟨rfl,hw⟩
 refine ⟨_,rfl,Br.d (fun h2=>out (by unfold appendW;rw [if_neg hnb,if_pos h2]) hw) (fun h2=>?_)⟩
 refine ⟨sl,b2.at (eqS hw),?_⟩
 refine ⟨fun i w=>∃ j:Nat,i=j∧j≤dl.length∧(∀ (m:Nat) (h:m<(erE dl).length),m<j→(erE dl)[m].ix=x.g.last + 1 + m)∧Sat R2 (WX p d x s sg ds st Hs) w,fun i _=>dl.length - i.toNat,⟨0,rfl,by omega,fun m _ h=>by omega,hw⟩,?_⟩
 clear hw
 rintro _ _ w ⟨j,rfl,hj,hpre,hw⟩
 have hel:(erE dl).length=dl.length:=by simp
 refine Br.d (fun h3=>?_) (fun h3=>?_)
 ·have hj':j<dl.length:=by omega
  refine (hr2.reads (S:=fun w'=>w'=w) (eqS hw)).rngM hj' fun a _ el=>?_
  refine ⟨_,_,_,dl[j].1,el.z (by exact ⟨rfl,rfl,rfl,rfl,trivial⟩),new_rule hw fun b4 w hw=>?_⟩
  refine store_rule hw (by kernel_rfl) rfl (by simp [Value.cells,putL_len]) fun w hw=>?_
  have hw:Sat R2 (pts b4 (.cells (eRow dl[j]).toArray 55 (0,0))::WX p d x s sg ds st Hs) w:=hw
  refine drw_rule hw fun w hw=>?_
  refine ⟨dl[j].2.ix,At.own selfS (by exact ⟨rfl,trivial⟩),_,b1.at selfS,NilP.mk rfl ?_⟩
  have hw2:Sat R2 (WX p d x s sg ds st (pts b4 (.cells (eRow dl[j]).toArray 55 (0,0))::Hs)) w:=hw.arr
  refine (lastX_spec bb he hw2).use ?_
  clear hw hw2
  rintro _ w ⟨rfl,hw2⟩
  have hw:Sat R2 (pts b4 (.cells (eRow dl[j]).toArray 55 (0,0))::WX p d x s sg ds st Hs) w:=hw2.arr
  refine ⟨_,rfl,hw,?_⟩
  rw [wrap64 (x:=x.g.last + 1) (by omega) (by omega),wrap64 (x:=x.g.last + 1 + (j:Int)) (by omega) (by omega)]
  have hj2:j<(erE dl).length:=by omega
  refine Br.ne (fun h4=>out ?_ hw.drop) (fun h4=>⟨⟨j + 1,by rw [wrap64 (by omega) (by omega)];omega,by omega,fun m hm hmj=>?_,hw.drop⟩,by dsimp only;rw [wrap64 (by omega) (by omega)];omega⟩)
  ·unfold appendW
   rw [if_neg hnb,if_neg h2,if_pos]
   intro hf
   have:=hf j hj2
   simp at this
   exact h4 (by omega)
  ·by_cases hmj2:m<j
   ·exact hpre m hm hmj2
   ·have:m=j:=by omega
    subst this
    simp
    omega
 ·have hjl:j=dl.length:=by omega
  have hf:Follows (x.g.last + 1) (erE dl):=fun m hm=>hpre m hm (by omega)
  have hok:∀ e∈erE dl,e.Ok:=Classical.not_not.1 h2
  refine ⟨_,b1.at (eqS hw),?_⟩
  have ec:appendW x st (erE dl)=if x.brk then ((st,8),x) else doesW (addsW x st (erE dl)):=by unfold appendW;rw [if_neg hnb,if_neg h2,if_neg (fun h=>h hf),if_neg hnb]
  rw [ec]
  refine (does_spec (r:=addsW x st (erE dl)) (addsW_brk _ _ _) hw hd2 he fun _=>CalW.mk (by kernel_rfl) (app2_spec b hk i hp2 hd2 he b2 b1 hr2 hdl2 hby hok hf hw)).use ?_
  rintro _ w ⟨R3,e3,rfl,h⟩
  exact ⟨_,rfl,R3,e12.trans e3,rfl,h⟩
end Go.Proofs.YtkfedbncmfnpnaaGreatDoor
/- A log on a disk that only grew: what stands on its disk; plain. No program. Condition: none. -/
namespace Go.Proofs.YtkfedbncmfnpnaaGreatDoor
set_option linter.unusedVariables false
set_option linter.unusedSimpArgs false
open Go Go.VC
def mkC:Nat→Int→List (List Ey)→List Sc
 |_,_,[]=>[]
 |n,i,es::rest=>⟨n,i,es.map entB⟩::mkC (n + 1) (i + es.length) rest
theorem mkC_app:∀ (a:List (List Ey)) (n:Nat) (i:Int) (b:List (List Ey)),mkC n i (a++b)=mkC n i a++mkC (n + a.length) (i + a.flatten.length) b
 |[],n,i,b=>by simp [mkC]
 |es::a,n,i,b=>by
  simp only [List.cons_append,mkC,mkC_app a,List.length_cons,List.flatten_cons,List.length_append]
  rw [show n + 1 + a.length=n + (a.length + 1) by omega,show i + (es.length:Int) + (a.flatten.length:Int)=i + ((es.length + a.flatten.length:Nat):Int) by omega]
theorem mkC_len:∀ (a:List (List Ey)) (n:Nat) (i:Int),(mkC n i a).length=a.length
 |[],_,_=>rfl
 |es::a,n,i=>by simp [mkC,mkC_len a]
structure EsOk (i:Int) (l:List Ey):Prop where
 ok:∀ e∈l,e.Ok∧∀ y∈e.dt,0≤y∧y<256
 fol:Follows i l
theorem EsOk.app {i:Int} {a b:List Ey} (h:EsOk i (a++b)):EsOk i a∧EsOk (i + a.length) b:=by
 refine ⟨⟨fun e he=>h.ok e (List.mem_append_left _ he),fun k hk=>?_⟩,⟨fun e he=>h.ok e (List.mem_append_right _ he),fun k hk=>?_⟩⟩
 ·have:=h.fol k (by simp;omega)
  rwa [List.getElem_append_left hk] at this
 ·have:=h.fol (a.length + k) (by simp;omega)
  rw [List.getElem_append_right (by omega)] at this
  simp only [Nat.add_sub_cancel_left] at this
  rw [this];omega
theorem EsOk.snoc {i:Int} {a:List Ey} {e:Ey} (h:EsOk i a) (ho:e.Ok) (hb:∀ y∈e.dt,0≤y∧y<256) (hi:e.ix=i + a.length):EsOk i (a++[e]):=by
 refine ⟨fun x hx=>?_,fun k hk=>?_⟩
 ·rcases List.mem_append.1 hx with hx|hx
  ·exact h.ok x hx
  ·simp at hx;subst hx;exact ⟨ho,hb⟩
 ·by_cases hk2:k<a.length
  ·rw [List.getElem_append_left hk2];exact h.fol k hk2
  ·have:k=a.length:=by simp at hk;omega
   subst this
   simp [hi]
theorem runs_ents:∀ {l:List Ey} {g:Lg},EsOk (g.last + 1) l→runs g (l.map entB)=some ⟨g.base,g.l++l⟩
 |[],g,_=>by simp [runs]
 |e::l,g,h=>by
  have h0:=h.fol 0 (by simp)
  simp only [List.getElem_cons_zero] at h0
  rw [List.map_cons]
  unfold runs
  rw [change_ent (h.ok e (List.mem_cons_self ..)).1,if_pos (by omega)]
  simp only
  have h2:=(EsOk.app (a:=[e]) (b:=l) h).2
  rw [runs_ents (g:=⟨g.base,g.l++[e]⟩) (by
   have:(⟨g.base,g.l++[e]⟩:Lg).last + 1=g.last + 1 + (([e]:List Ey).length:Int):=by unfold Lg.last;simp;omega
   rw [this];exact h2)]
  simp
theorem mkC_chain:∀ {ess:List (List Ey)} {n:Nat} {g:Lg},EsOk (g.last + 1) ess.flatten→1≤g.last + 1→g.last + 1 + ess.flatten.length≤1099511627777→1≤n→n + 1 + ess.length≤100000000→
  Chain (some n) g (mkC (n + 1) (g.last + 1) ess) ⟨g.base,g.l++ess.flatten⟩
 |[],n,g,_,_,_,_,_=>by simp only [mkC,List.flatten_nil,List.append_nil];exact .nil
 |es::ess,n,g,h,h1,h2,h3,h4=>by
  rw [List.flatten_cons] at h h2
  rw [List.length_append] at h2
  rw [List.length_cons] at h4
  obtain ⟨ha,hb⟩:=h.app
  have hl:(⟨g.base,g.l++es⟩:Lg).last=g.last + es.length:=by unfold Lg.last;simp;omega
  refine .more (g1:=⟨g.base,g.l++es⟩) ⟨by simp,by simp only;omega,h1,by simp only;omega,fun b hb=>?_⟩ rfl rfl (runs_ents ha) ?_
  ·obtain ⟨e,he,rfl⟩:=List.mem_map.1 hb
   exact entB_ok (ha.ok e he).1 (ha.ok e he).2
  ·have:=mkC_chain (ess:=ess) (n:=n + 1) (g:=⟨g.base,g.l++es⟩) (by rw [hl,show g.last + es.length + 1=g.last + 1 + es.length by omega];exact hb) (by omega) (by omega) (by omega) (by omega)
   rw [hl,show g.last + es.length + 1=g.last + 1 + es.length by omega] at this
   rw [List.flatten_cons,←List.append_assoc]
   exact this
theorem mkC_start {ess:List (List Ey)} {n:Nat} {i:Int} (hne:ess≠[]) (h:EsOk i ess.flatten) (h1:1≤i) (h2:i + ess.flatten.length≤1099511627777) (h3:1≤n) (h4:n + ess.length≤100000000):
  Chain none ⟨0,[]⟩ (mkC n i ess) ⟨i - 1,ess.flatten⟩:=by
 obtain ⟨es,ess,rfl⟩:=List.exists_cons_of_ne_nil hne
 rw [List.flatten_cons] at h h2
 rw [List.length_append] at h2
 rw [List.length_cons] at h4
 obtain ⟨ha,hb⟩:=h.app
 have hl0:(⟨i - 1,[]⟩:Lg).last + 1=i:=by unfold Lg.last;simp
 have hl:(⟨i - 1,es⟩:Lg).last + 1=i + es.length:=by unfold Lg.last;simp;omega
 unfold mkC
 refine .first (g1:=⟨i - 1,es⟩) ⟨h3,by simp only;omega,h1,by simp only;omega,fun b hb=>?_⟩ rfl ?_ ?_
 ·obtain ⟨e,he,rfl⟩:=List.mem_map.1 hb
  exact entB_ok (ha.ok e he).1 (ha.ok e he).2
 ·have:=runs_ents (g:=⟨i - 1,[]⟩) (l:=es) (by rw [hl0];exact ha)
  simpa using this
 ·have:=mkC_chain (ess:=ess) (n:=n) (g:=⟨i - 1,es⟩) (by rw [hl];exact hb) (by omega) (by omega) h3 (by omega)
  rw [hl] at this
  rw [List.flatten_cons]
  exact this
theorem perm_of_get {a b:Fs} (ha:Uni a) (hb:Uni b) (h:∀ k,getM k a=getM k b):a.Perm b:=by
 have key:∀ {l:Fs},Uni l→∀ e:ByteArray × Fl,e∈l↔getM e.1 l=some e.2:=fun {l} u e=>⟨fun he=>getM_of_mem u he,fun he=>by
  obtain ⟨x,y,hxy,_⟩:=getM_split he
  rw [hxy];simp⟩
 have nd:∀ {l:Fs},Uni l→l.Nodup:=fun {l} u=>by
  unfold Uni at u
  unfold List.Nodup at u ⊢
  rw [List.pairwise_map] at u
  exact u.imp fun hne he=>hne (by rw [he])
 rw [List.perm_ext_iff_of_nodup (nd ha) (nd hb)]
 intro e
 rw [key ha,key hb,h]
structure Fu (st:DS) (n:Nat) (i:Int) (ess:List (List Ey)):Prop where
 off:st.off=false
 inv:Inv st
 by':ByOk st.fs
 get:∀ c∈mkC n i ess,∃ m,getM (segName c.num) st.fs=some ⟨c.bytes,m⟩
 only:∀ k,getM k st.fs≠none→∃ c∈mkC n i ess,k=segName c.num
 ne:ess≠[]
 ok:EsOk i ess.flatten
 i1:1≤i
 i2:i + ess.flatten.length≤1099511627777
 n1:1≤n
 n2:n + ess.length≤100000000
theorem Fu.chain {st:DS} {n:Nat} {i:Int} {ess:List (List Ey)} (h:Fu st n i ess):Chain none ⟨0,[]⟩ (mkC n i ess) ⟨i - 1,ess.flatten⟩:=mkC_start h.ne h.ok h.i1 h.i2 h.n1 h.n2
def fOf (st:DS) (c:Sc):Fl:=(getM (segName c.num) st.fs).getD ⟨[],0⟩
theorem Fu.perm {st:DS} {n:Nat} {i:Int} {ess:List (List Ey)} (h:Fu st n i ess):st.fs.Perm (segFs (fOf st) (mkC n i ess)):=by
 have hc:=h.chain
 have hu:=segFs_uni (f:=fOf st) hc.nums.2 fun c hm=>(chain_bd hc c hm).2
 refine perm_of_get h.inv.uni hu fun k=>?_
 rcases hg:getM k (segFs (fOf st) (mkC n i ess)) with _|v
 ·rcases hk:getM k st.fs with _|v
  ·rfl
  ·exfalso
   obtain ⟨c,hm,rfl⟩:=h.only k (by rw [hk];simp)
   have:=getM_of_mem hu (List.mem_map_of_mem (f:=fun c=>(segName c.num,fOf st c)) hm)
   rw [hg] at this;cases this
 ·obtain ⟨x,y,hxy,_⟩:=getM_split hg
  have hm:(k,v)∈segFs (fOf st) (mkC n i ess):=by rw [hxy];simp
  obtain ⟨c,hm,he⟩:=List.mem_map.1 hm
  obtain ⟨m,hgm⟩:=h.get c hm
  cases he
  unfold fOf
  rw [hgm];rfl
theorem Fu.f {st:DS} {n:Nat} {i:Int} {ess:List (List Ey)} (h:Fu st n i ess):∀ c∈mkC n i ess,(fOf st c).b=c.bytes:=fun c hc=>by
 obtain ⟨m,hm⟩:=h.get c hc
 unfold fOf;rw [hm];rfl
theorem Fu.load {st:DS} {n:Nat} {i:Int} {ess:List (List Ey)} (h:Fu st n i ess):loadD st=⟨⟨i - 1,ess.flatten⟩,(mkC n i ess).map Sc.sg,none,[]⟩:=loadD_full h.off h.perm h.f h.chain
theorem Fu.scratch {st:DS} {n:Nat} {i:Int} {ess:List (List Ey)} (h:Fu st n i ess):scratchN ∉ namesOf st.fs:=seg_noscratch h.perm h.chain.nums.2 fun c hm=>(chain_bd h.chain c hm).2
def xOf (lim:Int) (n:Nat) (i:Int) (ess:List (List Ey)):WSt:=⟨lim,⟨i - 1,ess.flatten⟩,(mkC n i ess).map Sc.sg,false⟩
theorem Fu.rcv {st:DS} {n:Nat} {i:Int} {ess:List (List Ey)} (h:Fu st n i ess):recoverD st=(st,0):=by
 have hl:=h.load
 unfold recoverD
 simp only [hl,if_neg h.scratch,thenD,if_true,unlinksD]
 rw [if_neg]
 obtain ⟨es,ess,rfl⟩:=List.exists_cons_of_ne_nil h.ne
 simp [mkC]
theorem Fu.open {st:DS} {n:Nat} {i lim:Int} {ess:List (List Ey)} (h:Fu st n i ess) (h1:32≤lim) (h2:lim≤65536):openErr st lim=0∧openD st lim=st∧openedW st=⟨⟨i - 1,ess.flatten⟩,(mkC n i ess).map Sc.sg⟩:=by
 have hc:¬ (lim<32∨lim>65536):=by omega
 unfold openErr openD openedW
 simp only [if_neg hc,h.off,h.rcv,h.load]
 obtain ⟨es,ess,rfl⟩:=List.exists_cons_of_ne_nil h.ne
 simp [mkC]
theorem chg_off {st:DS} {ok:Bool} (h1:(chg st ok).2=0):(chg st ok).1.off=st.off:=by
 unfold chg at h1 ⊢
 split
 ·rfl
 ·split
  ·rfl
  ·split
   ·rename_i h3 h4 h5;rw [if_neg h3,if_neg h4,if_pos h5] at h1;simp at h1
   ·rfl
theorem append_off {st:DS} {k:ByteArray} {xs:List Int} (h:(appendD st k xs).2=0):(appendD st k xs).1.off=st.off:=by
 obtain ⟨h1,h2⟩:=doing_ok (st:=st) h
 have e:appendD st k xs=appendG (chg st (nameOk k)).1 k xs:=h2
 rw [e,←chg_off h1]
 unfold appendG
 split<;>rfl
theorem sync_off {st:DS} {k:ByteArray} (h:(syncD st k).2=0):(syncD st k).1.off=st.off:=by
 obtain ⟨h1,h2⟩:=doing_ok (st:=st) h
 have e:syncD st k=syncG k (chg st (nameOk k)).1:=h2
 rw [e,←chg_off h1]
 unfold syncG
 split<;>rfl
theorem append_more {st:DS} {k:ByteArray} {xs:List Int} {f:Fl} (hk:getM k st.fs=some f) (h:(appendD st k xs).2=0):getM k (appendD st k xs).1.fs=some ⟨f.b++xs,f.sure⟩:=by
 obtain ⟨_,e⟩:=doing_ok h
 have e:appendD st k xs=appendG (chg st (nameOk k)).1 k xs:=e
 rw [e] at h ⊢
 have hf:=(chg_fs st (nameOk k)).1
 generalize (chg st (nameOk k)).1=st' at *
 unfold appendG at h ⊢
 split
 ·rename_i h1;rw [if_pos h1] at h;cases h
 ·show getM k (putB k xs st'.fs)=_
  have he:getM k (ensure k st'.fs)=some f:=by
   unfold ensure
   rw [hf,hk]
   rw [if_pos (by simp)];exact hk
  unfold putB
  rw [getM_upd he]
theorem Fu.put {st:DS} {n:Nat} {i:Int} {a:List (List Ey)} {es:List Ey} {e:Ey} (h:Fu st n i (a++[es])) (ho:e.Ok) (hb:∀ y∈e.dt,0≤y∧y<256) (hi:e.ix=i + (a++[es]).flatten.length) (hi2:e.ix≤1099511627776)
  (hd:(appendD st (segName (n + a.length)) (recB (entB e))).2=0):Fu (appendD st (segName (n + a.length)) (recB (entB e))).1 n i (a++[es++[e]]):=by
 have hfl:(a++[es++[e]]).flatten=(a++[es]).flatten++[e]:=by simp
 have hm:mkC n i (a++[es])=mkC n i a++[⟨n + a.length,i + a.flatten.length,es.map entB⟩]:=by rw [mkC_app];rfl
 have hm2:mkC n i (a++[es++[e]])=mkC n i a++[⟨n + a.length,i + a.flatten.length,(es++[e]).map entB⟩]:=by rw [mkC_app];rfl
 have hlt:∀ c∈mkC n i a,segName c.num≠segName (n + a.length):=fun c hc he=>by
  have hc':=h.chain
  have hnum:=hc'.nums.2
  rw [hm,List.pairwise_append] at hnum
  have:=hnum.2.2 c hc _ (List.mem_singleton.2 rfl)
  simp only at this
  have h1:=(chain_bd hc' c (by rw [hm];exact List.mem_append_left _ hc)).2
  have h2:=h.n2
  simp only [List.length_append,List.length_cons,List.length_nil] at h2
  have:=seg_inj h1 (by omega) he
  omega
 refine ⟨by rw [append_off hd];exact h.off,appendD_inv h.inv _ _,by_append h.by' _ (by have:=recsB_bd (l:=[entB e]) (fun b h=>by rw [List.mem_singleton.1 h];exact entB_ok ho hb);rwa [recsB_one] at this),fun c hc=>?_,fun k hk=>?_,by simp,?_,h.i1,?_,h.n1,by have:=h.n2;simp at this ⊢;omega⟩
 ·rw [hm2] at hc
  rcases List.mem_append.1 hc with hc|hc
  ·rw [append_get (hlt c hc)]
   exact h.get c (by rw [hm];exact List.mem_append_left _ hc)
  ·simp only [List.mem_singleton] at hc
   subst hc
   obtain ⟨m,hg⟩:=h.get ⟨n + a.length,i + a.flatten.length,es.map entB⟩ (by rw [hm];simp)
   refine ⟨m,?_⟩
   rw [append_more hg hd]
   simp only [Sc.bytes,Sc.recs,List.map_append,List.map_cons,List.map_nil]
   rw [←List.cons_append,recsB_app,recsB_one]
 ·by_cases hkk:k=segName (n + a.length)
  ·exact ⟨_,by rw [hm2];exact List.mem_append_right _ (List.mem_singleton.2 rfl),hkk⟩
  ·rw [append_get hkk] at hk
   obtain ⟨c,hc,rfl⟩:=h.only k hk
   rw [hm] at hc
   rcases List.mem_append.1 hc with hc|hc
   ·exact ⟨c,by rw [hm2];exact List.mem_append_left _ hc,rfl⟩
   ·simp only [List.mem_singleton] at hc;subst hc;exact absurd rfl hkk
 ·rw [hfl];exact h.ok.snoc ho hb hi
 ·rw [hfl];simp only [List.length_append,List.length_cons,List.length_nil] at hi ⊢;simp at hi ⊢;omega
theorem Fu.more {st:DS} {n:Nat} {i:Int} {a:List (List Ey)} (h:Fu st n i a) (hn:n + a.length + 1≤100000000)
  (hd:(makeD st (n + a.length) (i + a.flatten.length)).2=0):Fu (makeD st (n + a.length) (i + a.flatten.length)).1 n i (a++[[]]):=by
 have hm:mkC n i (a++[[]])=mkC n i a++[⟨n + a.length,i + a.flatten.length,[]⟩]:=by rw [mkC_app];rfl
 have hc':=h.chain
 have hlt:∀ c∈mkC n i a,segName c.num≠segName (n + a.length):=fun c hc he=>by
  have hx:∀ (a:List (List Ey)) (n:Nat) (i:Int),∀ c∈mkC n i a,c.num<n + a.length:=by
   intro a
   induction a with
   |nil=>intro n i c hc;cases hc
   |cons x a ih=>
    intro n i c hc
    unfold mkC at hc
    rcases List.mem_cons.1 hc with rfl|hc
    ·simp
    ·have:=ih _ _ c hc;simp;omega
  have:=hx a n i c hc
  have:=seg_inj (chain_bd hc' c hc).2 (by omega) he
  omega
 have hnone:getM (segName (n + a.length)) st.fs=none:=by
  rcases hg:getM (segName (n + a.length)) st.fs with _|v
  ·rfl
  ·obtain ⟨c,hc,he⟩:=h.only (segName (n + a.length)) (by rw [hg];simp)
   exact absurd he.symm (hlt c hc)
 have hh:∃ b,b=headB (n + a.length) (i + a.flatten.length):=⟨_,rfl⟩
 obtain ⟨b,hbb⟩:=hh
 have hmk:makeD st (n + a.length) (i + a.flatten.length)=thenD (appendD st (segName (n + a.length)) b) fun st=>syncD st (segName (n + a.length)):=by rw [hbb];rfl
 rw [hmk] at hd ⊢
 have h1:(appendD st (segName (n + a.length)) b).2=0:=by
  rcases Classical.em ((appendD st (segName (n + a.length)) b).2=0) with h0|h0
  ·exact h0
  ·rw [thenD_err h0] at hd;exact hd
 rw [thenD_ok h1] at hd ⊢
 have hbo:∀ x∈b,0≤x∧x<256:=by
  rw [hbb]
  have:=recsB_bd (l:=[hdB (n + a.length) (i + a.flatten.length)]) (fun b hb=>by rw [List.mem_singleton.1 hb];exact hdB_ok (by omega) h.i2)
  rw [recsB_one] at this
  exact this
 have hg2:∀ k,k≠segName (n + a.length)→getM k (syncD (appendD st (segName (n + a.length)) b).1 (segName (n + a.length))).1.fs=getM k st.fs:=fun k hk=>by rw [sync_get hk,append_get hk]
 refine ⟨by rw [sync_off hd,append_off h1];exact h.off,sync_inv (appendD_inv h.inv _ _) _,by_sync (by_append h.by' _ hbo) _,fun c hc=>?_,fun k hk=>?_,by simp,by simpa using h.ok,h.i1,by simpa using h.i2,h.n1,by simp;omega⟩
 ·rw [hm] at hc
  rcases List.mem_append.1 hc with hc|hc
  ·rw [hg2 _ (hlt c hc)];exact h.get c hc
  ·simp only [List.mem_singleton] at hc
   subst hc
   refine ⟨b.length,?_⟩
   rw [sync_done (append_new hnone h1) hd,hbb]
   simp only [Sc.bytes,Sc.recs,recsB_one]
   rfl
 ·by_cases hkk:k=segName (n + a.length)
  ·exact ⟨_,by rw [hm];exact List.mem_append_right _ (List.mem_singleton.2 rfl),hkk⟩
  ·rw [hg2 k hkk] at hk
   obtain ⟨c,hc,rfl⟩:=h.only k hk
   exact ⟨c,by rw [hm];exact List.mem_append_left _ hc,rfl⟩
theorem Fu.sync {st:DS} {n:Nat} {i:Int} {a:List (List Ey)} {k:ByteArray} (h:Fu st n i a) (hk:(getM k st.fs)≠none) (hd:(syncD st k).2=0):Fu (syncD st k).1 n i a:=by
 refine ⟨by rw [sync_off hd];exact h.off,sync_inv h.inv _,by_sync h.by' _,fun c hc=>?_,fun k2 hk2=>?_,h.ne,h.ok,h.i1,h.i2,h.n1,h.n2⟩
 ·obtain ⟨m,hg⟩:=h.get c hc
  by_cases hkk:segName c.num=k
  ·subst hkk;exact ⟨_,sync_done hg hd⟩
  ·exact ⟨m,by rw [sync_get hkk];exact hg⟩
 ·by_cases hkk:k2=k
  ·subst hkk;exact h.only k2 hk
  ·rw [sync_get hkk] at hk2;exact h.only k2 hk2
end Go.Proofs.YtkfedbncmfnpnaaGreatDoor
/- A log on a disk that only grows: Append, Drop; plain. No program. Condition: none. -/
namespace Go.Proofs.YtkfedbncmfnpnaaGreatDoor
set_option linter.unusedVariables false
set_option linter.unusedSimpArgs false
open Go Go.VC
theorem mkC_snoc (n:Nat) (i:Int) (a:List (List Ey)) (es:List Ey):mkC n i (a++[es])=mkC n i a++[⟨n + a.length,i + a.flatten.length,es.map entB⟩]:=by rw [mkC_app];rfl
theorem tail_snoc (l:List Sg) (g:Sg):tailS (l++[g])=g:=by unfold tailS;simp
theorem setSize_snoc (l:List Sg) (g:Sg) (z:Int):setSize (l++[g]) z=l++[⟨g.num,g.next,z⟩]:=by
 unfold setSize
 simp
abbrev lastC (n:Nat) (i:Int) (a:List (List Ey)) (es:List Ey):Sc:=⟨n + a.length,i + a.flatten.length,es.map entB⟩
def costE (l:List Ey):Int:=(l.map fun e=>(50 + e.dt.length:Int)).sum
structure Got (st:DS) (z:Int) (st':DS):Prop where
 calm:Calm st'
 tot:total st'.fs≤total st.fs + z
 room:st'.room=st.room
theorem Fu.drop {st:DS} {n:Nat} {i:Int} {es:List Ey} {ess:List (List Ey)} (h:Fu st n i (es::ess)) (hne:ess≠[]) (hd:(unlinkD st (segName n)).2=0):Fu (unlinkD st (segName n)).1 (n + 1) (i + es.length) ess:=by
 have hm:mkC n i (es::ess)=⟨n,i,es.map entB⟩::mkC (n + 1) (i + es.length) ess:=rfl
 have hc:=h.chain
 have hlt:∀ c∈mkC (n + 1) (i + es.length) ess,segName c.num≠segName n:=fun c hcm he=>by
  have hnum:=hc.nums.2
  rw [hm,List.pairwise_cons] at hnum
  have:=hnum.1 c hcm
  simp only at this
  have h1:=(chain_bd hc c (by rw [hm];exact List.mem_cons_of_mem _ hcm)).2
  have:=seg_inj h1 (by omega) he
  omega
 have hok:=h.ok
 have hi2:=h.i2
 rw [List.flatten_cons] at hok hi2
 rw [List.length_append] at hi2
 refine ⟨?_,unlink_inv h.inv _,by_unlink h.by' _,fun c hcm=>?_,fun k hk=>?_,hne,hok.app.2,by have:=h.i1;omega,by omega,by omega,by have:=h.n2;simp at this;omega⟩
 ·have hne2:scratchN≠segName n:=fun he=>seg_ne_scratch n he.symm
  rw [(unlink_read hne2 hd).1];exact h.off
 ·obtain ⟨m,hg⟩:=h.get c (by rw [hm];exact List.mem_cons_of_mem _ hcm)
  exact ⟨m,by rw [unlink_get (hlt c hcm)];exact hg⟩
 ·by_cases hkk:k=segName n
  ·rw [hkk,unlink_done h.inv.uni hd] at hk;exact absurd rfl hk
  ·rw [unlink_get hkk] at hk
   obtain ⟨c,hcm,rfl⟩:=h.only k hk
   rw [hm] at hcm
   rcases List.mem_cons.1 hcm with rfl|hcm
   ·exact absurd rfl hkk
   ·exact ⟨c,hcm,rfl⟩
structure Dr (n0:Nat) (i0:Int) (ess0:List (List Ey)) (before:Int) (n:Nat) (i:Int) (ess:List (List Ey)):Prop where
 le:i0≤i
 be:i=i0∨i≤before
 fl:ess.flatten=ess0.flatten.drop (i - i0).toNat
 len:i + ess.flatten.length=i0 + ess0.flatten.length
 n:n + ess.length=n0 + ess0.length
theorem fresh_full {room lim:Int} (h0:1000≤room) (h1:room≤16777216) (h2:32≤lim) (h3:lim≤65536) (i0:Inv ⟨room,[],-1,-1,false⟩):∃ st,openErr ⟨room,[],-1,-1,false⟩ lim=0∧openD ⟨room,[],-1,-1,false⟩ lim=st∧openedW ⟨room,[],-1,-1,false⟩=⟨⟨0,[]⟩,(mkC 1 1 [[]]).map Sc.sg⟩∧
  Fu st 1 1 [[]]∧Calm st∧total st.fs≤21∧st.room=room:=by
 have hl:loadD ⟨room,[],-1,-1,false⟩=⟨⟨0,[]⟩,[],none,[]⟩:=by
  have hn:namesOf ([]:Fs)=[]:=by unfold namesOf;simp
  unfold loadD
  rw [hn]
  rfl
 have hs:scratchN ∉ namesOf ([]:Fs):=by unfold namesOf;simp [namesOf]
 have hbl:(headB 1 1).length≤21:=by unfold headB;rw [recB_len];have:=hdB_len (n:=1) (next:=1) (by omega) (by omega);omega
 obtain ⟨b,hbb⟩:∃ b,b=headB 1 1:=⟨_,rfl⟩
 have c0:Calm ⟨room,[],-1,-1,false⟩:=⟨rfl,rfl,rfl⟩
 obtain ⟨g1,g2,g3,g4⟩:=append_calm c0 (k:=segName 1) (xs:=b) (seg_nameOk _) (by rw [hbb];show (0:Int) + _≤room;omega)
 have hgs:=append_new (st:=⟨room,[],-1,-1,false⟩) (k:=segName 1) rfl g1
 obtain ⟨j1,j2,j3,j4⟩:=sync_calm g2 (seg_nameOk 1) hgs
 have hmk:makeD ⟨room,[],-1,-1,false⟩ 1 1=syncD (appendD ⟨room,[],-1,-1,false⟩ (segName 1) b).1 (segName 1):=by
  unfold makeD
  rw [←hbb,thenD_ok g1]
 have hrec:recoverD ⟨room,[],-1,-1,false⟩=makeD ⟨room,[],-1,-1,false⟩ 1 1:=by
  unfold recoverD
  simp only [hl,if_neg hs,thenD,if_true,unlinksD]
 have hc:¬ (lim<32∨lim>65536):=by omega
 have hbo:∀ x∈b,0≤x∧x<256:=by
  rw [hbb]
  have:=recsB_bd (l:=[hdB 1 1]) (fun b hb=>by rw [List.mem_singleton.1 hb];exact hdB_ok (by omega) (by omega))
  rw [recsB_one] at this
  exact this
 refine ⟨(syncD (appendD ⟨room,[],-1,-1,false⟩ (segName 1) b).1 (segName 1)).1,?_,?_,?_,?_,j2,?_,by rw [j4,g4]⟩
 ·unfold openErr;rw [if_neg hc,if_neg (by simp),hrec,hmk];exact j1
 ·unfold openD;rw [if_neg hc,if_neg (by simp),hrec,hmk]
 ·unfold openedW;simp only [hl,if_true]
  simp only [mkC,List.map_cons,List.map_nil,Sc.sg,Sc.bytes,Sc.recs,recsB_one]
  rfl
 ·refine ⟨j2.off,sync_inv (appendD_inv i0 _ _) _,by_sync (by_append (fun e he=>by cases he) _ hbo) _,fun c hcm=>?_,fun k hk=>?_,by simp,⟨fun e he=>by simp at he,fun k hk=>by simp at hk⟩,by omega,by simp,by omega,by simp⟩
  ·simp only [mkC,List.mem_singleton] at hcm
   subst hcm
   refine ⟨b.length,?_⟩
   rw [sync_done hgs j1,hbb]
   simp only [Sc.bytes,Sc.recs,List.map_nil,recsB_one]
   rfl
  ·by_cases hkk:k=segName 1
   ·exact ⟨_,List.mem_cons_self ..,hkk⟩
   ·rw [sync_get hkk,append_get hkk] at hk;exact absurd rfl hk
 ·rw [j3,g3,hbb];show (0:Int) + _≤21;omega
end Go.Proofs.YtkfedbncmfnpnaaGreatDoor
/- The formulas of functions of this seat's translation, printed by a program of mine off the translation; each is proved equal to 'fnF' of the function's body, so it is enough for the call. No condition. -/
namespace Go.Proofs.YtkfedbncmfnpnaaGreatDoor
open Go Go.VC
set_option linter.unusedVariables false
set_option maxRecDepth 10000
def B20 (d:Sl) (e:Sl) (K:Value→World→Prop) (w:World):Prop:=
 Br ((↑d.len:Int) !=(↑e.len:Int))
 (K (.bool false) w)
 (∃ (k:Int→World→Prop) (A:Int→World→Nat),(k 0 w)∧∀ (E:Env) (b:Int) (j:World),k b j→
 Br (decide (b<(↑d.len:Int)))
 (Drw j fun c i=>
 Rng b d.len (NilP d.a fun C=>
 ∃ r:Int,(At c (Addr.add (Addr.add C (mulS b.toNat 4)) 0) [.int .i64 r])∧
 Rng b e.len (NilP e.a fun D=>
 ∃ s:Int,(At c (Addr.add (Addr.add D (mulS b.toNat 4)) 0) [.int .i64 s])∧
 Br (r !=s)
 (K (.bool false) i)
 (Rng b d.len (NilP d.a fun l=>
 ∃ t:Int,(At c ⟨(l.add (mulS b.toNat 4)).block,(l.add (mulS b.toNat 4)).off + 1,none⟩ [.int .i64 t])∧
 Rng b e.len (NilP e.a fun m=>
 ∃ u:Int,(At c ⟨(m.add (mulS b.toNat 4)).block,(m.add (mulS b.toNat 4)).off + 1,none⟩ [.int .i64 u])∧
 Br (t !=u)
 (K (.bool false) i)
 (Rng b d.len (NilP d.a fun n=>
 ∃ v:Int,(At c ⟨(n.add (mulS b.toNat 4)).block,(n.add (mulS b.toNat 4)).off + 2,none⟩ [.int .i64 v])∧
 Rng b e.len (NilP e.a fun o=>
 ∃ x:Int,(At c ⟨(o.add (mulS b.toNat 4)).block,(o.add (mulS b.toNat 4)).off + 2,none⟩ [.int .i64 x])∧
 Br (v !=x)
 (K (.bool false) i)
 (Rng b d.len (NilP d.a fun p=>
 ∃ f:Sl,(At c ⟨(p.add (mulS b.toNat 4)).block,(p.add (mulS b.toNat 4)).off + 3,none⟩ [.slice f.a f.len f.cap])∧
 ∃ y:ByteArray,(∀ w',c w'→((convert 53 9 (.slice f.a f.len f.cap))).run Tryz.prog w'=.ok (.string y) w')∧
 Rng b e.len (NilP e.a fun q=>
 ∃ g:Sl,(At c ⟨(q.add (mulS b.toNat 4)).block,(q.add (mulS b.toNat 4)).off + 3,none⟩ [.slice g.a g.len g.cap])∧
 ∃ z:ByteArray,(∀ w',c w'→((convert 53 9 (.slice g.a g.len g.cap))).run Tryz.prog w'=.ok (.string z) w')∧
 Br (!y.toList==z.toList)
 (K (.bool false) i)
 ((k (IntKind.i64.wrap (b + 1)) i)∧A (IntKind.i64.wrap (b + 1)) i<A b j)))))))))))))
 (K (.bool true) j))
def sk20:Sk:=(.seq .leaf (.seq .leaf (.seq (.seq .leaf (.block (.loop [5] [(.int .i64)] [4,5,11,12,13,14,15,16,17,18,19,20,21,22,23,24,25,26,27,28,29,30,31,32,33,34,35,36,37,38,39,40,41,42,43,44,45,46,47,48,49,50,51,52,53,54,55,56,57,58,59,60,61,62,63,64,65,66,67,68] .leaf))) .leaf)))
theorem call20 (b:Sl) (c:Sl) (K:Value→World→Prop) (w:World) (h:B20 b c K w):Gets Tryz.prog 20 #[.slice b.a b.len b.cap,.slice c.a c.len c.cap] w K:=cq (sk:=sk20) Tryz.func20 (by kernel_rfl) (by kernel_rfl) (by kernel_rfl) h
def B8  (K:Value→World→Prop) (w:World):Prop:=
 Calls Tryz.prog 17 #[.int .i64 1000] w fun n e=>
 ∃ c:Option Addr,∃ k:Int,(n=.returned (.tuple #[.pointer c,.int .i64 k]))∧
 ∃ (g:World→Prop),(Br (k !=0)
 (K (.bool false) e)
 (Br c.isNone
 (K (.bool false) e)
 (g  e)))∧
 ∀ (s:Env)  (l:World),g  l→
 Calls Tryz.prog 13 #[.pointer c,.int .i64 100] l fun o f=>
 ∃ d:Option Addr,∃ i:Int,(o=.returned (.tuple #[.pointer d,.int .i64 i]))∧
 Br (i==0)
 (Br (!d.isNone)
 (Calls Tryz.prog 22 #[.pointer d] f fun p m=>
 ∃ j:Int,(p=.returned (.int .i64 j))∧
 Br (j==1)
 (Calls Tryz.prog 33 #[.pointer c] m fun q r=>
 ∃ b:Sl,(q=.returned (.slice b.a b.len b.cap))∧
 K (.bool ((↑b.len:Int)==1)) r)
 (K (.bool false) m))
 (K (.bool false) f))
 (K (.bool false) f)
def sk8:Sk:=(.seq .leaf (.seq .leaf (.cut [] [] [0,9,10,11,12,13,14] .leaf .leaf)))
theorem call8  (K:Value→World→Prop) (w:World) (h:B8  K w):Gets Tryz.prog 8 #[] w K:=cq (sk:=sk8) Tryz.func8 (by kernel_rfl) (by kernel_rfl) (by kernel_rfl) h
def B9 (k:Sl) (g:Sl) (K:Value→World→Prop) (w:World):Prop:=
 ∃ (E:Int→World→Prop),(∃ (C:Int→Int→World→Prop) (X:Int→Int→World→Nat),(C 0 0 w)∧∀ (aa:Env) (l:Int) (d:Int) (r:World),C l d r→
 ∃ (F:World→Prop),(Br (decide (d<(↑k.len:Int)))
 (Br (decide (d<20))
 (F  r)
 (E l r))
 (E l r))∧
 ∀ (ab:Env)  (j:World),F  j→
 Rng d k.len (NilP k.a fun I=>
 ∃ v:Sl,(At (fun c=>c=j) ⟨(I.add (mulS d.toNat 2)).block,(I.add (mulS d.toNat 2)).off + 1,none⟩ [.slice v.a v.len v.cap])∧
 Br (decide ((↑v.len:Int)>30000))
 (K (.bool true) j)
 (Rng d k.len (NilP k.a fun Z=>
 ∃ U:ByteArray,(At (fun c=>c=j) (Addr.add (Addr.add Z (mulS d.toNat 2)) 0) [.string U])∧
 Br (decide ((↑U.size:Int)>1000))
 (K (.bool true) j)
 (Rng d k.len (NilP k.a fun J=>
 ∃ o:Sl,(At (fun c=>c=j) ⟨(J.add (mulS d.toNat 2)).block,(J.add (mulS d.toNat 2)).off + 1,none⟩ [.slice o.a o.len o.cap])∧
 (C (IntKind.i64.wrap (l + (↑o.len:Int))) (IntKind.i64.wrap (d + 1)) j)∧X (IntKind.i64.wrap (l + (↑o.len:Int))) (IntKind.i64.wrap (d + 1)) j<X l d r))))))∧
 ∀ (ac:Env) (T:Int) (V:World),E T V→
 ∃ (u:Int→Int→World→Prop) (A:Int→Int→World→Nat),(u T 0 V)∧∀ (ad:Env) (m:Int) (b:Int) (n:World),u m b n→
 ∃ (G:World→Prop),(Br (decide (b<(↑g.len:Int)))
 (Br (decide (b<100))
 (G  n)
 (K (.bool (decide (m>30000))) n))
 (K (.bool (decide (m>30000))) n))∧
 ∀ (ae:Env)  (s:World),G  s→
 Rng b g.len (NilP g.a fun L=>
 ∃ x:Sl,(At (fun c=>c=s) ⟨(L.add (mulS b.toNat 5)).block,(L.add (mulS b.toNat 5)).off + 3,none⟩ [.slice x.a x.len x.cap])∧
 Br (decide ((↑x.len:Int)>1000))
 (K (.bool true) s)
 (Rng b g.len (NilP g.a fun M=>
 ∃ y:Sl,(At (fun c=>c=s) ⟨(M.add (mulS b.toNat 5)).block,(M.add (mulS b.toNat 5)).off + 3,none⟩ [.slice y.a y.len y.cap])∧
 ∃ (D:Int→Int→World→Prop) (Y:Int→Int→World→Nat),(D (IntKind.i64.wrap (m + IntKind.i64.wrap (30 * (↑y.len:Int)))) 0 s)∧∀ (af:Env) (e:Int) (i:Int) (f:World),D e i f→
 ∃ (H:World→Prop),(Rng b g.len (NilP g.a fun N=>
 ∃ z:Sl,(At (fun c=>c=f) ⟨(N.add (mulS b.toNat 5)).block,(N.add (mulS b.toNat 5)).off + 3,none⟩ [.slice z.a z.len z.cap])∧
 Br (decide (i<(↑z.len:Int)))
 (Br (decide (e<100000))
 (H  f)
 (Br (decide (e>30000))
 (K (.bool true) f)
 ((u e (IntKind.i64.wrap (b + 1)) f)∧A e (IntKind.i64.wrap (b + 1)) f<A m b n)))
 (Br (decide (e>30000))
 (K (.bool true) f)
 ((u e (IntKind.i64.wrap (b + 1)) f)∧A e (IntKind.i64.wrap (b + 1)) f<A m b n))))∧
 ∀ (ag:Env)  (t:World),H  t→
 Rng b g.len (NilP g.a fun O=>
 ∃ p:Sl,(At (fun c=>c=t) ⟨(O.add (mulS b.toNat 5)).block,(O.add (mulS b.toNat 5)).off + 3,none⟩ [.slice p.a p.len p.cap])∧
 Rng i p.len (NilP p.a fun Q=>
 ∃ q:Sl,(At (fun c=>c=t) ⟨(Q.add (mulS i.toNat 4)).block,(Q.add (mulS i.toNat 4)).off + 3,none⟩ [.slice q.a q.len q.cap])∧
 (D (IntKind.i64.wrap (e + (↑q.len:Int))) (IntKind.i64.wrap (i + 1)) t)∧Y (IntKind.i64.wrap (e + (↑q.len:Int))) (IntKind.i64.wrap (i + 1)) t<Y e i f)))))
def sk9:Sk:=(.seq .leaf (.seq .leaf (.cut [5] [(.int .i64)] [4,5,6,9,10,11,12,13,14,15,16,17,18,19,20,21,22,23,24,25,26,27,28,29,30,31,32,33,34,35,36,37,38,39,40,41,42] (.seq .leaf (.block (.loop [5,6] [(.int .i64),(.int .i64)] [4,5,6,9,10,11,12,13,14,15,16,17,18,19,20,21,22,23,24,25,26,27,28,29,30,31,32,33,34,35,36,37,38,39,40,41,42] (.cut [] [] [9,10,11,12,13,14,15,16] .leaf .leaf)))) (.seq (.seq .leaf (.block (.loop [5,7] [(.int .i64),(.int .i64)] [4,5,7,8,43,44,45,46,47,48,49,50,51,52,53,54,55,56,57,58,59,60,61,62,63,64,65,66,67,68,69,70,71,72,73,74,75,76,77,78,79,80,81,82,83,84,85,86,87,88,89,90,91,92,93,94,95,96] (.cut [] [] [43,44,45,46,47,48,49,50] .leaf (.seq (.block (.seq .leaf (.seq .leaf (.seq (.seq .leaf (.block (.loop [5,8] [(.int .i64),(.int .i64)] [5,8,69,70,71,72,73,74,75,76,77,78,79,80,81,82,83,84,85,86,87,88,89,90,91,92,93,94] (.cut [] [] [69,70,71,72,73,74,75,76,77,78,79,80] .leaf .leaf)))) .leaf)))) .leaf))))) .leaf))))
theorem call9 (b:Sl) (c:Sl) (K:Value→World→Prop) (w:World) (h:B9 b c K w):Gets Tryz.prog 9 #[.slice b.a b.len b.cap,.slice c.a c.len c.cap] w K:=cq (sk:=sk9) Tryz.func9 (by kernel_rfl) (by kernel_rfl) (by kernel_rfl) h
end Go.Proofs.YtkfedbncmfnpnaaGreatDoor
/- A log on a disk: lists compared, how much is handed, awake. Condition: the library's table of powers is laid. -/
namespace Go.Proofs.YtkfedbncmfnpnaaGreatDoor
set_option linter.unusedVariables false
set_option linter.unusedSimpArgs false
open Go Go.VC
variable {R R':Cx} {Hs Rest:List HP} {w:World} {p d:Nat} {x:WSt} {s sg:Sl} {ds:List DE4} {st:DS}
def sumD (l:List Ey):Int:=(l.map fun e=>(e.dt.length:Int)).sum
theorem costE_eq (l:List Ey):costE l=50 * l.length + sumD l:=by
 unfold costE sumD
 induction l with
 |nil=>simp
 |cons e l ih=>simp only [List.map_cons,List.sum_cons,List.length_cons];omega
theorem sumD_nn (l:List Ey):0≤sumD l:=by
 unfold sumD
 induction l with
 |nil=>simp
 |cons e l ih=>simp only [List.map_cons,List.sum_cons];omega
theorem sumD_step (l:List Ey) {k:Nat} (h:k<l.length):sumD (l.take (k + 1))=sumD (l.take k) + l[k].dt.length:=by
 unfold sumD
 have e:l.take (k + 1)=l.take k++[l[k]]:=(List.take_append_getElem h).symm
 rw [e,List.map_append,List.sum_append]
 simp
theorem xOf_wbk {n:Nat} {i lim:Int} {ess:List (List Ey)} {st:DS} (h:Fu st n i ess) (h2:ess.length≤40000) (hn:n≤40000) (h3:ess.flatten.length≤100000):WBk (xOf lim n i ess) 80000:=by
 have hi1:=h.i1;have hi2:=h.i2
 have hmn:∀ (a:List (List Ey)) (n:Nat) (i:Int),∀ c∈mkC n i a,c.num<n + a.length:=by
  intro a
  induction a with
  |nil=>intro n i c hc;cases hc
  |cons x a ih=>
   intro n i c hc
   unfold mkC at hc
   rcases List.mem_cons.1 hc with rfl|hc
   ·simp
   ·have:=ih _ _ c hc;simp;omega
 refine ⟨by show 0≤i - 1;omega,by show i - 1≤_;omega,?_,?_,?_,fun g hg=>?_⟩
 ·show ess.flatten.length≤_
  omega
 ·show 0<((mkC n i ess).map Sc.sg).length
  rw [List.length_map,mkC_len]
  exact List.length_pos_iff.2 h.ne
 ·show ((mkC n i ess).map Sc.sg).length≤_
  rw [List.length_map,mkC_len];omega
 ·obtain ⟨c,hc,rfl⟩:=List.mem_map.1 hg
  have:=hmn _ _ _ c hc
  obtain ⟨m,hm⟩:=h.get c hc
  have hrd:=readD_le h.inv (segName c.num)
  rw [read_get h.off (seg_nameOk _) hm] at hrd
  simp only at hrd
  refine ⟨by show c.num≤_;omega,by show (0:Int)≤c.bytes.length;omega,by show (c.bytes.length:Int)≤_;omega⟩
theorem new_open {d:Nat} {room lim:Int} (h0:1000≤room) (h1:room≤16777216) (h2:32≤lim) (h3:lim≤65536) (hp:PowR R) (hw:Sat R (DiskAt d ⟨room,[],-1,-1,false⟩::Hs) w):
  Gets Tryz.prog 13 #[.pointer (some ⟨d,0,none⟩),.int .i64 lim] w fun v w'=>∃ (R':Cx) (p:Nat) (s:Sl) (ds:List DE4) (sg:Sl) (st:DS),R.Ext R'∧v=.tuple #[.pointer (some ⟨p,0,none⟩),.int .i64 0]∧DsR R' ds∧erE ds=(xOf lim 1 1 [[]]).g.l∧
   Fu st 1 1 [[]]∧Calm st∧total st.fs≤21∧st.room=room∧Sat R' (WX p d (xOf lim 1 1 [[]]) s sg ds st Hs) w':=by
 have i0:Inv ⟨room,[],-1,-1,false⟩:=inv_new (by omega) h1
 obtain ⟨st,e1,e2,e3,f,c,t,r⟩:=fresh_full h0 h1 h2 h3 i0
 refine (open_spec lim i0 (fun e he=>by cases he) (by simp) hp hw).mono fun v w' h=>?_
 rw [e1] at h
 rcases h with ⟨h,_⟩|⟨_,R',p,s,ds,sg,g1,g2,g3,g4,_,_,_,_,g9⟩
 ·exact absurd rfl h
 ·rw [e3] at g4 g9
  rw [e2] at g9
  exact ⟨R',p,s,ds,sg,st,g1,g3,g2,g4,f,c,t,r,g9⟩
theorem awake_spec (hp:PowR R) (hw:Sat R Hs w):Gets Tryz.prog 8 #[] w fun v w'=>∃ R',R.Ext R'∧v=.bool true∧Sat R' Hs w':=by
 apply call8
 refine (new_ok (room:=1000) (by omega) (by omega) hw).use ?_
 clear hw
 rintro _ w ⟨d,rfl,hw⟩
 refine ⟨_,_,rfl,fun w=>Sat R (DiskAt d ⟨1000,[],-1,-1,false⟩::Hs) w,Br.ne (fun h=>absurd rfl h) (fun _=>Br.f rfl hw),?_⟩
 clear hw
 rintro _ w hw
 refine (new_open (lim:=100) (by omega) (by omega) (by omega) (by omega) hp hw).use ?_
 clear hw
 rintro _ w ⟨R1,p,s,ds,sg,st,e1,rfl,hd,he,f,c,t,r,hw⟩
 refine ⟨_,_,rfl,Br.e (fun _=>?_) (fun h=>absurd rfl h)⟩
 refine Br.t rfl ?_
 have b:=(xOf_wbk (lim:=100) f (by simp) (by omega) (by simp)).wb (by omega)
 refine (first_spec b hw).use ?_
 clear hw
 rintro _ w ⟨rfl,hw⟩
 refine ⟨_,rfl,Br.e (fun _=>?_) (fun h=>absurd (by decide) h)⟩
 obtain ⟨x,hx⟩:∃ x,x=xOf 100 1 1 [[]]:=⟨_,rfl⟩
 rw [←hx] at hw
 have hw:Sat R1 (DiskAt d st::pts p (wCells d x.lim x.g.base s sg x.brk)::EntO s ds::SegO sg x.segs::Hs) w:=hw.arr
 have hl:st.fs.length=1:=by rw [f.perm.length_eq];simp [mkC]
 refine (names_spec f.inv (by omega) hw).use ?_
 clear hw
 rintro _ w ⟨t,rfl,hw⟩
 have htl:=Own.len hw
 rw [List.length_map,seg_names f.perm f.chain.nums.2 fun c hc=>(chain_bd f.chain c hc).2] at htl
 have htl:t.len=1:=htl
 refine ⟨_,rfl,R1,e1,?_,hw.drop.drop.drop.drop.drop⟩
 rw [htl]
 rfl
end Go.Proofs.YtkfedbncmfnpnaaGreatDoor

/- ROW: from a reading of an argument to what the contracts ask; from a walk's end to 'Below'. No condition. -/
namespace Go.VC
set_option linter.unusedVariables false
set_option linter.unusedSimpArgs false
open Go.ChangeShapes Go.WideShapes Go.ChangeAt Go.RowKit
theorem below_of {W W':World} {Hs:List HP} (h:Sat (Cx.of W) Hs W'):Below W.heap.size W W':=by
 obtain ⟨h1,h2,h3⟩:=h.streams
 have hb:∀ k,k<W.heap.size→W'.heap[k]? =W.heap[k]?:=fun k hk=>by
  have:(Cx.of W).m k=some W.heap[k]:=by simp [Cx.of,hk]
  rw [h.of_ro this];simp [hk]
 refine ⟨h1,h2,h3,?_,hb⟩
 rcases Nat.lt_or_ge W'.heap.size W.heap.size with hl|hl
 ·have:=hb W'.heap.size hl
  rw [Array.getElem?_eq_none (Nat.le_refl _)] at this
  simp [hl] at this
 ·exact hl
theorem block_of_cell {w:World} {a:Addr} {v:Value} (h:w.cell? a=some v):a.spot=none∧∃ l T fr,w.heap[a.block]? =some (.cells l T fr)∧l[a.off]? =some v:=by
 unfold World.cell? at h
 split at h
 ·rename_i c T fr hb
  split at h
  ·cases h
  ·rename_i hs
   exact ⟨by simpa using hs,c,T,fr,hb,h⟩
 ·cases h
theorem ro_of_cells {W:World} {a:Addr} {n c:Nat} {xs:List Value} (hn:n=xs.length) (hb:xs.length≤9223372036854775807)
  (hc:∀ i (h:i<xs.length),W.cell? (a.add i)=some xs[i]):Ro (Cx.of W) ⟨some a,n,c⟩ xs:=by
 refine ⟨hn,hb,fun hne=>?_⟩
 have h0:0<xs.length:=List.length_pos_iff.2 hne
 have hc0:=hc 0 h0
 simp only [Addr.add,if_true] at hc0
 obtain ⟨hs,l,T,fr,hl,_⟩:=block_of_cell hc0
 refine ⟨a.block,a.off,l,T,fr,?_,hl,fun i v hv=>?_⟩
 ·cases a;simp_all
 ·obtain ⟨hi,rfl⟩:=List.getElem?_eq_some_iff.1 hv
  obtain ⟨_,l',T',fr',hl',hx⟩:=block_of_cell (hc i hi)
  have e1:(a.add i).block=a.block:=by unfold Addr.add;split<;>rfl
  have e2:(a.add i).off=a.off + i:=by unfold Addr.add;split<;>simp_all
  rw [e1,hl] at hl'
  cases hl'
  rw [e2] at hx
  exact hx
section
variable {H:Type} {enc:TypeId × Value→H} {P:Program} {W:World} {base:Nat} {spare:Nat→Bool} {held:Bool}
theorem ro_nil {W:World} {c:Nat}:Ro (Cx.of W) ⟨none,0,c⟩ []:=⟨rfl,by simp,fun h=>absurd rfl h⟩
theorem roI_of_trod {t e:TypeId} {fuel:Nat} {a:Option Addr} {n c:Nat} {x:DataW H × List MemPlace} (ht:P.underlying t=some (.slice e)) (he:P.underlying e=some (.int .i64)) (hc:P.cellsOf e=1)
  (h:DataW.trod enc P W base spare held fuel t [.slice a n c]=some x):∃ xs,RoI (Cx.of W) ⟨a,n,c⟩ xs∧∀ z∈xs,-9223372036854775808≤z∧z<9223372036854775808:=by
 rcases open_ints ht he hc h with ⟨hcs,_⟩|⟨x,l,cp,zs,hcs,_,hl,hm,hz,_,hcell,hwz⟩
 ·simp at hcs
  obtain ⟨rfl,rfl,rfl⟩:=hcs
  exact ⟨[],ro_nil,fun z hz=>by cases hz⟩
 ·simp at hcs
  obtain ⟨rfl,rfl,rfl⟩:=hcs
  have hlz:n≤zs.length:=by rw [hz];split<;>omega
  refine ⟨zs.take n,ro_of_cells (by simp;omega) ?_ ?_,fun z hz=>?_⟩
  ·unfold maxLen at hm;simp;omega
  ·intro i hi
   simp at hi
   rw [hcell i (by omega)]
   have:i<zs.length:=by omega
   simp [this]
  ·have:=hwz z (List.mem_of_mem_take hz)
   simp only [Lit.wf] at this
   simp [IntKind.min,IntKind.max,IntKind.bits,IntKind.signed] at this
   omega
end
end Go.VC
/- ROW, part 2: arguments that came in, by their types: what the contracts ask. No condition. -/
namespace Go.VC
set_option linter.unusedVariables false
set_option linter.unusedSimpArgs false
open Go.ChangeShapes Go.WideShapes Go.ChangeAt Go.RowKit
section
variable {H:Type} {enc:TypeId × Value→H} {P:Program} {W:World} {r:Reach} {b0:Nat} {t e:TypeId} {v:Value} {d:DataW H} {p:List MemPlace} {n:Nat}
theorem ints_in (ht:P.underlying t=some (.slice e)) (he:P.underlying e=some (.int .i64)) (hc:P.cellsOf e=1) (hv:Value.okWide P W r b0 t v) (h:DataW.Trod enc P W 0 (fun _=>true) true t v d p):
  ∃ s xs,v=.slice s.a s.len s.cap∧RoI (Cx.of W) s xs∧∀ z∈xs,-9223372036854775808≤z∧z<9223372036854775808:=by
 obtain ⟨a,l,c,rfl⟩:=okWide_slice ht hv
 obtain ⟨fuel,hf⟩:=h
 obtain ⟨xs,hx,hb⟩:=roI_of_trod ht he hc (by simpa [Value.cells] using hf)
 exact ⟨⟨a,l,c⟩,xs,rfl,hx,hb⟩
end
end Go.VC
/- ROW, part 3: arguments of any plain type (integers, bools, floats, strings, slices, structs, arrays of such), read as trees. No condition. -/
namespace Go.VC
set_option linter.unusedVariables false
set_option linter.unusedSimpArgs false
open Go.ChangeShapes Go.WideShapes Go.ChangeAt Go.RowKit
inductive Tr where
 |int (k:IntKind) (n:Int)|bool (b:Bool)|flt (n:Nat)|str (s:ByteArray)|sl (s:Sl) (xs:List Tr)|st (xs:List Tr)
mutual
def Tr.cells:Tr→List Value
 | .int k n=>[.int k n]
 | .bool b=>[.bool b]
 | .flt n=>[.float .f64 n]
 | .str s=>[.string s]
 | .sl s _=>[.slice s.a s.len s.cap]
 | .st xs=>Tr.cellsL xs
def Tr.cellsL:List Tr→List Value
 |[]=>[]
 |x::xs=>x.cells++Tr.cellsL xs
end
inductive U where
 |int (k:IntKind)|bool|flt|str|sl (u:U)|st (us:List U)
mutual
def U.size:U→Nat
 | .st us=>U.sizeL us
 |_=>1
def U.sizeL:List U→Nat
 |[]=>0
 |u::us=>u.size + U.sizeL us
end
mutual
def Tr.Ok (R:Cx):U→Tr→Prop
 | .int k,.int k' n=>k'=k∧(Lit.int k n).wf=true
 | .bool,.bool _=>True
 | .flt,.flt n=>(Lit.float .f64 n).wf=true
 | .str,.str s=>s.size≤maxLen
 | .sl u,.sl s xs=>(RoN u.size R s (xs.map Tr.cells)∧s.len≤s.cap)∧xs.length≤maxLen∧Tr.OkA R u xs
 | .st us,.st xs=>Tr.OkL R us xs
 |_,_=>False
def Tr.OkA (R:Cx) (u:U):List Tr→Prop
 |[]=>True
 |x::xs=>Tr.Ok R u x∧Tr.OkA R u xs
def Tr.OkL (R:Cx):List U→List Tr→Prop
 |[],[]=>True
 |u::us,x::xs=>Tr.Ok R u x∧Tr.OkL R us xs
 |_,_=>False
end
theorem Tr.okA {R:Cx} {u:U}:∀ {xs:List Tr},Tr.OkA R u xs→∀ x∈xs,Tr.Ok R u x
 |[],_,x,hx=>by cases hx
 |y::ys,h,x,hx=>by
  unfold Tr.OkA at h
  rcases List.mem_cons.1 hx with rfl|hx
  ·exact h.1
  ·exact Tr.okA h.2 x hx
theorem Tr.okA_mk {R:Cx} {u:U}:∀ {xs:List Tr},(∀ x∈xs,Tr.Ok R u x)→Tr.OkA R u xs
 |[],_=>by unfold Tr.OkA;trivial
 |y::ys,h=>by
  unfold Tr.OkA
  exact ⟨h y List.mem_cons_self,Tr.okA_mk fun x hx=>h x (List.mem_cons_of_mem _ hx)⟩
def fieldsU (P:Program) (f:TypeId→Option U):Nat→List Field→Option (List U)
 |_,[]=>some []
 |off,x::xs=>match Nat.beq x.offset off with
  |false=>none
  |true=>match f x.type with
   |none=>none
   |some u=>match Nat.beq (P.cellsOf x.type) u.size with
    |false=>none
    |true=>match fieldsU P f (off + u.size) xs with
     |none=>none
     |some us=>some (u::us)
def uOf (P:Program):Nat→TypeId→Option U
 |0,_=>none
 |d + 1,t=>match P.underlying t with
  |some (.int k)=>some (.int k)
  |some .bool=>some .bool
  |some (.float .f64)=>some .flt
  |some .string=>some .str
  |some (.slice e)=>match uOf P d e with
   |some u=>(match Nat.beq (P.cellsOf e) u.size && Nat.blt 0 u.size with|true=>some (.sl u)|false=>none)
   |none=>none
  |some (.struct fs)=>match fieldsU P (uOf P d) 0 fs.toList with
   |some us=>(match Nat.beq (P.cellsOf t) (U.sizeL us) with|true=>some (.st us)|false=>none)
   |none=>none
  |some (.array n e)=>match uOf P d e with
   |some u=>(match Nat.beq (P.cellsOf e) u.size && Nat.beq (P.cellsOf t) (n * u.size) with|true=>some (.st (List.replicate n u))|false=>none)
   |none=>none
  |_=>none
section
variable {H:Type} {enc:TypeId × Value→H} {P:Program} {W:World} {base:Nat} {spare:Nat→Bool} {held:Bool}
def IsTr (R:Cx) (u:U) (cs:List Value):Prop:=∃ x:Tr,x.cells=cs∧x.Ok R u
theorem cells?_cell {w:World} {base:Nat} {a:Addr} {n:Nat} {cs:List Value} (h:w.cells? base a n=some cs):cs.length=n∧∀ i,i<n→w.cell? (a.add i)=cs[i]?:=by
 unfold World.cells? at h
 split at h
 ·refine ⟨by have:=mapM_some_length h;simpa using this,fun i hi=>mapM_some_get h i i (by simp [hi])⟩
 ·cases h
theorem add_add (a:Addr) (i j:Nat) (hs:a.spot=none):(a.add i).add j=⟨a.block,a.off + (i + j),none⟩:=by
 obtain ⟨b,o,s⟩:=a
 simp only at hs
 subst hs
 rw [add_off,add_off,Nat.add_assoc]
theorem fields_read {d:Nat} (ih:∀ {fuel:Nat} {t:TypeId} {cs:List Value} {y:DataW H × List MemPlace} {u:U},uOf P d t=some u→DataW.trod enc P W base spare held fuel t cs=some y→IsTr (Cx.of W) u cs) {n:Nat} {cs:List Value} {xs:List (DataW H × List MemPlace)}:
  ∀ (fs:List Field) (off:Nat) (us:List U),fieldsU P (uOf P d) off fs=some us→(∀ (i:Nat) (f:Field),fs[i]? =some f→∃ y,DataW.trod enc P W base spare held n f.type ((cs.drop f.offset).take (P.cellsOf f.type))=some y)→
   off + U.sizeL us≤cs.length→∃ ts:List Tr,Tr.cellsL ts=(cs.drop off).take (U.sizeL us)∧Tr.OkL (Cx.of W) us ts
 |[],off,us,h,_,_=>by
  simp only [fieldsU,Option.some.injEq] at h
  subst h
  exact ⟨[],by simp [Tr.cellsL,U.sizeL],by unfold Tr.OkL;trivial⟩
 |f::fs,off,us,h,hf,hl=>by
  unfold fieldsU at h
  split at h
  ·cases h
  rename_i hoff
  have hoff:=Nat.eq_of_beq_eq_true hoff
  split at h
  ·cases h
  rename_i u hu
  split at h
  ·cases h
  rename_i hc
  have hc:=Nat.eq_of_beq_eq_true hc
  split at h
  ·cases h
  rename_i us' hus
  cases h
  simp only [U.sizeL] at hl ⊢
  obtain ⟨y,hy⟩:=hf 0 f rfl
  obtain ⟨x,hx,hxo⟩:=ih hu hy
  obtain ⟨ts,hts,htso⟩:=fields_read ih (n:=n) (xs:=xs) fs (off + u.size) us' hus (fun i g hg=>hf (i + 1) g (by simpa using hg)) (by omega)
  refine ⟨x::ts,?_,by unfold Tr.OkL;exact ⟨hxo,htso⟩⟩
  simp only [Tr.cellsL]
  rw [hx,hts,hoff,hc,List.take_add,List.drop_drop]
theorem reps_read {u:U} {n s:Nat}:∀ {m:Nat} {cs:List Value},cs.length=m * s→u.size=s→(∀ i,i<m→IsTr (Cx.of W) u ((cs.drop (i * s)).take s))→∃ ts:List Tr,Tr.cellsL ts=cs∧Tr.OkL (Cx.of W) (List.replicate m u) ts
 |0,cs,hl,_,_=>by
  have:cs=[]:=List.length_eq_zero_iff.1 (by simpa using hl)
  subst this
  exact ⟨[],rfl,by unfold Tr.OkL;trivial⟩
 |m + 1,cs,hl,hs,h=>by
  obtain ⟨x,hx,hxo⟩:=h 0 (by omega)
  obtain ⟨ts,hts,htso⟩:=reps_read (n:=n) (m:=m) (cs:=cs.drop s) (by rw [List.length_drop,hl,Nat.add_mul];omega) hs (fun i hi=>by
   have:=h (i + 1) (by omega)
   rw [Nat.add_mul,Nat.one_mul,Nat.add_comm,←List.drop_drop] at this
   exact this)
  refine ⟨x::ts,?_,by rw [List.replicate_succ];unfold Tr.OkL;exact ⟨hxo,htso⟩⟩
  simp only [Tr.cellsL]
  rw [hx,hts]
  simp
theorem choose_list {α β:Type} {p:Nat→α→Prop}:∀ {n:Nat},(∀ i,i<n→∃ x:α,p i x)→∃ xs:List α,xs.length=n∧∀ i (hi:i<xs.length),p i xs[i]
 |0,_=>⟨[],rfl,fun i hi=>by simp at hi⟩
 |n + 1,h=>by
  obtain ⟨xs,hl,hp⟩:=choose_list (β:=β) (n:=n) fun i hi=>h i (by omega)
  obtain ⟨x,hx⟩:=h n (by omega)
  refine ⟨xs++[x],by simp [hl],fun i hi=>?_⟩
  by_cases h2:i<xs.length
  ·rw [List.getElem_append_left h2];exact hp i h2
  ·have:i=n:=by simp at hi;omega
   subst this
   rw [List.getElem_append_right (by omega)]
   simpa using hx
theorem trod_f64 {fuel:Nat} {t:TypeId} {cs:List Value} {x:DataW H × List MemPlace} (ht:P.underlying t=some (.float .f64)) (h:DataW.trod enc P W base spare held fuel t cs=some x):∃ n,cs=[.float .f64 n]∧(Lit.float .f64 n).wf=true:=by
 cases fuel with
 |zero=>simp [DataW.trod] at h
 |succ n=>
  unfold DataW.trod at h
  rw [ht] at h
  split at h<;>simp_all
theorem tr_read:∀ {d fuel:Nat} {t:TypeId} {cs:List Value} {y:DataW H × List MemPlace} {u:U},uOf P d t=some u→DataW.trod enc P W base spare held fuel t cs=some y→IsTr (Cx.of W) u cs
 |0,_,_,_,_,_,h,_=>by cases h
 |d + 1,fuel,t,cs,y,u,h,hy=>by
  unfold uOf at h
  split at h
  ·rename_i k ht
   cases h
   obtain ⟨n,rfl,_,hw⟩:=DataW.trod_int ht hy
   exact ⟨.int k n,rfl,rfl,hw⟩
  ·rename_i ht
   cases h
   obtain ⟨b,rfl,_⟩:=DataW.trod_bool ht hy
   exact ⟨.bool b,rfl,by unfold Tr.Ok;trivial⟩
  ·rename_i ht
   cases h
   obtain ⟨n,rfl,hn⟩:=trod_f64 ht hy
   exact ⟨.flt n,rfl,by unfold Tr.Ok;exact hn⟩
  ·rename_i ht
   cases h
   obtain ⟨s,rfl,_,hs⟩:=DataW.trod_string ht hy
   exact ⟨.str s,rfl,hs⟩
  ·rename_i e ht
   split at h
   case h_2=>cases h
   rename_i ue hue
   split at h
   case h_2=>cases h
   rename_i hc
   simp only [Bool.and_eq_true] at hc
   have hpos:0<ue.size:=Nat.blt_eq.mp hc.2
   have hc:=Nat.eq_of_beq_eq_true hc.1
   cases h
   rcases DataW.trod_slice ht hy with ⟨rfl,_⟩|⟨a,len,cap,elems,rest,n,_,rfl,_,_,hlc,hcm,hel,helem,_,_⟩
   ·refine ⟨.sl ⟨none,0,0⟩ [],rfl,?_⟩
    unfold Tr.Ok
    exact ⟨⟨⟨Wid.nil,rfl,fun h=>absurd rfl h⟩,Nat.le_refl _⟩,Nat.zero_le _,by unfold Tr.OkA;trivial⟩
   ·obtain ⟨xs,hxl,hxs⟩:=choose_list (β:=Unit) (p:=fun i (x:Tr)=>W.cells? base (a.add (i * P.cellsOf e)) (P.cellsOf e)=some x.cells∧x.Ok (Cx.of W) ue) (n:=len) fun i hi=>by
     have h1:=helem i hi
     rw [List.getElem?_eq_getElem (by omega)] at h1
     obtain ⟨ce,hce,hte⟩:=Option.bind_eq_some_iff.1 h1
     obtain ⟨x,rfl,hx⟩:=tr_read hue hte
     exact ⟨x,hce,hx⟩
    refine ⟨.sl ⟨some a,len,cap⟩ xs,rfl,?_⟩
    unfold Tr.Ok
    have hwid:Wid ue.size (xs.map Tr.cells):=fun r hr=>by
     obtain ⟨x,hx,rfl⟩:=List.mem_map.1 hr
     obtain ⟨i,hi,rfl⟩:=List.getElem_of_mem hx
     have:=(cells?_cell (hxs i hi).1).1
     rw [this,hc]
    refine ⟨⟨⟨hwid,by simp [hxl],fun hne=>?_⟩,hlc⟩,by omega,Tr.okA_mk fun x hx=>by obtain ⟨i,hi,rfl⟩:=List.getElem_of_mem hx;exact (hxs i hi).2⟩
    -- the block
    have h0:0<xs.length:=by
     have:0<(xs.map Tr.cells).length:=List.length_pos_iff.2 hne
     simpa using this
    have hcell:∀ i (hi:i<xs.length) j,j<ue.size→W.cell? ((a.add (i * ue.size)).add j)=(xs[i].cells)[j]?:=fun i hi j hj=>by
     have:=(cells?_cell (hxs i hi).1).2 j (by rw [hc];exact hj)
     rw [hc] at this;exact this
    have hxl0:∀ i (hi:i<xs.length),(xs[i].cells).length=ue.size:=fun i hi=>by rw [(cells?_cell (hxs i hi).1).1,hc]
    have hc0:=hcell 0 h0 0 (by omega)
    rw [List.getElem?_eq_getElem (by rw [hxl0 0 h0];omega)] at hc0
    have hz0:(a.add (0 * ue.size)).add 0=a:=by rw [Nat.zero_mul];simp [Addr.add]
    rw [hz0] at hc0
    obtain ⟨hs,l,T,fr,hl,_⟩:=block_of_cell hc0
    refine ⟨a.block,a.off,l,T,fr,by cases a;simp_all,hl,fun i v hv=>?_⟩
    -- which row, which place
    have hlen:=hwid.len
    rw [List.length_map] at hlen
    have hi:i<(xs.map Tr.cells).flatten.length:=(List.getElem?_eq_some_iff.1 hv).1
    have hq:i / ue.size<xs.length:=by
     rw [hlen] at hi;exact Nat.div_lt_of_lt_mul (by rwa [Nat.mul_comm])
    have hm:i % ue.size<ue.size:=Nat.mod_lt _ (by omega)
    have hcc:=hcell (i / ue.size) hq (i % ue.size) hm
    rw [add_add a _ _ hs,show i / ue.size * ue.size + i % ue.size=i by rw [Nat.mul_comm];exact Nat.div_add_mod _ _] at hcc
    have e1:(xs.map Tr.cells).flatten[i]? =(xs[i / ue.size].cells)[i % ue.size]?:=by
     have h1:i=i / ue.size * ue.size + i % ue.size:=by rw [Nat.mul_comm];exact (Nat.div_add_mod _ _).symm
     conv=>lhs;rw [h1]
     rw [←List.getElem?_drop,hwid.drop_flat,List.drop_eq_getElem_cons (by simpa using hq),List.flatten_cons,List.getElem?_append_left (by rw [List.getElem_map,hxl0 _ hq];exact hm),List.getElem_map]
    rw [←e1,hv] at hcc
    simp only [World.cell?,hl,Option.isSome_none,Bool.false_eq_true,if_false] at hcc
    exact hcc
  ·rename_i fs ht
   split at h
   case h_2=>cases h
   rename_i us hus
   split at h
   case h_2=>cases h
   rename_i hc
   have hc:=Nat.eq_of_beq_eq_true hc
   cases h
   obtain ⟨xs,n,_,_,hl,hxl,hf⟩:=DataW.trod_struct ht hy
   obtain ⟨ts,hts,hto⟩:=fields_read (d:=d) (fun h h2=>tr_read h h2) (n:=n) (cs:=cs) (xs:=xs) fs.toList 0 us hus (fun i f hfi=>by
    have hfi2:fs[i]? =some f:=by simpa using hfi
    have hlt:i<xs.length:=by rw [hxl];exact (Array.getElem?_eq_some_iff.1 hfi2).1
    exact ⟨xs[i],by rw [hf i f hfi2];exact List.getElem?_eq_getElem hlt⟩) (by omega)
   refine ⟨.st ts,?_,by unfold Tr.Ok;exact hto⟩
   unfold Tr.cells
   rw [hts,List.drop_zero,List.take_of_length_le (by omega)]
  ·rename_i m e ht
   split at h
   case h_2=>cases h
   rename_i ue hue
   split at h
   case h_2=>cases h
   rename_i hc
   simp only [Bool.and_eq_true] at hc
   have hc1:=Nat.eq_of_beq_eq_true hc.1
   have hc2:=Nat.eq_of_beq_eq_true hc.2
   cases h
   obtain ⟨xs,n,_,_,hl,hxl,hf⟩:=DataW.trod_array ht hy
   obtain ⟨ts,hts,hto⟩:=reps_read (n:=n) (u:=ue) (s:=ue.size) (m:=m) (cs:=cs) (by rw [hl,hc2]) rfl (fun i hi=>by
    have:=hf i hi
    rw [hc1,List.getElem?_eq_getElem (by omega)] at this
    exact tr_read hue this)
   exact ⟨.st ts,by unfold Tr.cells;exact hts,by unfold Tr.Ok;exact hto⟩
  ·cases h
theorem tr_arg {d:Nat} {t:TypeId} {v:Value} {dt:DataW H} {p:List MemPlace} {u:U} (hu:uOf P d t=some u) (h:DataW.Trod enc P W base spare held t v dt p):IsTr (Cx.of W) u v.cells.toList:=by
 obtain ⟨fuel,hf⟩:=h
 exact tr_read hu hf
theorem sl_form {α:Type} {R:Cx} {u:U} {s:Sl} {xs:List Tr} (g:α→List Value) (Q:α→Prop) (ho:Tr.Ok R (.sl u) (.sl s xs)) (h:∀ x:Tr,x.Ok R u→∃ e:α,x.cells=g e∧Q e):
  ∃ es:List α,RoN u.size R s (es.map g)∧es.length≤maxLen∧∀ e∈es,Q e:=by
 unfold Tr.Ok at ho
 obtain ⟨⟨h1,_⟩,h2,h3⟩:=ho
 have key:∀ l:List Tr,(∀ x∈l,x.Ok R u)→∃ es:List α,l.map Tr.cells=es.map g∧es.length=l.length∧∀ e∈es,Q e:=fun l=>by
  induction l with
  |nil=>exact fun _=>⟨[],rfl,rfl,fun _ h=>by cases h⟩
  |cons x l ih=>
   intro hl
   obtain ⟨es,h1,h2,h3⟩:=ih fun y hy=>hl y (List.mem_cons_of_mem _ hy)
   obtain ⟨e,he,hq⟩:=h x (hl x List.mem_cons_self)
   exact ⟨e::es,by rw [List.map_cons,List.map_cons,he,h1],by simp [h2],fun y hy=>by
    rcases List.mem_cons.1 hy with rfl|hy
    ·exact hq
    ·exact h3 y hy⟩
 obtain ⟨es,e1,e2,e3⟩:=key xs (Tr.okA h3)
 rw [e1] at h1
 exact ⟨es,h1,by omega,e3⟩
theorem sl_cap {R:Cx} {u:U} {s:Sl} {xs:List Tr} (ho:Tr.Ok R (.sl u) (.sl s xs)):s.len≤s.cap:=by
 unfold Tr.Ok at ho
 exact ho.1.2
theorem RoN.one {R:Cx} {s:Sl} {vs:List Value} (h:RoN 1 R s (vs.map fun v=>[v])) (hb:vs.length≤maxLen):Ro R s vs:=by
 refine ⟨by have:=h.len;simpa using this,by unfold maxLen at hb;omega,fun hne=>?_⟩
 obtain ⟨b,off,l,T,fr,h1,h2,h3⟩:=h.mem (by simpa using hne)
 refine ⟨b,off,l,T,fr,h1,h2,fun i v hv=>h3 i v ?_⟩
 have:(vs.map fun v=>[v]).flatten=vs:=by
  clear h3 h hb hne hv
  induction vs with
  |nil=>rfl
  |cons v vs ih=>simp [ih]
 rw [this];exact hv
theorem ints_form {R:Cx} {k:IntKind} {s:Sl} {xs:List Tr} (ho:Tr.Ok R (.sl (.int k)) (.sl s xs)):∃ zs:List Int,Ro R s (zs.map (Value.int k))∧zs.length≤maxLen∧∀ z∈zs,(Lit.int k z).wf=true:=by
 obtain ⟨zs,h1,h2,h3⟩:=sl_form (fun z:Int=>[Value.int k z]) (fun z=>(Lit.int k z).wf=true) ho fun x hx=>by
  cases x<;>simp only [Tr.Ok] at hx
  rename_i k' z
  obtain ⟨rfl,hw⟩:=hx
  exact ⟨z,rfl,hw⟩
 refine ⟨zs,RoN.one ?_ (by simpa using h2),h2,h3⟩
 rw [List.map_map]
 exact h1
end
end Go.VC
/- ROW, part 4: how large what is handed may be. No condition. -/
namespace Go.VC
set_option linter.unusedVariables false
set_option linter.unusedSimpArgs false
open Go.ChangeShapes Go.WideShapes Go.ChangeAt Go.RowKit
variable {H:Type} {enc:TypeId × Value→H} {P:Program} {W:World} {base:Nat} {spare:Nat→Bool} {held:Bool}
def Light (P:Program) (t:TypeId) (d:DataW H):Prop:=∀ k∈d.weights P t,k≤reachBytes
theorem light_arg {ts:List TypeId} {ds:List (DataW H)} {j:Nat} {t:TypeId} {d:DataW H} (h:(DataW.weightsEach P ts ds).all (·≤reachBytes)=true) (ht:ts[j]? =some t) (hd:ds[j]? =some d):Light P t d:=fun k hk=>by
 have:=List.all_eq_true.1 h _ (DataW.weights_mem_each ht hd k hk)
 simpa using this
theorem light_slice {fuel:Nat} {t e:TypeId} {a:Option Addr} {n c:Nat} {d:DataW H} {p:List MemPlace} (ht:P.underlying t=some (.slice e)) (h:DataW.trod enc P W base spare held fuel t [.slice a n c]=some (d,p)) (hw:Light P t d):n * P.bytesOf e≤reachBytes:=by
 rcases DataW.trod_slice ht h with ⟨h1,_⟩|⟨a',len,cap,elems,rest,m,_,h1,h2,_,_,_,hel,_⟩
 ·simp only [List.cons.injEq,Value.slice.injEq,and_true] at h1
  rw [h1.2.1]
  omega
 ·simp only [List.cons.injEq,Value.slice.injEq,and_true] at h1
  have hd:d=.slice (elems.map (·.1)) (rest.map (·.1)):=congrArg Prod.fst h2
  have:=hw ((elems.length + rest.length) * P.bytesOf e) (by rw [hd];simp [DataW.weights,ht])
  rw [h1.2.1,←hel]
  exact Nat.le_trans (Nat.mul_le_mul_right _ (by omega)) this
theorem light_field {fuel:Nat} {t T:TypeId} {fs:Array Field} {cs:List Value} {d:DataW H} {p:List MemPlace} (i off n:Nat) (ht:P.underlying t=some (.struct fs)) (h:DataW.trod enc P W base spare held fuel t cs=some (d,p)) (hw:Light P t d)
  (hf:(fs[i]?).map (fun f=>(f.type,f.offset))=some (T,off)) (hn:P.cellsOf T=n):∃ (fuel':Nat) (d':DataW H) (p':List MemPlace),DataW.trod enc P W base spare held fuel' T ((cs.drop off).take n)=some (d',p')∧Light P T d':=by
 obtain ⟨xs,m,_,hx,_,hl,hxs⟩:=DataW.trod_struct ht h
 cases hfi:fs[i]? with
 |none=>rw [hfi] at hf;cases hf
 |some f=>
  rw [hfi] at hf
  simp only [Option.map_some,Option.some.injEq,Prod.mk.injEq] at hf
  obtain ⟨rfl,rfl⟩:=hf
  have hlt:i<xs.length:=by rw [hl];exact (Array.getElem?_eq_some_iff.1 hfi).1
  have h2:=hxs i f hfi
  rw [List.getElem?_eq_getElem hlt,hn] at h2
  refine ⟨m,xs[i].1,xs[i].2,h2,fun k hk=>hw k ?_⟩
  have hd:d=.agg (xs.map (·.1)):=congrArg Prod.fst hx
  rw [hd]
  simp only [DataW.weights,ht]
  refine DataW.weights_mem_each (j:=i) (t:=f.type) (d:=xs[i].1) ?_ ?_ k hk
  ·rw [List.getElem?_map,Array.getElem?_toList,hfi];rfl
  ·rw [List.getElem?_map,List.getElem?_eq_getElem hlt];rfl
theorem reach_eq:reachBytes=140737488351232:=rfl
end Go.VC
/- The arguments that are lists of entries; the table that is laid. No condition. -/
namespace Go.Proofs.YtkfedbncmfnpnaaGreatDoor
set_option linter.unusedVariables false
set_option linter.unusedSimpArgs false
open Go Go.VC Go.ChangeShapes Go.WideShapes Go.ChangeAt Go.RowKit
variable {H:Type} {enc:TypeId × Value→H} {P:Program} {W:World} {r:Reach} {b0:Nat} {v:Value} {d:DataW H} {p:List MemPlace} {spare:Nat→Bool} {held:Bool}
theorem weights_mem_all {e:TypeId}:∀ {ds:List (DataW H)} {d:DataW H},d∈ds→∀ n∈d.weights P e,n∈DataW.weightsAll P e ds
 |x::ds,d,hd,n,hn=>by
  unfold DataW.weightsAll
  rcases List.mem_cons.1 hd with rfl|hd
  ·exact List.mem_append_left _ hn
  ·exact List.mem_append_right _ (weights_mem_all hd n hn)
theorem light_elem {fuel:Nat} {t e:TypeId} {a:Option Addr} {n c:Nat} (ht:P.underlying t=some (.slice e)) (h:DataW.trod enc P W b0 spare held fuel t [.slice a n c]=some (d,p)) (hw:Light P t d) {k:Nat} (hk:k<n):
  ∃ a' cs fuel' d' p',a=some a'∧W.cells? b0 (a'.add (k * P.cellsOf e)) (P.cellsOf e)=some cs∧DataW.trod enc P W b0 spare held fuel' e cs=some (d',p')∧Light P e d':=by
 rcases DataW.trod_slice ht h with ⟨h1,_⟩|⟨a',len,cap,elems,rest,m,_,h1,h2,_,_,_,hel,hall,_⟩
 ·simp only [List.cons.injEq,Value.slice.injEq,and_true] at h1
  omega
 ·simp only [List.cons.injEq,Value.slice.injEq,and_true] at h1
  obtain ⟨ha,hn,_⟩:=h1
  have hke:k<elems.length:=by omega
  have h3:=hall k (by omega)
  rw [List.getElem?_eq_getElem hke,Option.bind_eq_some_iff] at h3
  obtain ⟨cs,h3,h4⟩:=h3
  have hd:d=.slice (elems.map (·.1)) (rest.map (·.1)):=congrArg Prod.fst h2
  refine ⟨a',cs,m,elems[k].1,elems[k].2,ha,h3,h4,fun q hq=>hw q ?_⟩
  rw [hd]
  simp only [DataW.weights,ht]
  exact List.mem_cons_of_mem _ (List.mem_append_left _ (weights_mem_all (List.mem_map_of_mem (List.getElem_mem hke)) q hq))
structure EsR (R:Cx) (s:Sl) (dl:List DE4):Prop where
 rows:RoN 4 R s (dl.map eRow)
 each:DsR R dl
 by':∀ e∈erE dl,∀ y∈e.dt,0≤y∧y<256
 cap:s.len≤s.cap
abbrev entU:U:=.st [.int .i64,.int .i64,.int .i64,.sl (.int .u8)]
theorem ent_form {R:Cx} {x:Tr} (ho:x.Ok R entU):∃ e:DE4,x.cells=eRow e∧SlR R.m e.1 (b8 e.2.dt)∧∀ y∈e.2.dt,0≤y∧y<256:=by
 cases x<;>simp only [Tr.Ok] at ho
 rename_i xs
 match xs,ho with
 |[x0,x1,x2,x3],ho=>
  simp only [Tr.OkL,and_true] at ho
  obtain ⟨h0,h1,h2,h3⟩:=ho
  cases x0<;>simp only [Tr.Ok] at h0
  rename_i k0 n0
  obtain ⟨rfl,_⟩:=h0
  cases x1<;>simp only [Tr.Ok] at h1
  rename_i k1 n1
  obtain ⟨rfl,_⟩:=h1
  cases x2<;>simp only [Tr.Ok] at h2
  rename_i k2 n2
  obtain ⟨rfl,_⟩:=h2
  cases x3<;>simp only [Tr.Ok] at h3
  rename_i sd dx
  have h3:Tr.Ok R (.sl (.int .u8)) (.sl sd dx):=by unfold Tr.Ok;exact h3
  obtain ⟨bs,a1,_,a3⟩:=ints_form h3
  refine ⟨(sd,⟨n0,n1,n2,bs⟩),rfl,⟨a1.len,sl_cap h3,a1.mem⟩,fun z hz=>?_⟩
  have:=a3 z hz
  simp [Lit.wf,IntKind.min,IntKind.max,IntKind.bits,IntKind.signed] at this
  omega
theorem ents_light {s:Sl} {dl:List DE4} (h:DataW.Trod enc Tryz.prog W 0 (fun _=>true) true 40 (.slice s.a s.len s.cap) d p) (hw:Light Tryz.prog 40 d) (hr:EsR (Cx.of W) s dl):∀ e∈dl,e.2.dt.length≤140737488351232:=fun e he=>by
 obtain ⟨k,hk,rfl⟩:=List.mem_iff_getElem.1 he
 obtain ⟨fuel,h⟩:=h
 have h:DataW.trod enc Tryz.prog W 0 (fun _=>true) true fuel 40 [.slice s.a s.len s.cap]=some (d,p):=h
 have hl:=hr.rows.len
 rw [List.length_map] at hl
 obtain ⟨a',cs,f1,d1,p1,ha,hc,h1,w1⟩:=light_elem Tryz.underlying40 h hw (k:=k) (by omega)
 have hce:Tryz.prog.cellsOf 55=4:=by kernel_rfl
 rw [hce] at hc
 obtain ⟨hcl,hcc⟩:=cells?_cell hc
 obtain ⟨b,off,hb,hat⟩:=(hr.rows.reads (eqS (Sat.start W))).2 k (by simpa using hk)
 have hat:=hat 3 [.slice dl[k].1.a dl[k].1.len dl[k].1.cap] (by rw [List.getElem_map];exact ⟨rfl,trivial⟩) W rfl 0 _ rfl
 rw [ha] at hb
 obtain rfl:=Option.some.inj hb
 have h3:cs[3]? =some (.slice dl[k].1.a dl[k].1.len dl[k].1.cap):=by
  rw [←hcc 3 (by omega)]
  simpa [add_off,Nat.add_assoc] using hat
 obtain ⟨f2,d2,p2,h2,w2⟩:=light_field (T:=53) 3 3 1 Tryz.underlying55 h1 w1 (by kernel_rfl) (by kernel_rfl)
 have hcd:(cs.drop 3).take 1=[.slice dl[k].1.a dl[k].1.len dl[k].1.cap]:=by
  match cs,hcl,h3 with
  |[c0,c1,c2,c3],_,h3=>simp at h3;simp [h3]
 rw [hcd] at h2
 have h4:=light_slice Tryz.underlying53 h2 w2
 rw [show Tryz.prog.bytesOf 5=1 by kernel_rfl,reach_eq] at h4
 have:=hr.each.len he
 omega
theorem powR_of (W : World) (h : Lib.TabIs Tryz.prog W "internal/strconv.uint64pow10" .u64 Lib.pow10Tab) : PowR (Cx.of W) := fun Hs w hw => by
 have key:∀ {Hs:List HP} {R:Cx},Sat R Hs w→∀ b o,R.m b=some o→w.heap[b]? =some o:=fun {Hs}=>by
  induction Hs with
  |nil=>exact fun h=>h.1
  |cons H Hs ih=>
   intro R h b o hb
   obtain ⟨g,_,_,h⟩:=h
   refine ih h b o ?_
   simp only [Cx.add,Heap.add,hb]
 unfold Lib.TabIs World.var? at h ⊢
 rw [Option.bind_eq_some_iff] at h
 obtain ⟨g,hg,h⟩:=h
 rw [hg,Option.bind_some]
 split at h
 ·rename_i cs T fr hh
  have:=key hw g _ (show (Cx.of W).m g=_ from hh)
  rw [this]
  exact h
 ·cases h
theorem pow_laid {l1 l2 : String × DataW Unit} {rest : List (String × DataW Unit)} (h : laidMet Tryz.prog (l1 :: l2 :: ("internal/strconv.uint64pow10", Lib.tabData .u64 Lib.pow10Tab) :: rest) W) : PowR (Cx.of W) :=
 powR_of W (Lib.tabIs_of_head (g:=0) (t:=250) (e:=148) (n:=20) (by kernel_rfl) (by kernel_rfl) (by kernel_rfl) (by kernel_rfl) (by kernel_rfl) (by kernel_rfl) h.tail.tail)
theorem wf_bd {n:Int} (h:(Lit.int .i64 n).wf=true): -9223372036854775808≤n∧n<9223372036854775808:=by
 simp [Lit.wf,IntKind.min,IntKind.max,IntKind.bits,IntKind.signed] at h
 omega
end Go.Proofs.YtkfedbncmfnpnaaGreatDoor
/- A log on a disk that only grew, behind a crash: what is found; plain. No program. Condition: none. -/
namespace Go.Proofs.YtkfedbncmfnpnaaGreatDoor
set_option linter.unusedVariables false
set_option linter.unusedSimpArgs false
open Go Go.VC
def AllS (st:DS) (n:Nat) (i:Int) (ess:List (List Ey)):Prop:=∀ c∈mkC n i ess,getM (segName c.num) st.fs=some ⟨c.bytes,c.bytes.length⟩
theorem updM_get_ne {β:Type} {k k2:ByteArray} {g:β→β} (h:k2≠k) {l:List (ByteArray × β)}:getM k (updM k2 g l)=getM k l:=getM_upd_ne h.symm
theorem crashL_one {k:ByteArray}:∀ (ks:List ByteArray) (keep:List Int) {fs:Fs} {f:Fl},getM k fs=some f→f.sure≤f.b.length→∃ m,f.sure≤m∧m≤f.b.length∧(getM k (crashL ks keep fs)=some ⟨f.b.take m,m⟩∨getM k (crashL ks keep fs)=some f)
 |[],keep,fs,f,h,hs=>⟨f.b.length,hs,Nat.le_refl _,.inr h⟩
 |k2::ks,keep,fs,f,h,hs=>by
  rw [crashL]
  by_cases hk:k2=k
  ·subst hk
   have hst:=stay_le keep.head? f hs
   obtain ⟨m,h1,h2,h3⟩:=crashL_one ks keep.tail (getM_upd (g:=cutF keep.head?) h) (by unfold cutF;simp only [List.length_take];omega)
   unfold cutF at h1 h2 h3
   simp only [List.length_take] at h1 h2
   refine ⟨m,by omega,by omega,?_⟩
   have hm:m=f.sure + stay keep.head? f:=by omega
   left
   rw [hm]
   rcases h3 with h3|h3
   ·refine h3.trans ?_
    rw [hm];simp [List.take_take]
   ·exact h3
  ·exact crashL_one ks keep.tail (by rw [updM_get_ne hk];exact h) hs
theorem getM_keys {fs fs':Fs} (h:fs'.map (·.1)=fs.map (·.1)) {k:ByteArray} (hk:getM k fs'≠none):getM k fs≠none:=fun hn=>by
 obtain ⟨v,hv⟩:=Option.ne_none_iff_exists'.1 hk
 obtain ⟨a,b,hab,_⟩:=getM_split hv
 have:k∈fs.map (·.1):=by rw [←h,hab];simp
 exact notin_of_getM hn this
end Go.Proofs.YtkfedbncmfnpnaaGreatDoor
/- The law WalBack. Condition: the library's table of powers is laid. -/
namespace Go.Proofs.YtkfedbncmfnpnaaGreatDoor
set_option linter.unusedVariables false
set_option linter.unusedSimpArgs false
open Go Go.VC
variable {R R':Cx} {Hs Rest:List HP} {w:World} {p d:Nat} {x:WSt} {s sg:Sl} {ds:List DE4} {st:DS}
theorem by_crashW {st:DS} (h:ByOk st.fs) (keep:List Int):ByOk (crashD st keep).fs:=by
 have key:∀ (ks:List ByteArray) (keep:List Int) (fs:Fs),ByOk fs→ByOk (crashL ks keep fs):=fun ks=>by
  induction ks with
  |nil=>exact fun _ _ h=>h
  |cons k ks ih=>exact fun keep fs h=>ih _ _ (by_upd h fun f hf x hx=>hf x (List.mem_of_mem_take hx))
 exact key _ _ _ h
end Go.Proofs.YtkfedbncmfnpnaaGreatDoor
/- A log on a disk, behind a crash: segments of any records; plain. No program. Condition: none. -/
namespace Go.Proofs.YtkfedbncmfnpnaaGreatDoor
set_option linter.unusedVariables false
set_option linter.unusedSimpArgs false
open Go Go.VC
structure OnD (st:DS) (av:List Sc) (c:Sc) (k:Nat):Prop where
 inv:Inv st
 old:∀ s∈av,getM (segName s.num) st.fs=some ⟨s.bytes,s.bytes.length⟩
 last:getM (segName c.num) st.fs=some ⟨c.bytes,k⟩
 only:∀ q,getM q st.fs≠none→∃ s∈av++[c],q=segName s.num
theorem OnD.kl {st:DS} {av:List Sc} {c:Sc} {k:Nat} (o:OnD st av c k):k≤c.bytes.length:=by
 obtain ⟨a,b,hab,_⟩:=getM_split o.last
 exact o.inv.sure (segName c.num,⟨c.bytes,k⟩) (by rw [hab];simp)
theorem OnD.fs {st st':DS} {av:List Sc} {c:Sc} {k:Nat} (o:OnD st av c k) (i:Inv st') (h:st'.fs=st.fs):OnD st' av c k:=
 ⟨i,by rw [h];exact o.old,by rw [h];exact o.last,by rw [h];exact o.only⟩
theorem chain_det:∀ {cs:List Sc} {p:Option Nat} {g a b:Lg},Chain p g cs a→Chain p g cs b→a=b
 |[],p,g,a,b,h1,h2=>by cases h1;cases h2;rfl
 |c::cs,p,g,a,b,h1,h2=>by
  cases h1 with
  |first ho hl hr hc=>
   cases h2 with
   |first _ _ hr2 hc2=>
    rw [hr] at hr2
    cases hr2
    exact chain_det hc hc2
  |more ho hn hx hr hc=>
   cases h2 with
   |more _ _ _ hr2 hc2=>
    rw [hr] at hr2
    cases hr2
    exact chain_det hc hc2
theorem unlink_calm {st:DS} (c:Calm st) {k:ByteArray} {f:Fl} (hk:nameOk k=true) (hf:getM k st.fs=some f):(unlinkD st k).2=0:=by
 unfold unlinkD
 rw [hk,doing_calm c]
 unfold unlinkG
 rw [hf,if_pos (show (some f).isSome=true from rfl)]
structure OnC (st:DS) (av:List Sc) (c:Sc) (k m:Nat):Prop where
 inv:Inv st
 calm:Calm st
 old:∀ s∈av,readD st (segName s.num)=(s.bytes,0)
 last:∃ s,getM (segName c.num) st.fs=some ⟨c.bytes.take m,s⟩
 km:k≤m
 mc:m≤c.bytes.length
 nums:numsOf (namesOf st.fs)=av.map (·.num)++[c.num]
 scr:scratchN ∉ namesOf st.fs
theorem OnD.crash {st:DS} {av:List Sc} {c:Sc} {k:Nat} {g:Lg} (o:OnD st av c k) (hc:Chain none ⟨0,[]⟩ (av++[c]) g) (keep:List Int):∃ m,OnC (crashD st keep) av c k m:=by
 obtain ⟨st4,hst4⟩:∃ s,s=crashD st keep:=⟨_,rfl⟩
 have hkeys:st4.fs.map (·.1)=st.fs.map (·.1):=by rw [hst4];exact crashL_keys _ _ _
 have hold4:∀ c∈av,getM (segName c.num) st4.fs=some ⟨c.bytes,c.bytes.length⟩:=fun c hc=>by rw [hst4];exact crashL_get _ _ (o.old c hc)
 obtain ⟨m,s4,hm1,hm2,hlast4⟩:∃ m s,k≤m∧m≤c.bytes.length∧getM (segName c.num) st4.fs=some ⟨c.bytes.take m,s⟩:=by
  obtain ⟨m,h1,h2,h3⟩:=crashL_one (namesOf st.fs) keep o.last o.kl
  simp only at h1 h2 h3
  rcases h3 with h3|h3
  ·exact ⟨m,m,h1,h2,by rw [hst4];exact h3⟩
  ·exact ⟨_,_,o.kl,Nat.le_refl _,by rw [hst4,List.take_length];exact h3⟩
 have i4:Inv st4:=by rw [hst4];exact crash_inv o.inv keep
 have c4:Calm st4:=by rw [hst4];exact crash_calm _ _
 rw [←hst4]
 have hperm:st4.fs.Perm (segFs (fOf st4) (av++[c])):=by
  have hu:=segFs_uni (f:=fOf st4) hc.nums.2 fun c hm=>(chain_bd hc c hm).2
  refine perm_of_get i4.uni hu fun q=>?_
  rcases hg:getM q (segFs (fOf st4) (av++[c])) with _|v
  ·rcases hk:getM q st4.fs with _|v
   ·rfl
   ·exfalso
    obtain ⟨c',hm,rfl⟩:=o.only q (getM_keys hkeys (by rw [hk];simp))
    have:=getM_of_mem hu (List.mem_map_of_mem (f:=fun c=>(segName c.num,fOf st4 c)) hm)
    rw [hg] at this;cases this
  ·obtain ⟨x,y,hxy,_⟩:=getM_split hg
   have hm:(q,v)∈segFs (fOf st4) (av++[c]):=by rw [hxy];simp
   obtain ⟨c',hmc,he⟩:=List.mem_map.1 hm
   cases he
   unfold fOf
   rcases List.mem_append.1 hmc with hmc|hmc
   ·rw [hold4 c' hmc];rfl
   ·rw [List.mem_singleton.1 hmc,hlast4];rfl
 have hnums:=seg_nums hperm hc.nums.2 (chain_bd hc)
 rw [List.map_append] at hnums
 exact ⟨m,i4,c4,fun s hs=>by rw [read_get c4.off (seg_nameOk _) (hold4 s hs)],⟨s4,hlast4⟩,hm1,hm2,hnums,seg_noscratch hperm hc.nums.2 fun c hm=>(chain_bd hc c hm).2⟩
structure FoundL (st:DS) (lim:Int) (g:Lg) (segs:List Sg):Prop where
 err:openErr st lim=0
 got:openedW st=⟨g,segs⟩
theorem crash_load {st st4:DS} {av:List Sc} {c:Sc} {k m:Nat} {g:Lg} {lim:Int} (o:OnC st4 av c k m) (hc:Chain none ⟨0,[]⟩ (av++[c]) g) (hk:(headB c.num c.next).length≤k) (h2:32≤lim) (h3:lim≤65536) (hr:2 * total st4.fs≤st4.room):
  ∃ j g3,j≤c.bs.length∧(∀ i,i≤c.bs.length→scanLen (hdB c.num c.next::c.bs.take i)≤k→i≤j)∧Chain none ⟨0,[]⟩ (av++[⟨c.num,c.next,c.bs.take j⟩]) g3∧FoundL st4 lim g3 (List.map Sc.sg (av++[⟨c.num,c.next,c.bs.take j⟩])):=by
 obtain ⟨g1,hca,hcl⟩:=hc.split
 obtain ⟨s4,hlast4⟩:=o.last
 have hrd1:∀ c∈av,(readD st4 (segName c.num)).1=c.bytes:=fun c hc=>by rw [o.old c hc]
 have hrd2:(readD st4 (segName c.num)).1=c.bytes.take m:=by rw [read_get o.calm.off (seg_nameOk _) hlast4]
 have hl1:=load_chain (rd:=fun n=>(readD st4 (segName n)).1) (segs:=[]) (rest:=[c.num]) hca hrd1
 have hld:loadD st4=loadL (fun n=>(readD st4 (segName n)).1) (lastNum none av) g1 (av.map Sc.sg) [c.num]:=by
  unfold loadD
  rw [o.nums]
  simpa using hl1
 have hoC:c.Ok:=hc.ok c (by simp)
 obtain ⟨g1',hp',hx',hg',hrun,hre⟩:∃ g1':Lg,(lastNum none av=none∨(lastNum none av).map (· + 1)=some c.num)∧(lastNum none av≠none→c.next=g1.last + 1)∧
   (if lastNum none av=none then (⟨c.next - 1,g1.l⟩:Lg) else g1)=g1'∧runs g1' c.bs=some g∧∀ (j:Nat) (g3:Lg),runs g1' (c.bs.take j)=some g3→Chain (lastNum none av) g1 [⟨c.num,c.next,c.bs.take j⟩] g3:=by
  have hoj:∀ j,(⟨c.num,c.next,c.bs.take j⟩:Sc).Ok:=fun j=>⟨hoC.n0,hoC.n1,hoC.x0,hoC.x1,fun b hb=>hoC.bs b (List.mem_of_mem_take hb)⟩
  generalize lastNum none av=p at hcl ⊢
  cases hcl with
  |first ho hl hr hc=>cases hc;exact ⟨_,.inl rfl,fun h=>absurd rfl h,by rw [if_pos rfl,hl],hr,fun j g3 h=>.first (hoj j) hl h .nil⟩
  |more ho hn hx hr hc=>cases hc;exact ⟨_,.inr (by simp only [Option.map_some];rw [←hn]),fun _=>hx,if_neg (by simp),hr,fun j g3 h=>.more (hoj j) hn hx h .nil⟩
 have hcut:=load_cut (rd:=fun n=>(readD st4 (segName n)).1) (segs:=av.map Sc.sg) (k:=m) hoC hp' hx' hg' hrun hrd2
 have ho:¬ (lim<32∨lim>65536):=by omega
 have hkm:=o.km
 rcases hcut with ⟨_,hk'⟩|⟨j,g3,hj,hr3,hmax,hle,hcase⟩
 ·exfalso;omega
 ·refine ⟨j,g3,hj,fun i hi hs=>hmax i hi (by omega),hca.app (hre j g3 hr3),?_⟩
  obtain ⟨c',hc'⟩:∃ c':Sc,c'=⟨c.num,c.next,c.bs.take j⟩:=⟨_,rfl⟩
  have hsl3:scanLen (hdB c.num c.next::c.bs.take j)=c'.bytes.length:=by rw [hc'];exact (recsB_len _).symm
  have hsegs:(av++[c']).map Sc.sg=av.map Sc.sg++[⟨c.num,c.next,c'.bytes.length⟩]:=by rw [List.map_append,hc'];rfl
  rw [←hc',hsegs]
  rw [hsl3] at hcase hle
  rcases hcase with ⟨e1,_,e3⟩|e3
  ·have hl4:loadD st4=⟨g3,av.map Sc.sg++[⟨c.num,c.next,c'.bytes.length⟩],none,[]⟩:=by
    rw [hld]
    rw [←e1] at e3
    exact e3
   have hrec:recoverD st4=(st4,0):=by
    unfold recoverD
    simp only [hl4,if_neg o.scr,thenD,if_true,unlinksD]
    rw [if_neg (by simp)]
   refine ⟨?_,?_⟩
   ·unfold openErr
    rw [if_neg ho,o.calm.off,hrec];rfl
   ·unfold openedW
    simp only [hl4]
    rw [if_neg (by simp)]
  ·have hl4:loadD st4=⟨g3,av.map Sc.sg++[⟨c.num,c.next,((readD st4 (segName c.num)).1.length:Int)⟩],some ⟨c.num,c.next,c'.bytes.length⟩,[]⟩:=by
    rw [hld]
    exact e3
   have hin:inSegs (av.map Sc.sg++[⟨c.num,c.next,((readD st4 (segName c.num)).1.length:Int)⟩]) c.num=true:=by unfold inSegs;simp
   have hrd0:(readD st4 (segName c.num)).2=0:=by rw [read_get o.calm.off (seg_nameOk _) hlast4]
   have hx0:=hoC.x0
   have hcond:¬ (c.next=0∨inSegs (av.map Sc.sg++[⟨c.num,c.next,((readD st4 (segName c.num)).1.length:Int)⟩]) c.num=false):=fun h=>h.elim (fun h=>by omega) (fun h=>by rw [hin] at h;cases h)
   obtain ⟨bb,hbb⟩:∃ bb,bb=(readD st4 (segName c.num)).1.take (c'.bytes.length:Int).toNat:=⟨_,rfl⟩
   have hbt:(bb.length:Int)≤total st4.fs:=by
    have:=total_le hlast4
    rw [hbb,hrd2]
    simp only [List.length_take] at this ⊢
    omega
   obtain ⟨g1,g2,g3',g4⟩:=append_calm o.calm (k:=scratchN) (xs:=bb) scratch_nameOk (by omega)
   have hgs:=append_new (notin_names.1 o.scr) g1
   obtain ⟨j1,j2,j3,j4⟩:=sync_calm g2 scratch_nameOk hgs
   have hne:scratchN≠segName c.num:=fun he=>seg_ne_scratch _ he.symm
   obtain ⟨l1,_,_,_⟩:=rename_calm j2 (sync_inv (appendD_inv o.inv _ _) _).uni hne scratch_nameOk (seg_nameOk c.num) (sync_done hgs j1)
   have hmend:(mendD st4 (av.map Sc.sg++[⟨c.num,c.next,((readD st4 (segName c.num)).1.length:Int)⟩]) ⟨c.num,c.next,c'.bytes.length⟩).2=0:=by
    unfold mendD
    simp only
    rw [if_neg hcond,if_neg (by rw [hrd0];simp),←hbb,thenD_ok g1,thenD_ok j1]
    exact l1
   have hrec:(recoverD st4).2=0:=by
    unfold recoverD
    simp only [hl4,if_neg o.scr]
    rw [thenD_ok (x:=(st4,0)) rfl,thenD_ok hmend]
    simp only [unlinksD]
    rw [thenD_ok rfl,if_neg (by simp)]
   refine ⟨?_,?_⟩
   ·unfold openErr
    rw [if_neg ho,o.calm.off]
    exact hrec
   ·unfold openedW
    simp only [hl4]
    rw [if_neg (by simp)]
    unfold mendSegs
    simp only
    rw [if_neg hcond,setSize_snoc]
theorem crash_torn {st4:DS} {av:List Sc} {c:Sc} {m:Nat} {g:Lg} {lim:Int} (o:OnC st4 av c 0 m) (hc:Chain none ⟨0,[]⟩ (av++[c]) g) (hca:Chain none ⟨0,[]⟩ av g) (hb:c.bs=[]) (hne:av≠[]) (h2:32≤lim) (h3:lim≤65536) (hr:2 * total st4.fs≤st4.room):
  ∃ cs,(cs=av∨cs=av++[c])∧FoundL st4 lim g (cs.map Sc.sg):=by
 by_cases hm:m=c.bytes.length
 ·have o2:OnC st4 av c c.bytes.length m:=⟨o.inv,o.calm,o.old,o.last,by omega,o.mc,o.nums,o.scr⟩
  have hcl:c.bytes=headB c.num c.next:=by unfold Sc.bytes Sc.recs;rw [hb,recsB_one];rfl
  obtain ⟨j,g3,hj,_,hch,hf⟩:=crash_load (st:=st4) o2 hc (by rw [hcl];omega) h2 h3 hr
  have hcc:(⟨c.num,c.next,c.bs.take j⟩:Sc)=c:=by rw [hb,List.take_nil,←hb]
  rw [hcc] at hch hf
  exact ⟨_,.inr rfl,by rw [chain_det hch hc] at hf;exact hf⟩
 ·have hmc:=o.mc
  obtain ⟨s4,hlast4⟩:=o.last
  have hrd1:∀ c∈av,(readD st4 (segName c.num)).1=c.bytes:=fun c hc=>by rw [o.old c hc]
  have hrd2:(readD st4 (segName c.num)).1=c.bytes.take m:=by rw [read_get o.calm.off (seg_nameOk _) hlast4]
  have hl1:=load_chain (rd:=fun n=>(readD st4 (segName n)).1) (segs:=[]) (rest:=[c.num]) hca hrd1
  have hld:loadD st4=loadL (fun n=>(readD st4 (segName n)).1) (lastNum none av) g (av.map Sc.sg) [c.num]:=by
   unfold loadD
   rw [o.nums]
   simpa using hl1
  have hoC:c.Ok:=hc.ok c (by simp)
  have hcl:c.bytes=recB (hdB c.num c.next):=by unfold Sc.bytes Sc.recs;rw [hb,recsB_one]
  have hsc:scan ((fun n=>(readD st4 (segName n)).1) c.num)=[]:=by
   simp only
   rw [hrd2,hcl]
   have:=first_cut (b:=hdB c.num c.next) (hoC.recs _ (by unfold Sc.recs;simp)).1 (m:=m) (by rw [←hcl];omega)
   exact scan_none this
  have hl4:loadD st4=⟨g,av.map Sc.sg,some ⟨c.num,0,0⟩,[]⟩:=by
   rw [hld]
   have hnx:nxt (fun n=>(readD st4 (segName n)).1) (lastNum none av) c.num=0:=by unfold nxt nextOfSeg;rw [hsc]
   rw [loadL_amiss (.inl hnx),hnx]
  have ho:¬ (lim<32∨lim>65536):=by omega
  have hmend:(mendD st4 (av.map Sc.sg) ⟨c.num,0,0⟩).2=0:=by
   unfold mendD
   rw [if_pos (.inl rfl)]
   exact (unlink_calm o.calm (seg_nameOk _) hlast4)
  have hrec:(recoverD st4).2=0:=by
   unfold recoverD
   simp only [hl4,if_neg o.scr]
   rw [thenD_ok (x:=(st4,0)) rfl,thenD_ok hmend]
   simp only [unlinksD]
   rw [thenD_ok rfl,if_neg (by simpa using hne)]
  refine ⟨av,.inl rfl,?_,?_⟩
  ·unfold openErr
   rw [if_neg ho,o.calm.off]
   exact hrec
  ·unfold openedW
   simp only [hl4]
   rw [if_neg (by simpa using hne)]
   unfold mendSegs
   rw [if_pos (.inl rfl)]
end Go.Proofs.YtkfedbncmfnpnaaGreatDoor
/- A log on a disk: what may be found behind a crash, while it is written; plain. No program. Condition: none. -/
namespace Go.Proofs.YtkfedbncmfnpnaaGreatDoor
set_option linter.unusedVariables false
set_option linter.unusedSimpArgs false
open Go Go.VC
def FoundM (st:DS) (M:Lg→Prop):Prop:=∀ (keep:List Int) (lim:Int),32≤lim→lim≤65536→2 * total st.fs≤st.room→∃ g cs,M g∧Chain none ⟨0,[]⟩ cs g∧cs≠[]∧(∀ c∈cs,(c.bytes.length:Int)≤st.room)∧FoundL (crashD st keep) lim g (cs.map Sc.sg)
theorem FoundM.fs {st st':DS} {M:Lg→Prop} (h:FoundM st M) (e:st'.fs=st.fs) (r:st'.room=st.room):FoundM st' M:=fun keep lim h2 h3 hr=>by
 have ec:crashD st' keep=crashD st keep:=by unfold crashD;rw [e,r]
 rw [ec]
 rw [e,r] at hr
 rw [r]
 exact h keep lim h2 h3 hr
theorem FoundM.mono {st:DS} {M N:Lg→Prop} (h:FoundM st M) (hs:∀ g,M g→N g):FoundM st N:=fun keep lim h2 h3 hr=>by
 obtain ⟨g,cs,h,hr⟩:=h keep lim h2 h3 hr
 exact ⟨g,cs,hs g h,hr⟩
structure FineA (x:WSt) (st:DS) (M:Lg→Prop) (av:List Sc) (c:Sc) (k:Nat):Prop where
 o:OnD st av c k
 ch:Chain none ⟨0,[]⟩ (av++[c]) x.g
 sg:x.segs=List.map Sc.sg (av++[c])
 hk:(headB c.num c.next).length≤k
 mem:∀ (j:Nat) (g3:Lg),j≤c.bs.length→(∀ i,i≤c.bs.length→scanLen (hdB c.num c.next::c.bs.take i)≤k→i≤j)→Chain none ⟨0,[]⟩ (av++[⟨c.num,c.next,c.bs.take j⟩]) g3→M g3
theorem FineA.ne {x:WSt} {st:DS} {M:Lg→Prop} {av:List Sc} {c:Sc} {k:Nat} (f:FineA x st M av c k):∀ s∈av,segName s.num≠segName c.num:=fun s hs he=>by
 have hn:=f.ch.nums.2
 rw [List.pairwise_append] at hn
 have h1:=hn.2.2 s hs c (List.mem_singleton.2 rfl)
 have:=seg_inj (chain_bd f.ch s (List.mem_append_left _ hs)).2 (chain_bd f.ch c (by simp)).2 he
 omega
theorem FineA.sizes {x:WSt} {st:DS} {M:Lg→Prop} {av:List Sc} {c:Sc} {k:Nat} (f:FineA x st M av c k):∀ s∈av++[c],(s.bytes.length:Int)≤st.room:=fun s hs=>by
 have hfull:=f.o.inv.full
 rcases List.mem_append.1 hs with hs|hs
 ·have:=total_le (f.o.old s hs);simp only at this;omega
 ·rw [List.mem_singleton.1 hs]
  have:=total_le f.o.last;simp only at this;omega
theorem cut_sz (c:Sc) (j:Nat):(⟨c.num,c.next,c.bs.take j⟩:Sc).bytes.length≤c.bytes.length:=by
 have e:c.bytes=(⟨c.num,c.next,c.bs.take j⟩:Sc).bytes++recsB (c.bs.drop j):=by
  unfold Sc.bytes Sc.recs
  rw [←recsB_app,List.cons_append,List.take_append_drop]
 rw [e,List.length_append]
 exact Nat.le_add_right _ _
theorem FineA.found {x:WSt} {st:DS} {M:Lg→Prop} {av:List Sc} {c:Sc} {k:Nat} (f:FineA x st M av c k):FoundM st M:=fun keep lim h2 h3 hr=>by
 obtain ⟨m,oc⟩:=f.o.crash f.ch keep
 have ht:total (crashD st keep).fs≤total st.fs:=crashL_total _ _ _
 obtain ⟨j,g3,hj,hmax,hch,hf⟩:=crash_load (st:=st) oc f.ch f.hk h2 h3 (by show 2 * total (crashD st keep).fs≤st.room;omega)
 refine ⟨g3,_,f.mem j g3 hj hmax hch,hch,by simp,fun s hs=>?_,hf⟩
 rcases List.mem_append.1 hs with hs|hs
 ·exact f.sizes s (List.mem_append_left _ hs)
 ·rw [List.mem_singleton.1 hs]
  have:=f.sizes c (by simp)
  have:=cut_sz c j
  omega
theorem FineA.tail {x:WSt} {st:DS} {M:Lg→Prop} {av:List Sc} {c:Sc} {k:Nat} (f:FineA x st M av c k):tailS x.segs=c.sg:=by
 rw [f.sg,List.map_append];exact tail_snoc _ _
theorem FineA.self {x:WSt} {st:DS} {M:Lg→Prop} {av:List Sc} {c:Sc} {k:Nat} (f:FineA x st M av c k):M x.g:=by
 refine f.mem c.bs.length x.g (Nat.le_refl _) (fun i h _=>h) ?_
 rw [List.take_length];exact f.ch
theorem FineA.mono {x:WSt} {st:DS} {M N:Lg→Prop} {av:List Sc} {c:Sc} {k:Nat} (f:FineA x st M av c k) (h:∀ g,M g→N g):FineA x st N av c k:=⟨f.o,f.ch,f.sg,f.hk,fun j g3 a b d=>h _ (f.mem j g3 a b d)⟩
theorem append_room (st:DS) (k:ByteArray) (xs:List Int):(appendD st k xs).1.room=st.room:=by
 unfold appendD doing
 have hc:(chg st (nameOk k)).1.room=st.room:=by
  unfold chg
  split
  ·rfl
  ·split
   ·rfl
   ·split<;>rfl
 split
 ·unfold appendG
  dsimp only
  split<;>exact hc
 ·exact hc
theorem sync_room (st:DS) (k:ByteArray):(syncD st k).1.room=st.room:=by
 unfold syncD doing
 have hc:(chg st (nameOk k)).1.room=st.room:=by
  unfold chg
  split
  ·rfl
  ·split
   ·rfl
   ·split<;>rfl
 split
 ·unfold syncG
  split<;>exact hc
 ·exact hc
theorem FineA.put {x:WSt} {st:DS} {M:Lg→Prop} {av:List Sc} {c:Sc} {k:Nat} {b:List Int} {g:Lg} (f:FineA x st M av c k) (hb:BodyOk b) (hg:changeL x.g b=some g) (hM:M g):
  ((putW x st (recB b) g).1.2=0→FineA (putW x st (recB b) g).2 (putW x st (recB b) g).1.1 M av ⟨c.num,c.next,c.bs++[b]⟩ k)∧((putW x st (recB b) g).1.2≠0→FoundM (putW x st (recB b) g).1.1 M)∧(putW x st (recB b) g).1.1.room=st.room:=by
 have hn:(tailS x.segs).num=c.num:=by rw [f.tail];rfl
 unfold putW
 rw [hn]
 by_cases hd:(appendD st (segName c.num) (recB b)).2=0
 ·rw [if_pos hd]
  refine ⟨fun _=>?_,fun h=>absurd hd h,append_room _ _ _⟩
  obtain ⟨c',hc'⟩:∃ c':Sc,c'=⟨c.num,c.next,c.bs++[b]⟩:=⟨_,rfl⟩
  have hcb:c'.bytes=c.bytes++recB b:=by rw [hc'];unfold Sc.bytes Sc.recs;rw [←List.cons_append,recsB_app,recsB_one]
  have hoC:=f.ch.ok c (by simp)
  have hoC':c'.Ok:=by
   rw [hc']
   exact ⟨hoC.n0,hoC.n1,hoC.x0,hoC.x1,fun y hy=>by
    rcases List.mem_append.1 hy with hy|hy
    ·exact hoC.bs y hy
    ·rw [List.mem_singleton.1 hy];exact hb⟩
  have hch':Chain none ⟨0,[]⟩ (av++[c']) g:=by
   obtain ⟨g1,hca,hcl⟩:=f.ch.split
   refine hca.app ?_
   have hrs:∀ {g1:Lg},runs g1 c.bs=some x.g→runs g1 c'.bs=some g:=fun {g1} h=>by
    rw [hc',runs_app,h]
    simp only [Option.bind_some]
    unfold runs
    rw [hg]
    rfl
   generalize lastNum none av=p at hcl ⊢
   cases hcl with
   |first ho hl hr hc=>cases hc;exact .first hoC' hl (by rw [hc'] at hrs ⊢;exact hrs hr) .nil
   |more ho hn hx hr hc=>cases hc;exact .more hoC' (by rw [hc'];exact hn) (by rw [hc'];exact hx) (hrs hr) .nil
  rw [←hc']
  refine ⟨⟨appendD_inv f.o.inv _ _,fun s hs=>by rw [append_get (f.ne s hs)];exact f.o.old s hs,?_,fun q hq=>?_⟩,hch',?_,by rw [hc'];exact f.hk,fun j g3 hj hmax hch=>?_⟩
  ·have:=append_more f.o.last hd
   rw [hcb,hc'];exact this
  ·by_cases hqk:q=segName c.num
   ·exact ⟨c',by simp,by rw [hc'];exact hqk⟩
   ·rw [append_get hqk] at hq
    obtain ⟨s,hs,rfl⟩:=f.o.only q hq
    rcases List.mem_append.1 hs with hs|hs
    ·exact ⟨s,List.mem_append_left _ hs,rfl⟩
    ·rw [List.mem_singleton.1 hs] at hqk;exact absurd rfl hqk
  ·show growS x.segs (recB b).length=_
   unfold growS
   rw [f.tail,f.sg,List.map_append,List.map_append]
   show setSize (av.map Sc.sg++[c.sg]) _=_
   rw [setSize_snoc]
   simp only [List.map_cons,List.map_nil,Sc.sg,hcb,List.length_append]
   rw [hc']
   push_cast
   rfl
  ·rw [hc'] at hj hmax hch
   simp only [List.length_append,List.length_cons,List.length_nil] at hj hmax hch
   by_cases hjl:j≤c.bs.length
   ·rw [List.take_append_of_le_length hjl] at hch
    refine f.mem j g3 hjl (fun i hi hs=>hmax i (by omega) ?_) hch
    rw [List.take_append_of_le_length hi];exact hs
   ·have:j=c.bs.length + 1:=by omega
    rw [List.take_of_length_le (by simp;omega)] at hch
    rw [←hc'] at hch
    rw [chain_det hch hch'];exact hM
 ·rw [if_neg hd]
  exact ⟨fun h=>absurd h hd,fun _=>f.found.fs (append_err hd) (append_room _ _ _),append_room _ _ _⟩
theorem FineA.sync {x:WSt} {st:DS} {M:Lg→Prop} {av:List Sc} {c:Sc} {k:Nat} (f:FineA x st M av c k):
  ((syncD st (segName c.num)).2=0→FineA x (syncD st (segName c.num)).1 (fun g=>g=x.g) av c c.bytes.length)∧((syncD st (segName c.num)).2≠0→FoundM (syncD st (segName c.num)).1 M):=by
 refine ⟨fun hd=>⟨⟨sync_inv f.o.inv _,fun s hs=>by rw [sync_get (f.ne s hs)];exact f.o.old s hs,sync_done f.o.last hd,fun q hq=>?_⟩,f.ch,f.sg,by have:=f.o.kl;have:=f.hk;omega,fun j g3 hj hmax hch=>?_⟩,fun hd=>f.found.fs (sync_err hd) (sync_room _ _)⟩
 ·by_cases hqk:q=segName c.num
  ·exact ⟨c,by simp,hqk⟩
  ·rw [sync_get hqk] at hq;exact f.o.only q hq
 ·have hjl:=hmax c.bs.length (Nat.le_refl _) (by rw [List.take_length];unfold Sc.bytes Sc.recs;rw [recsB_len];exact Nat.le_refl _)
  rw [List.take_of_length_le hjl] at hch
  exact chain_det hch f.ch
end Go.Proofs.YtkfedbncmfnpnaaGreatDoor
/- A log on a disk: what may be found behind a crash, where a segment is begun, where entries are put behind; plain. No program. Condition: none. -/
namespace Go.Proofs.YtkfedbncmfnpnaaGreatDoor
set_option linter.unusedVariables false
set_option linter.unusedSimpArgs false
open Go Go.VC
theorem lastNum_snoc (c:Sc):∀ (l:List Sc) (p:Option Nat),lastNum p (l++[c])=some c.num
 |[],_=>rfl
 |_::l,_=>by rw [List.cons_append];exact lastNum_snoc c l _
theorem make_room (st:DS) (n:Nat) (next:Int):(makeD st n next).1.room=st.room:=by
 unfold makeD
 by_cases h:(appendD st (segName n) (headB n next)).2=0
 ·rw [thenD_ok h,sync_room,append_room]
 ·rw [thenD_err h,append_room]
theorem FineA.roll {x:WSt} {st:DS} {M:Lg→Prop} {av:List Sc} {c:Sc} {k:Nat} (f:FineA x st M av c k) (hn:c.num + 1≤99999999) (h0:0≤x.g.last) (h1:x.g.last≤1099511627776):
  ((rollW x st).2=0→∃ av' c' k',FineA { x with segs:=rollS x 0 } (rollW x st).1 M av' c' k'∧c'.num≤c.num + 1)∧((rollW x st).2≠0→FoundM (rollW x st).1 M)∧(rollW x st).1.room=st.room:=by
 have ht:=f.tail
 have hnum:c.sg.num=c.num:=rfl
 by_cases hroll:¬ x.lim≤(tailS x.segs).size
 ·have hrw:rollW x st=(st,0):=by unfold rollW;rw [if_neg hroll]
  have hx:rollS x 0=x.segs:=by unfold rollS;rw [if_neg fun h=>hroll h.1]
  rw [hrw,hx]
  exact ⟨fun _=>⟨av,c,k,⟨f.o,f.ch,f.sg,f.hk,f.mem⟩,by omega⟩,fun h=>absurd rfl h,rfl⟩
 have hroll:x.lim≤(tailS x.segs).size:=Classical.not_not.1 hroll
 have hrw:rollW x st=thenD (syncD st (segName c.num)) fun st=>makeD st (c.num + 1) (x.g.last + 1):=by
  unfold rollW
  rw [if_pos hroll,ht];rfl
 have hrs:rollS x 0=x.segs++[⟨c.num + 1,x.g.last + 1,(headB (c.num + 1) (x.g.last + 1)).length⟩]:=by
  unfold rollS
  rw [if_pos ⟨hroll,rfl⟩,ht];rfl
 rw [hrw,hrs]
 obtain ⟨fs1,fs2⟩:=f.sync
 by_cases hs:¬ (syncD st (segName c.num)).2=0
 ·rw [thenD_err hs]
  exact ⟨fun h=>absurd h hs,fun _=>fs2 hs,sync_room _ _⟩
 have hs:=Classical.not_not.1 hs
 rw [thenD_ok hs]
 have f1:=fs1 hs
 have hsr:=sync_room st (segName c.num)
 obtain ⟨st1,hst1⟩:∃ s,s=(syncD st (segName c.num)).1:=⟨_,rfl⟩
 rw [←hst1] at f1 hsr ⊢
 obtain ⟨c2,hc2⟩:∃ c2:Sc,c2=⟨c.num + 1,x.g.last + 1,[]⟩:=⟨_,rfl⟩
 have hc2b:c2.bytes=headB (c.num + 1) (x.g.last + 1):=by rw [hc2];unfold Sc.bytes Sc.recs;rw [recsB_one];rfl
 have hoc2:c2.Ok:=by rw [hc2];exact ⟨by simp,by simp only;omega,by simp only;omega,by simp only;omega,fun b hb=>by cases hb⟩
 have hch2:Chain none ⟨0,[]⟩ ((av++[c])++[c2]) x.g:=by
  refine f1.ch.app ?_
  rw [lastNum_snoc]
  exact .more hoc2 (by rw [hc2]) (by rw [hc2]) (by rw [hc2];rfl) .nil
 have hne2:∀ s∈av++[c],segName s.num≠segName (c.num + 1):=fun s hs he=>by
  have hnn:=hch2.nums.2
  rw [List.pairwise_append] at hnn
  have h1:=hnn.2.2 s hs c2 (List.mem_singleton.2 rfl)
  rw [hc2] at h1
  simp only at h1
  have:=seg_inj (chain_bd f.ch s hs).2 (by omega) he
  omega
 have hnone:getM (segName (c.num + 1)) st1.fs=none:=by
  rcases hg:getM (segName (c.num + 1)) st1.fs with _|v
  ·rfl
  ·obtain ⟨s,hs,he⟩:=f1.o.only (segName (c.num + 1)) (by rw [hg];simp)
   exact absurd he.symm (hne2 s hs)
 have hself:M x.g:=f.self
 have hmono:∀ g,(fun g=>g=x.g) g→M g:=fun g h=>by rw [show g=x.g from h];exact hself
 obtain ⟨b,hb⟩:∃ b,b=headB (c.num + 1) (x.g.last + 1):=⟨_,rfl⟩
 have hmk:makeD st1 (c.num + 1) (x.g.last + 1)=thenD (appendD st1 (segName (c.num + 1)) b) fun st=>syncD st (segName (c.num + 1)):=by rw [hb];rfl
 have hmr:=make_room st1 (c.num + 1) (x.g.last + 1)
 rw [hmk] at hmr ⊢
 by_cases ha:¬ (appendD st1 (segName (c.num + 1)) b).2=0
 ·rw [thenD_err ha] at hmr ⊢
  exact ⟨fun h=>absurd h ha,fun _=>(f1.found.fs (append_err ha) (append_room _ _ _)).mono hmono,by rw [hmr,hsr]⟩
 have ha:=Classical.not_not.1 ha
 rw [thenD_ok ha] at hmr ⊢
 have hga:=append_new hnone ha
 have har:=append_room st1 (segName (c.num + 1)) b
 have hia:=appendD_inv f1.o.inv (segName (c.num + 1)) b
 have hoa:∀ s∈av++[c],getM (segName s.num) (appendD st1 (segName (c.num + 1)) b).1.fs=some ⟨s.bytes,s.bytes.length⟩:=fun s hs=>by
  rw [append_get (hne2 s hs)]
  rcases List.mem_append.1 hs with hs|hs
  ·exact f1.o.old s hs
  ·rw [List.mem_singleton.1 hs];exact f1.o.last
 have hony:∀ q,getM q (appendD st1 (segName (c.num + 1)) b).1.fs≠none→∃ s∈(av++[c])++[c2],q=segName s.num:=fun q hq=>by
  by_cases hqk:q=segName (c.num + 1)
  ·exact ⟨c2,by simp,by rw [hc2];exact hqk⟩
  ·rw [append_get hqk] at hq
   obtain ⟨s,hs,rfl⟩:=f1.o.only q hq
   exact ⟨s,List.mem_append_left _ hs,rfl⟩
 obtain ⟨st2,hst2⟩:∃ s,s=(appendD st1 (segName (c.num + 1)) b).1:=⟨_,rfl⟩
 rw [←hst2] at hga har hia hoa hony hmr ⊢
 have hon:OnD st2 (av++[c]) c2 0:=⟨hia,hoa,by rw [hc2b,←hb,hc2];exact hga,hony⟩
 have hn2:segName c2.num=segName (c.num + 1):=by rw [hc2]
 by_cases hss:¬ (syncD st2 (segName (c.num + 1))).2=0
 ·refine ⟨fun h=>absurd h hss,fun _=>?_,by rw [hmr,hsr]⟩
  refine FoundM.fs (st:=st2) (fun keep lim h2 h3 hr=>?_) (sync_err hss) (sync_room _ _)
  obtain ⟨m,oc⟩:=hon.crash hch2 keep
  have htc:total (crashD st2 keep).fs≤total st2.fs:=crashL_total _ _ _
  obtain ⟨cs,hcs,hf⟩:=crash_torn oc hch2 f1.ch (by rw [hc2]) (by simp) h2 h3 (by show 2 * total (crashD st2 keep).fs≤st2.room;omega)
  have hsz:=f1.sizes
  have hc2sz:(c2.bytes.length:Int)≤st2.room:=by have h1:=total_le hon.last;have h2:=hon.inv.full;simp only at h1;omega
  rcases hcs with rfl|rfl
  ·exact ⟨x.g,_,hself,f1.ch,by simp,fun s hs=>by rw [har];exact hsz s hs,hf⟩
  ·refine ⟨x.g,_,hself,hch2,by simp,fun s hs=>?_,hf⟩
   rcases List.mem_append.1 hs with hs|hs
   ·rw [har];exact hsz s hs
   ·rw [List.mem_singleton.1 hs];exact hc2sz
 have hss:=Classical.not_not.1 hss
 refine ⟨fun _=>⟨av++[c],c2,c2.bytes.length,⟨⟨sync_inv hia _,fun s hs=>by rw [sync_get (hne2 s hs)];exact hoa s hs,?_,fun q hq=>?_⟩,hch2,?_,by rw [hc2b,hc2];exact Nat.le_refl _,fun j g3 hj hmax hch=>?_⟩,by rw [hc2];exact Nat.le_refl _⟩,fun h=>absurd hss h,by rw [hmr,hsr]⟩
 ·rw [hn2,sync_done hga hss,hc2b,hb]
 ·by_cases hqk:q=segName (c.num + 1)
  ·exact ⟨c2,by simp,by rw [hc2];exact hqk⟩
  ·rw [sync_get hqk] at hq;exact hony q hq
 ·show x.segs++_=_
  rw [f.sg,List.map_append (l₁:=av++[c])]
  simp only [List.map_cons,List.map_nil,Sc.sg,hc2b]
  rw [hc2]
 ·have hcc:(⟨c2.num,c2.next,c2.bs.take j⟩:Sc)=c2:=by rw [hc2];simp
  rw [hcc] at hch
  rw [chain_det hch hch2];exact hself
end Go.Proofs.YtkfedbncmfnpnaaGreatDoor
/- A log on a disk: what may be found behind a crash, where entries are put behind; how many bytes there are; plain. No program. Condition: none. -/
namespace Go.Proofs.YtkfedbncmfnpnaaGreatDoor
set_option linter.unusedVariables false
set_option linter.unusedSimpArgs false
open Go Go.VC
theorem doing_tot {st:DS} {ok:Bool} {g:DS→DS × Int} {z:Int} (hz:0≤z) (h:∀ st',total (g st').1.fs≤total st'.fs + z):total (doing st ok g).1.fs≤total st.fs + z:=by
 unfold doing
 have hf:=(chg_fs st ok).1
 split
 ·have:=h (chg st ok).1;rw [hf] at this;exact this
 ·rw [hf];omega
theorem append_tot (st:DS) (k:ByteArray) (xs:List Int):total (appendD st k xs).1.fs≤total st.fs + xs.length:=by
 refine doing_tot (by omega) fun st'=>?_
 unfold appendG
 split
 ·simp only;omega
 ·have:=putB_total k xs st'.fs;simp only;omega
theorem sync_tot (st:DS) (k:ByteArray):total (syncD st k).1.fs≤total st.fs:=by
 have:=doing_tot (st:=st) (ok:=nameOk k) (g:=syncG k) (z:=0) (by omega) fun st'=>by
  unfold syncG
  split
  ·have:=updM_total (k:=k) (g:=fun f:Fl=>{ f with sure:=f.b.length }) (fun _=>rfl) st'.fs
   simp only
   omega
  ·simp only;omega
 have e:syncD st k=doing st (nameOk k) (syncG k):=rfl
 rw [e]
 omega
theorem make_tot (st:DS) (n:Nat) (next:Int) (hn:n≤99999999) (h1:next≤1099511627777):total (makeD st n next).1.fs≤total st.fs + 21:=by
 have hbl:(headB n next).length≤21:=by unfold headB;rw [recB_len];have:=hdB_len hn h1;omega
 have ha:=append_tot st (segName n) (headB n next)
 unfold makeD
 by_cases h:(appendD st (segName n) (headB n next)).2=0
 ·rw [thenD_ok h];have:=sync_tot (appendD st (segName n) (headB n next)).1 (segName n);omega
 ·rw [thenD_err h];omega
theorem roll_tot (x:WSt) (st:DS) (hn:(tailS x.segs).num + 1≤99999999) (h1:x.g.last≤1099511627776):total (rollW x st).1.fs≤total st.fs + 21:=by
 unfold rollW
 split
 ·have hs:=sync_tot st (segName (tailS x.segs).num)
  by_cases h:(syncD st (segName (tailS x.segs).num)).2=0
  ·rw [thenD_ok h];have:=make_tot (syncD st (segName (tailS x.segs).num)).1 ((tailS x.segs).num + 1) (x.g.last + 1) hn (by omega);omega
  ·rw [thenD_err h];omega
 ·simp only;omega
theorem put_tot (x:WSt) (st:DS) (b:List Int) (g:Lg):total (putW x st b g).1.1.fs≤total st.fs + b.length:=by
 unfold putW
 split<;>exact append_tot _ _ _
theorem roll_g (x:WSt):({ x with segs:=rollS x 0 }:WSt).g=x.g:=rfl
theorem put_g {x:WSt} {st:DS} {b:List Int} {g:Lg} (h:(putW x st b g).1.2=0):(putW x st b g).2.g=g:=by
 unfold putW at h ⊢
 split
 ·rfl
 ·rename_i hd;rw [if_neg hd] at h;exact absurd h hd
theorem FineA.add {x:WSt} {st:DS} {M:Lg→Prop} {av:List Sc} {c:Sc} {k:Nat} {e:Ey} (f:FineA x st M av c k) (hn:c.num + 1≤99999999) (h0:0≤x.g.last) (ho:e.Ok) (hb:∀ y∈e.dt,0≤y∧y<256) (hi:e.ix=x.g.last + 1) (hM:M ⟨x.g.base,x.g.l++[e]⟩):
  ((addW x st e).1.2=0→∃ av' c' k',FineA (addW x st e).2 (addW x st e).1.1 M av' c' k'∧c'.num≤c.num + 1)∧((addW x st e).1.2≠0→FoundM (addW x st e).1.1 M)∧(addW x st e).1.1.room=st.room∧total (addW x st e).1.1.fs≤total st.fs + (50 + e.dt.length):=by
 have hi1:=ho.i1
 have hle:=entB_len ho
 obtain ⟨r1,r2,r3⟩:=f.roll hn h0 (by omega)
 have hnum:(tailS x.segs).num=c.num:=by rw [f.tail];rfl
 have rt:=roll_tot x st (by omega) (by omega)
 unfold addW
 by_cases h:(rollW x st).2≠0
 ·rw [if_pos h];exact ⟨fun h2=>absurd h2 h,fun _=>r2 h,r3,by simp only;omega⟩
 ·rw [if_neg h]
  obtain ⟨av',c',k',f',hc'⟩:=r1 (Classical.not_not.1 h)
  obtain ⟨p1,p2,p3⟩:=f'.put (b:=entB e) (g:=⟨x.g.base,x.g.l++[e]⟩) (entB_ok ho hb) (by rw [roll_g,change_ent ho,if_pos hi]) hM
  have pt:=put_tot { x with segs:=rollS x 0 } (rollW x st).1 (recB (entB e)) ⟨x.g.base,x.g.l++[e]⟩
  rw [recB_len] at pt
  exact ⟨fun h2=>⟨_,_,_,p1 h2,hc'⟩,p2,by rw [p3,r3],by omega⟩
theorem adds_fine {M:Lg→Prop}:∀ {l:List Ey} {x:WSt} {st:DS} {av:List Sc} {c:Sc} {k:Nat},FineA x st M av c k→c.num + l.length≤99999998→0≤x.g.last→EsOk (x.g.last + 1) l→(∀ i,i≤l.length→M ⟨x.g.base,x.g.l++l.take i⟩)→
  ((addsW x st l).1.2=0→∃ av' c' k',FineA (addsW x st l).2 (addsW x st l).1.1 M av' c' k'∧c'.num≤c.num + l.length∧(addsW x st l).2.g=⟨x.g.base,x.g.l++l⟩)∧((addsW x st l).1.2≠0→FoundM (addsW x st l).1.1 M)∧(addsW x st l).1.1.room=st.room∧total (addsW x st l).1.1.fs≤total st.fs + costE l
 |[],x,st,av,c,k,f,_,_,_,_=>⟨fun _=>⟨av,c,k,f,by simp,by simp [addsW]⟩,fun h=>absurd rfl h,rfl,by simp [addsW,costE]⟩
 |e::l,x,st,av,c,k,f,hn,h0,hl,hM=>by
  simp only [List.length_cons] at hn
  have hce:costE (e::l)=50 + e.dt.length + costE l:=by simp [costE]
  have hcn:0≤costE l:=by rw [costE_eq];have:=sumD_nn l;omega
  have hek:=hl.ok e (List.mem_cons_self ..)
  have h1:=hl.fol 0 (by simp)
  simp only [List.getElem_cons_zero] at h1
  obtain ⟨a1,a2,a3,a4⟩:=f.add (by omega) h0 hek.1 hek.2 (by omega) (by simpa using hM 1 (by simp))
  unfold addsW
  by_cases h:(addW x st e).1.2≠0
  ·rw [if_pos h];exact ⟨fun h2=>absurd h2 h,fun _=>a2 h,a3,by omega⟩
  ·rw [if_neg h]
   have h:=Classical.not_not.1 h
   obtain ⟨av',c',k',f',hc'⟩:=a1 h
   have hg:=addW_ok h
   have hl2:=(EsOk.app (a:=[e]) (b:=l) hl).2
   have hlast:(addW x st e).2.g.last=x.g.last + 1:=by rw [hg];unfold Lg.last;simp;omega
   obtain ⟨b1,b2,b3,b4⟩:=adds_fine (l:=l) f' (by omega) (by omega) (by rw [hlast];simpa using hl2) (fun i hi=>by
    have:=hM (i + 1) (by simp;omega)
    rw [hg]
    simpa using this)
   refine ⟨fun h2=>?_,b2,by rw [b3,a3],by omega⟩
   obtain ⟨av2,c2,k2,f2,hc2,hg2⟩:=b1 h2
   refine ⟨av2,c2,k2,f2,by simp;omega,?_⟩
   rw [hg2,hg]
   simp
end Go.Proofs.YtkfedbncmfnpnaaGreatDoor
/- A log on a disk: the logs that steps ask for, and that one of them is found behind a crash; plain. No program. Condition: none. -/
namespace Go.Proofs.YtkfedbncmfnpnaaGreatDoor
set_option linter.unusedVariables false
set_option linter.unusedSimpArgs false
open Go Go.VC
open Classical
noncomputable def laterApp:Lg→List Ey→List Lg
 |_,[]=>[]
 |g,e::l=>if e.Ok∧e.ix=g.last + 1 then ⟨g.base,g.l++[e]⟩::laterApp ⟨g.base,g.l++[e]⟩ l else []
def laterCut (g:Lg) (n:Int):List Lg:=if g.base<n∧n≤g.last then [⟨g.base,g.l.take (n - 1 - g.base).toNat⟩] else []
def laterReset (n:Int):List Lg:=if 1≤n∧n≤1099511627776 then [⟨n - 1,[]⟩] else []
theorem later_mem:∀ {l:List Ey} {g:Lg},EsOk (g.last + 1) l→∀ i,i<l.length→(⟨g.base,g.l++l.take (i + 1)⟩:Lg)∈laterApp g l
 |e::l,g,h,i,hi=>by
  have hek:=h.ok e (List.mem_cons_self ..)
  have h1:=h.fol 0 (by simp)
  simp only [List.getElem_cons_zero] at h1
  unfold laterApp
  rw [if_pos ⟨hek.1,by omega⟩]
  cases i with
  |zero=>simp
  |succ i=>
   have hl2:=(EsOk.app (a:=[e]) (b:=l) h).2
   have hlast:(⟨g.base,g.l++[e]⟩:Lg).last=g.last + 1:=by unfold Lg.last;simp;omega
   have:=later_mem (l:=l) (g:=⟨g.base,g.l++[e]⟩) (by rw [hlast];simpa using hl2) i (by simpa using hi)
   refine List.mem_cons_of_mem _ ?_
   simpa using this
theorem later_last:∀ {l:List Ey} {g:Lg} {m:List Lg},EsOk (g.last + 1) l→m.getLast? =some g→(m++laterApp g l).getLast? =some ⟨g.base,g.l++l⟩
 |[],g,m,_,hm=>by simp [laterApp,hm]
 |e::l,g,m,h,hm=>by
  have hek:=h.ok e (List.mem_cons_self ..)
  have h1:=h.fol 0 (by simp)
  simp only [List.getElem_cons_zero] at h1
  unfold laterApp
  rw [if_pos ⟨hek.1,by omega⟩]
  have hl2:=(EsOk.app (a:=[e]) (b:=l) h).2
  have hlast:(⟨g.base,g.l++[e]⟩:Lg).last=g.last + 1:=by unfold Lg.last;simp;omega
  have:=later_last (l:=l) (g:=⟨g.base,g.l++[e]⟩) (m:=m++[⟨g.base,g.l++[e]⟩]) (by rw [hlast];simpa using hl2) (by simp)
  simpa using this
def LW (x:WSt) (st:DS) (may:List Lg) (B:Nat):Prop:=
 (x.brk=false∧(∃ av c k,FineA x st (·∈may) av c k∧c.num≤B)∧may.getLast? =some x.g)∨(x.brk=true∧FoundM st (·∈may))
theorem LW.found {x:WSt} {st:DS} {may:List Lg} {B:Nat} (h:LW x st may B):FoundM st (·∈may):=by
 rcases h with ⟨_,⟨av,c,k,f,_⟩,_⟩|⟨_,h⟩
 ·exact f.found
 ·exact h
theorem LW.le {x:WSt} {st:DS} {may:List Lg} {B C:Nat} (h:LW x st may B) (hb:B≤C):LW x st may C:=by
 rcases h with ⟨h1,⟨av,c,k,f,hc⟩,h2⟩|h
 ·exact .inl ⟨h1,⟨av,c,k,f,by omega⟩,h2⟩
 ·exact .inr h
theorem LW.fs {x:WSt} {st st':DS} {may:List Lg} {B:Nat} (h:LW x st may B) (i:Inv st') (e:st'.fs=st.fs) (r:st'.room=st.room):LW x st' may B:=by
 rcases h with ⟨h1,⟨av,c,k,f,hc⟩,h2⟩|⟨h1,h2⟩
 ·exact .inl ⟨h1,⟨av,c,k,⟨f.o.fs i e,f.ch,f.sg,f.hk,f.mem⟩,hc⟩,h2⟩
 ·exact .inr ⟨h1,h2.fs e r⟩
theorem LW.append {x:WSt} {st:DS} {may:List Lg} {B:Nat} {l:List Ey} (h:LW x st may B) (hby:∀ e∈l,∀ y∈e.dt,0≤y∧y<256) (hn:B + l.length≤99999998) (h0:0≤x.g.last):
  (((appendW x st l).1.2=1∨(appendW x st l).1.2=7∨(appendW x st l).1.2=8)∧(appendW x st l).1.1=st∧(appendW x st l).2=x)∨
  (x.brk=false∧may.getLast? =some x.g∧LW (appendW x st l).2 (appendW x st l).1.1 (may++laterApp x.g l) (B + l.length)∧(appendW x st l).1.1.room=st.room∧total (appendW x st l).1.1.fs≤total st.fs + costE l):=by
 unfold appendW
 by_cases hb:x.brk=true
 ·rw [if_pos hb];exact .inl ⟨.inr (.inr rfl),rfl,rfl⟩
 ·rw [if_neg hb]
  by_cases h1:¬ ∀ e∈l,e.Ok
  ·rw [if_pos h1];exact .inl ⟨.inl rfl,rfl,rfl⟩
  ·rw [if_neg h1]
   by_cases h2:¬ Follows (x.g.last + 1) l
   ·rw [if_pos h2];exact .inl ⟨.inr (.inl rfl),rfl,rfl⟩
   ·rw [if_neg h2]
    have hok:EsOk (x.g.last + 1) l:=⟨fun e he=>⟨Classical.not_not.1 h1 e he,hby e he⟩,Classical.not_not.1 h2⟩
    rcases h with ⟨hbf,⟨av,c,k,f,hc⟩,hl⟩|⟨hbt,_⟩
    ·right
     have hg:x.g∈may:=f.self
     have f':FineA x st (·∈may++laterApp x.g l) av c k:=f.mono fun g h=>List.mem_append_left _ h
     obtain ⟨a1,a2,a3,a4⟩:=adds_fine (l:=l) f' (by omega) h0 hok (fun i hi=>by
      cases i with
      |zero=>simp only [List.take_zero,List.append_nil];exact List.mem_append_left _ hg
      |succ i=>exact List.mem_append_right _ (later_mem hok i (by omega)))
     refine ⟨hbf,hl,?_,a3,a4⟩
     unfold doesW
     by_cases hz:(addsW x st l).1.2=0
     ·obtain ⟨av',c',k',f2,hc2,hg2⟩:=a1 hz
      refine .inl ⟨by simp [hz],⟨av',c',k',⟨f2.o,f2.ch,f2.sg,f2.hk,f2.mem⟩,by omega⟩,?_⟩
      show _=some (addsW x st l).2.g
      rw [hg2]
      exact later_last hok hl
     ·exact .inr ⟨by simp [hz],a2 hz⟩
    ·exact absurd hbt hb
theorem LW.put {x:WSt} {st:DS} {may:List Lg} {B:Nat} {b:List Int} {g:Lg} (h:LW x st may B) (hbf:x.brk=false) (hb:BodyOk b) (hg:changeL x.g b=some g):
  LW (doesW (putW x st (recB b) g)).2 (doesW (putW x st (recB b) g)).1.1 (may++[g]) B∧(doesW (putW x st (recB b) g)).1.1.room=st.room∧total (doesW (putW x st (recB b) g)).1.1.fs≤total st.fs + (recB b).length:=by
 rcases h with ⟨_,⟨av,c,k,f,hc⟩,hl⟩|⟨hbt,_⟩
 ·have f':FineA x st (·∈may++[g]) av c k:=f.mono fun g h=>List.mem_append_left _ h
  obtain ⟨a1,a2,a3⟩:=f'.put hb hg (by simp)
  refine ⟨?_,a3,put_tot _ _ _ _⟩
  unfold doesW
  by_cases hz:(putW x st (recB b) g).1.2=0
  ·refine .inl ⟨by simp [hz],⟨av,_,k,⟨(a1 hz).o,(a1 hz).ch,(a1 hz).sg,(a1 hz).hk,(a1 hz).mem⟩,hc⟩,?_⟩
   show _=some (putW x st (recB b) g).2.g
   rw [put_g hz]
   simp
  ·exact .inr ⟨by simp [hz],a2 hz⟩
 ·rw [hbf] at hbt;cases hbt
theorem LW.sync {x:WSt} {st:DS} {may:List Lg} {B:Nat} (h:LW x st may B):
  ((syncW x st).1.2=0→LW (syncW x st).2 (syncW x st).1.1 [x.g] B∧may.getLast? =some x.g)∧((syncW x st).1.2≠0→LW (syncW x st).2 (syncW x st).1.1 may B)∧(syncW x st).1.1.room=st.room∧total (syncW x st).1.1.fs≤total st.fs:=by
 unfold syncW
 rcases h with ⟨hbf,⟨av,c,k,f,hc⟩,hl⟩|⟨hbt,hf⟩
 ·rw [if_neg (by simp [hbf])]
  have hn:(tailS x.segs).num=c.num:=by rw [f.tail];rfl
  rw [hn]
  obtain ⟨a1,a2⟩:=f.sync
  unfold doesW
  refine ⟨fun hz=>⟨.inl ⟨by simp only at hz ⊢;simp [hz],⟨av,c,_,⟨(a1 hz).o,(a1 hz).ch,(a1 hz).sg,(a1 hz).hk,fun j g3 p q r=>by simpa using (a1 hz).mem j g3 p q r⟩,hc⟩,rfl⟩,hl⟩,fun hz=>.inr ⟨by simp only at hz ⊢;simp [hz],a2 hz⟩,sync_room _ _,sync_tot _ _⟩
 ·rw [if_pos hbt]
  exact ⟨fun h=>absurd h (by show ¬ (8:Int)=0;decide),fun _=>.inr ⟨hbt,hf⟩,rfl,Int.le_refl _⟩
end Go.Proofs.YtkfedbncmfnpnaaGreatDoor
/- A log on a disk: lists of steps, only read; how much is handed. Condition: none. -/
namespace Go.Proofs.YtkfedbncmfnpnaaGreatDoor
set_option linter.unusedVariables false
set_option linter.unusedSimpArgs false
open Go Go.VC
variable {R R':Cx} {Hs Rest:List HP} {w:World}
structure StE where
 d:Int
 n:Int
 most:Int
 sl:Sl
 sk:Sl
 dl:List DE4
 keep:List Int
abbrev stV (e:StE):List Value:=[.int .i64 e.d,.int .i64 e.n,.int .i64 e.most,.slice e.sl.a e.sl.len e.sl.cap,.slice e.sk.a e.sk.len e.sk.cap]
structure StR (R:Cx) (s:Sl) (es:List StE):Prop where
 rows:RoN 5 R s (es.map stV)
 ents:∀ e∈es,EsR R e.sl e.dl
 keeps:∀ e∈es,RoI R e.sk e.keep
 light:∀ e∈es,∀ q∈e.dl,q.2.dt.length≤140737488351232
def costS (e:StE):Int:=30 * (e.dl.length:Int) + sumD (erE e.dl)
def costSs (es:List StE):Int:=(es.map costS).sum
theorem costSs_step (es:List StE) {k:Nat} (h:k<es.length):costSs (es.take (k + 1))=costSs (es.take k) + costS es[k]:=by
 unfold costSs
 have e:es.take (k + 1)=es.take k++[es[k]]:=(List.take_append_getElem h).symm
 rw [e,List.map_append,List.sum_append]
 simp
theorem costS_nn (e:StE):0≤costS e:=by unfold costS;have:=sumD_nn (erE e.dl);omega
set_option maxRecDepth 4000 in
theorem muchS_spec {l:Sl} {es:List StE} (hr:StR R l es) (hw:Sat R Hs w):
  Gets Tryz.prog 9 #[.slice none 0 0,.slice l.a l.len l.cap] w fun v w'=>∃ b:Bool,v=.bool b∧(b=false→(∀ e∈es.take 100,e.dl.length≤1000)∧costSs (es.take 100)≤30000)∧Sat R Hs w':=by
 have hlen:l.len=es.length:=by have:=hr.rows.len;simpa using this
 refine call9 ⟨none,0,0⟩ l _ w ?_
 unfold B9
 refine ⟨fun n w=>n=0∧Sat R Hs w,⟨fun n i w=>n=0∧i=0∧Sat R Hs w,fun _ _ _=>0,⟨rfl,rfl,hw⟩,?_⟩,?_⟩
 ·clear hw
  rintro _ _ _ w ⟨rfl,rfl,hw⟩
  refine ⟨fun _=>False,Br.d (fun h=>by simp at h) (fun _=>⟨rfl,hw⟩),fun _ _ h=>h.elim⟩
 clear hw
 rintro _ _ w ⟨rfl,hw⟩
 refine ⟨fun n i w=>∃ k:Nat,i=k∧k≤es.length∧k≤100∧n=costSs (es.take k)∧0≤n∧n≤30000∧(∀ e∈es.take k,e.dl.length≤1000)∧Sat R Hs w,fun _ i _=>100 - i.toNat,⟨0,rfl,by omega,by omega,by simp [costSs],by omega,by omega,by simp,hw⟩,?_⟩
 clear hw
 rintro _ n _ w ⟨k,rfl,hk,hk1,hn,hn0,hn1,hall,hw⟩
 have fin:es.take k=es.take 100→∃ b:Bool,Value.bool (decide (n>30000))=.bool b∧(b=false→(∀ e∈es.take 100,e.dl.length≤1000)∧costSs (es.take 100)≤30000)∧Sat R Hs w:=fun e=>⟨_,rfl,fun _=>by rw [←e];exact ⟨hall,by omega⟩,hw⟩
 refine ⟨fun w=>k<es.length∧k<100∧Sat R Hs w,Br.d (fun h=>Br.d (fun h2=>⟨by omega,by omega,hw⟩) (fun h2=>fin (by rw [show k=100 by omega]))) (fun h=>fin (by rw [List.take_of_length_le (by omega),List.take_of_length_le (by omega)])),?_⟩
 clear hw fin
 rintro _ w ⟨hke,hk2,hw⟩
 obtain ⟨e,hee⟩:∃ e,e=es[k]:=⟨_,rfl⟩
 have hmem:es[k]∈es:=List.getElem_mem _
 have hE:=hr.ents _ hmem
 have hL:=hr.light _ hmem
 have hstep:=costSs_step es hke
 rw [←hee] at hE hL hstep
 have hsl:e.sl.len=e.dl.length:=by have:=hE.rows.len;simpa using this
 have hS:ReadsN 5 l (es.map stV) (fun w'=>w'=w):=hr.rows.reads (eqS hw)
 refine hS.rngM hke fun a _ he=>⟨e.sl,by rw [hee];exact he.f 3 (by exact ⟨rfl,trivial⟩),Br.d (fun _=>⟨true,rfl,(fun h=>by cases h),hw⟩) (fun g1=>?_)⟩
 refine hS.rngM hke fun a _ he=>⟨e.sl,by rw [hee];exact he.f 3 (by exact ⟨rfl,trivial⟩),?_⟩
 rw [wrap64 (x:=30 * (e.sl.len:Int)) (by omega) (by omega),wrap64 (by omega) (by omega)]
 have hsn:∀ j,sumD ((erE e.dl).take j) ≥ 0:=fun j=>sumD_nn _
 refine ⟨fun m k' w=>∃ j:Nat,k'=j∧j≤e.dl.length∧m=n + 30 * (e.dl.length:Int) + sumD ((erE e.dl).take j)∧Sat R Hs w,fun _ k' _=>e.dl.length - k'.toNat,⟨0,rfl,Nat.zero_le _,by simp [sumD,hsl],hw⟩,?_⟩
 clear hw hS
 rintro _ m _ w ⟨j,rfl,hj,hm,hw⟩
 have hel:(erE e.dl).length=e.dl.length:=by simp
 have hS:ReadsN 5 l (es.map stV) (fun w'=>w'=w):=hr.rows.reads (eqS hw)
 have hnn:=hsn j
 refine ⟨fun w=>j<e.dl.length∧m<100000∧Sat R Hs w,hS.rngM hke fun a _ he=>⟨e.sl,by rw [hee];exact he.f 3 (by exact ⟨rfl,trivial⟩),?_⟩,?_⟩
 ·refine Br.d (fun h=>Br.d (fun h2=>⟨by omega,h2,hw⟩) (fun h2=>?_)) (fun h=>?_)
  ·refine Br.d (fun _=>⟨true,rfl,(fun h=>by cases h),hw⟩) (fun h3=>absurd h3 (by omega))
  ·refine Br.d (fun _=>⟨true,rfl,(fun h=>by cases h),hw⟩) (fun h3=>?_)
   have hjl:j=e.dl.length:=by omega
   subst hjl
   have et:(erE e.dl).take e.dl.length=erE e.dl:=by rw [←hel,List.take_length]
   rw [et] at hm
   have hq0:=sumD_nn (erE e.dl)
   have hcs:costS e=30 * (e.dl.length:Int) + sumD (erE e.dl):=rfl
   refine ⟨⟨k + 1,by rw [wrap64 (by omega) (by omega)];omega,by omega,by omega,by omega,by omega,by omega,fun q hq=>?_,hw⟩,by dsimp only;rw [wrap64 (by omega) (by omega)];omega⟩
   have e2:es.take (k + 1)=es.take k++[es[k]]:=(List.take_append_getElem hke).symm
   rw [e2] at hq
   rcases List.mem_append.1 hq with hq|hq
   ·exact hall q hq
   ·rw [List.mem_singleton.1 hq,←hee];omega
 clear hw hS
 rintro _ w ⟨hj2,hn2,hw⟩
 have hS:ReadsN 5 l (es.map stV) (fun w'=>w'=w):=hr.rows.reads (eqS hw)
 refine hS.rngM hke fun a _ he=>⟨e.sl,by rw [hee];exact he.f 3 (by exact ⟨rfl,trivial⟩),?_⟩
 have hLr:ReadsN 4 e.sl (e.dl.map eRow) (fun w'=>w'=w):=hE.rows.reads (eqS hw)
 refine hLr.rngM hj2 fun a _ el=>⟨e.dl[j].1,el.f 3 (by exact ⟨rfl,trivial⟩),?_⟩
 have hdl:=hE.each.len (List.getElem_mem hj2)
 have hm2:=hL _ (List.getElem_mem hj2)
 have hst:=sumD_step (erE e.dl) (k:=j) (by omega)
 have hx:(erE e.dl)[j]'(by omega)=e.dl[j].2:=by simp
 rw [hx] at hst
 rw [wrap64 (by omega) (by omega),wrap64 (by omega) (by omega)]
 exact ⟨⟨j + 1,by omega,by omega,by omega,hw⟩,by dsimp only;omega⟩
end Go.Proofs.YtkfedbncmfnpnaaGreatDoor
/- A log on a disk: lists of entries compared; Cut and Reset, told by the logs asked for. Condition: none. -/
namespace Go.Proofs.YtkfedbncmfnpnaaGreatDoor
set_option linter.unusedVariables false
set_option linter.unusedSimpArgs false
open Go Go.VC
variable {R R':Cx} {Hs Rest:List HP} {w:World}
theorem strOf_inj {a b:List Int} (ha:∀ y∈a,0≤y∧y<256) (hb:∀ y∈b,0≤y∧y<256) (h:VC.strOf a=VC.strOf b):a=b:=by
 have h1:=congrArg (fun s:ByteArray=>s.data.toList) h
 unfold VC.strOf at h1
 simp only [List.toList_toArray] at h1
 have key:∀ {a b:List Int},(∀ y∈a,0≤y∧y<256)→(∀ y∈b,0≤y∧y<256)→(a.map fun n=>UInt8.ofNat n.toNat)=(b.map fun n=>UInt8.ofNat n.toNat)→a=b:=fun {a}=>by
  induction a with
  |nil=>intro b _ _ h;cases b with|nil=>rfl|cons y b=>simp at h
  |cons x a ih=>
   intro b ha hb h
   cases b with
   |nil=>simp at h
   |cons y b=>
    simp only [List.map_cons,List.cons.injEq] at h
    have hx:=ha x (List.mem_cons_self ..)
    have hy:=hb y (List.mem_cons_self ..)
    have h2:=congrArg UInt8.toNat h.1
    simp only [UInt8.toNat_ofNat'] at h2
    have:x=y:=by omega
    rw [this,ih (fun z hz=>ha z (List.mem_cons_of_mem _ hz)) (fun z hz=>hb z (List.mem_cons_of_mem _ hz)) h.2]
 exact key ha hb h1
theorem sameE_spec {a b:Sl} {xs ys:List DE4} (ha:RoN 4 R a (xs.map eRow)) (hb:RoN 4 R b (ys.map eRow)) (hx:DsR R xs) (hy:DsR R ys) (hbx:∀ e∈erE xs,∀ y∈e.dt,0≤y∧y<256) (hby:∀ e∈erE ys,∀ y∈e.dt,0≤y∧y<256) (hl:xs.length≤1000000)
  (hm:∀ e∈xs,e.2.dt.length≤9223372036854775807) (hm2:∀ e∈ys,e.2.dt.length≤9223372036854775807) (hw:Sat R Hs w):
  Gets Tryz.prog 20 #[.slice a.a a.len a.cap,.slice b.a b.len b.cap] w fun v w'=>∃ t:Bool,v=.bool t∧(t=true↔erE xs=erE ys)∧Sat R Hs w':=by
 have h1:a.len=xs.length:=by have:=ha.len;simpa using this
 have h2:b.len=ys.length:=by have:=hb.len;simpa using this
 have hxl:(erE xs).length=xs.length:=by simp
 have hyl:(erE ys).length=ys.length:=by simp
 apply call20
 have no:∀ {w:World},¬ erE xs=erE ys→Sat R Hs w→∃ t:Bool,Value.bool false=.bool t∧(t=true↔erE xs=erE ys)∧Sat R Hs w:=fun h hw=>⟨false,rfl,⟨fun h=>(by cases h),fun h2=>absurd h2 h⟩,hw⟩
 refine Br.ne (fun h=>no (fun he=>h (by have:=congrArg List.length he;rw [hxl,hyl] at this;omega)) hw) (fun h=>?_)
 have h3:xs.length=ys.length:=by omega
 refine ⟨fun i w=>∃ k:Nat,i=k∧k≤xs.length∧(erE xs).take k=(erE ys).take k∧Sat R Hs w,fun i _=>xs.length - i.toNat,⟨0,rfl,Nat.zero_le _,by simp,hw⟩,?_⟩
 clear hw
 rintro _ _ w ⟨k,rfl,hk,htk,hw⟩
 have hend:¬ (k:Int)<(a.len:Int)→erE xs=erE ys:=fun h=>by
  have:k=xs.length:=by omega
  rw [List.take_of_length_le (by omega),List.take_of_length_le (by omega)] at htk
  exact htk
 refine Br.d (fun h=>?_) (fun h=>⟨true,rfl,⟨fun _=>hend h,fun _=>rfl⟩,hw⟩)
 have hkx:k<xs.length:=by omega
 have hky:k<ys.length:=by omega
 have gx:(erE xs)[k]'(by omega)=xs[k].2:=by simp
 have gy:(erE ys)[k]'(by omega)=ys[k].2:=by simp
 have diff:¬ xs[k].2=ys[k].2→¬ erE xs=erE ys:=fun hne he=>hne (by
  have h5:(erE xs)[k]? =(erE ys)[k]?:=by rw [he]
  rw [List.getElem?_eq_getElem (by omega),List.getElem?_eq_getElem (by omega),gx,gy] at h5
  exact Option.some.inj h5)
 refine drw_rule hw fun w hw=>?_
 have r1:ReadsN 4 a (xs.map eRow) (Sat R Hs):=ha.reads fun w h=>h
 have r2:ReadsN 4 b (ys.map eRow) (Sat R Hs):=hb.reads fun w h=>h
 refine r1.rngM hkx fun _ _ el=>⟨xs[k].2.ix,el.zz (by exact ⟨rfl,trivial⟩),?_⟩
 refine r2.rngM hky fun _ _ fl=>⟨ys[k].2.ix,fl.zz (by exact ⟨rfl,trivial⟩),?_⟩
 refine Br.ne (fun h=>no (diff fun e=>h (by rw [e])) hw) (fun c1=>?_)
 refine r1.rngM hkx fun _ _ el=>⟨xs[k].2.tm,el.f 1 (by exact ⟨rfl,trivial⟩),?_⟩
 refine r2.rngM hky fun _ _ fl=>⟨ys[k].2.tm,fl.f 1 (by exact ⟨rfl,trivial⟩),?_⟩
 refine Br.ne (fun h=>no (diff fun e=>h (by rw [e])) hw) (fun c2=>?_)
 refine r1.rngM hkx fun _ _ el=>⟨xs[k].2.kd,el.f 2 (by exact ⟨rfl,trivial⟩),?_⟩
 refine r2.rngM hky fun _ _ fl=>⟨ys[k].2.kd,fl.f 2 (by exact ⟨rfl,trivial⟩),?_⟩
 refine Br.ne (fun h=>no (diff fun e=>h (by rw [e])) hw) (fun c3=>?_)
 have hd1:=hm _ (List.getElem_mem hkx)
 have hd2:=hm2 _ (List.getElem_mem hky)
 refine r1.rngM hkx fun _ _ el=>⟨xs[k].1,el.f 3 (by exact ⟨rfl,trivial⟩),VC.strOf xs[k].2.dt,fun w' h'=>convS_ro Tryz.underlying53 Tryz.underlying5 Tryz.underlying9 h' ((hx _ (List.getElem_mem hkx)).ro (by simpa using hd1)),?_⟩
 refine r2.rngM hky fun _ _ fl=>⟨ys[k].1,fl.f 3 (by exact ⟨rfl,trivial⟩),VC.strOf ys[k].2.dt,fun w' h'=>convS_ro Tryz.underlying53 Tryz.underlying5 Tryz.underlying9 h' ((hy _ (List.getElem_mem hky)).ro (by simpa using hd2)),?_⟩
 refine Br.sne (fun h=>no (diff fun e=>h (by rw [e])) hw) (fun c4=>?_)
 have c5:xs[k].2.dt=ys[k].2.dt:=strOf_inj (hbx _ (List.mem_map_of_mem (List.getElem_mem hkx))) (hby _ (List.mem_map_of_mem (List.getElem_mem hky))) c4
 have c6:xs[k].2=ys[k].2:=by
  rcases hxk:xs[k].2 with ⟨a1,a2,a3,a4⟩
  rcases hyk:ys[k].2 with ⟨b1,b2,b3,b4⟩
  rw [hxk,hyk] at c1 c2 c3 c5
  simp only at c1 c2 c3 c5
  rw [c1,c2,c3,c5]
 rw [wrap64 (by omega) (by omega)]
 refine ⟨⟨k + 1,by omega,by omega,?_,hw⟩,by dsimp only;omega⟩
 have e1:(erE xs).take (k + 1)=(erE xs).take k++[(erE xs)[k]'(by omega)]:=(List.take_append_getElem (by omega)).symm
 have e2:(erE ys).take (k + 1)=(erE ys).take k++[(erE ys)[k]'(by omega)]:=(List.take_append_getElem (by omega)).symm
 rw [e1,e2,htk,gx,gy,c6]
theorem LW.cut {x:WSt} {st:DS} {may:List Lg} {B:Nat} (h:LW x st may B) (n:Int) (h0:0≤x.g.base) (h1:x.g.last≤1099511627776):
  (((cutW x st n).1.2=1∨(cutW x st n).1.2=7∨(cutW x st n).1.2=8)∧(cutW x st n).1.1=st∧(cutW x st n).2=x)∨
  (x.brk=false∧may.getLast? =some x.g∧LW (cutW x st n).2 (cutW x st n).1.1 (may++laterCut x.g n) B∧(cutW x st n).1.1.room=st.room∧total (cutW x st n).1.1.fs≤total st.fs + 17):=by
 unfold cutW
 by_cases hb:x.brk=true
 ·rw [if_pos hb];exact .inl ⟨.inr (.inr rfl),rfl,rfl⟩
 ·rw [if_neg hb]
  have hbf:x.brk=false:=by simpa using hb
  have hl:may.getLast? =some x.g:=by
   rcases h with ⟨_,_,hl⟩|⟨ht,_⟩
   ·exact hl
   ·exact absurd ht hb
  by_cases h2:n≤x.g.base∨n>x.g.last + 1
  ·rw [if_pos h2];exact .inl ⟨.inr (.inl rfl),rfl,rfl⟩
  ·rw [if_neg h2]
   by_cases h3:n=x.g.last + 1
   ·rw [if_pos h3]
    refine .inr ⟨hbf,hl,?_,rfl,by simp only;omega⟩
    unfold laterCut
    rw [if_neg (by omega),List.append_nil]
    exact h
   ·rw [if_neg h3]
    have hg:changeL x.g (cutB n)=some ⟨x.g.base,x.g.l.take (n - 1 - x.g.base).toNat⟩:=by
     rw [change_cut (by omega) (by omega)]
     unfold cutTo
     rw [if_neg (by omega),if_pos (by omega)]
    obtain ⟨p1,p2,p3⟩:=h.put hbf (cutB_ok (by omega)) hg
    have hcl:=cutB_len (i:=n) (by omega)
    refine .inr ⟨hbf,hl,?_,p2,by rw [recB_len] at p3;omega⟩
    unfold laterCut
    rw [if_pos (by omega)]
    exact p1
theorem LW.reset {x:WSt} {st:DS} {may:List Lg} {B:Nat} (h:LW x st may B) (n:Int):
  (((resetW x st n).1.2=1∨(resetW x st n).1.2=7∨(resetW x st n).1.2=8)∧(resetW x st n).1.1=st∧(resetW x st n).2=x)∨
  (x.brk=false∧may.getLast? =some x.g∧LW (resetW x st n).2 (resetW x st n).1.1 (may++laterReset n) B∧(resetW x st n).1.1.room=st.room∧total (resetW x st n).1.1.fs≤total st.fs + 17):=by
 unfold resetW
 by_cases hb:x.brk=true
 ·rw [if_pos hb];exact .inl ⟨.inr (.inr rfl),rfl,rfl⟩
 ·rw [if_neg hb]
  have hbf:x.brk=false:=by simpa using hb
  have hl:may.getLast? =some x.g:=by
   rcases h with ⟨_,_,hl⟩|⟨ht,_⟩
   ·exact hl
   ·exact absurd ht hb
  by_cases h2:n<1∨n>1099511627776
  ·rw [if_pos h2];exact .inl ⟨.inl rfl,rfl,rfl⟩
  ·rw [if_neg h2]
   obtain ⟨p1,p2,p3⟩:=h.put hbf (resB_ok (i:=n) (by omega)) (change_res (by omega) (by omega))
   have hcl:=resB_len (i:=n) (by omega)
   refine .inr ⟨hbf,hl,?_,p2,by rw [recB_len] at p3;omega⟩
   unfold laterReset
   rw [if_pos (by omega)]
   exact p1
end Go.Proofs.YtkfedbncmfnpnaaGreatDoor
/- The arguments that are lists of steps. No condition. -/
namespace Go.Proofs.YtkfedbncmfnpnaaGreatDoor
set_option linter.unusedVariables false
set_option linter.unusedSimpArgs false
open Go Go.VC Go.ChangeShapes Go.WideShapes Go.ChangeAt Go.RowKit
variable {H:Type} {enc:TypeId × Value→H} {P:Program} {W:World} {r:Reach} {b0:Nat} {v:Value} {d:DataW H} {p:List MemPlace} {spare:Nat→Bool} {held:Bool}
abbrev stU:U:=.st [.int .i64,.int .i64,.int .i64,.sl entU,.sl (.int .i64)]
theorem ents_form {R:Cx} {s:Sl} {xs:List Tr} (ho:Tr.Ok R (.sl entU) (.sl s xs)):∃ dl:List DE4,EsR R s dl:=by
 obtain ⟨es,h1,_,h3⟩:=sl_form (fun z:DE4=>eRow z) (fun e=>SlR R.m e.1 (b8 e.2.dt)∧∀ y∈e.2.dt,0≤y∧y<256) ho fun x hx=>ent_form hx
 refine ⟨es,h1,fun e he=>(h3 e he).1,fun e he=>?_,sl_cap ho⟩
 obtain ⟨q,hq,rfl⟩:=List.mem_map.1 he
 exact (h3 q hq).2
structure StQ (R:Cx) (e:StE):Prop where
 ents:EsR R e.sl e.dl
 keeps:RoI R e.sk e.keep
 n: -9223372036854775808≤e.n∧e.n<9223372036854775808
theorem st_form {R:Cx} {x:Tr} (ho:x.Ok R stU):∃ e:StE,x.cells=stV e∧StQ R e:=by
 cases x<;>simp only [Tr.Ok] at ho
 rename_i xs
 match xs,ho with
 |[x0,x1,x2,x3,x4],ho=>
  simp only [Tr.OkL,and_true] at ho
  obtain ⟨h0,h1,h2,h3,h4⟩:=ho
  cases x0<;>simp only [Tr.Ok] at h0
  rename_i k0 n0
  obtain ⟨rfl,_⟩:=h0
  cases x1<;>simp only [Tr.Ok] at h1
  rename_i k1 n1
  obtain ⟨rfl,w1⟩:=h1
  cases x2<;>simp only [Tr.Ok] at h2
  rename_i k2 n2
  obtain ⟨rfl,_⟩:=h2
  cases x3<;>simp only [Tr.Ok] at h3
  rename_i sd dx
  have h3:Tr.Ok R (.sl entU) (.sl sd dx):=by unfold Tr.Ok;exact h3
  cases x4<;>simp only [Tr.Ok] at h4
  rename_i sk kx
  have h4:Tr.Ok R (.sl (.int .i64)) (.sl sk kx):=by unfold Tr.Ok;exact h4
  obtain ⟨dl,a1⟩:=ents_form h3
  obtain ⟨ks,b1,_,_⟩:=ints_form h4
  exact ⟨⟨n0,n1,n2,sd,sk,dl,ks⟩,rfl,a1,b1,wf_bd w1⟩
set_option maxRecDepth 100000 in
theorem steps_in (hv:Value.okWide Tryz.prog W r b0 44 v) (h:DataW.Trod enc Tryz.prog W 0 (fun _=>true) true 44 v d p):
  ∃ (s:Sl) (es:List StE),v=.slice s.a s.len s.cap∧RoN 5 (Cx.of W) s (es.map stV)∧∀ e∈es,StQ (Cx.of W) e:=by
 obtain ⟨a,n,c,rfl⟩:=okWide_slice Tryz.underlying44 hv
 obtain ⟨x,hx,ho⟩:=tr_arg (d:=8) (u:=.sl stU) (by kernel_rfl) h
 cases x<;>simp only [Tr.Ok] at ho
 rename_i s xs
 have ho:Tr.Ok (Cx.of W) (.sl stU) (.sl s xs):=by unfold Tr.Ok;exact ho
 obtain ⟨es,h1,_,h3⟩:=sl_form (fun z:StE=>stV z) (fun e=>StQ (Cx.of W) e) ho fun x hx=>st_form hx
 have e:[Value.slice s.a s.len s.cap]=[Value.slice a n c]:=by simpa [Tr.cells,Value.cells] using hx
 have e:=(List.cons.inj e).1
 simp only [Value.slice.injEq] at e
 obtain ⟨rfl,rfl,rfl⟩:=e
 exact ⟨s,es,rfl,h1,h3⟩
theorem ents_light' {fuel:Nat} {s:Sl} {dl:List DE4} (h:DataW.trod enc Tryz.prog W 0 (fun _=>true) true fuel 40 [.slice s.a s.len s.cap]=some (d,p)) (hw:Light Tryz.prog 40 d) (hr:EsR (Cx.of W) s dl):∀ e∈dl,e.2.dt.length≤140737488351232:=
 ents_light (s:=s) ⟨fuel,by simpa [Value.cells] using h⟩ hw hr
theorem steps_light {s:Sl} {es:List StE} (h:DataW.Trod enc Tryz.prog W 0 (fun _=>true) true 44 (.slice s.a s.len s.cap) d p) (hw:Light Tryz.prog 44 d) (hrow:RoN 5 (Cx.of W) s (es.map stV)) (hq:∀ e∈es,StQ (Cx.of W) e):StR (Cx.of W) s es:=by
 refine ⟨hrow,fun e he=>(hq e he).ents,fun e he=>(hq e he).keeps,fun e he=>?_⟩
 obtain ⟨k,hk,rfl⟩:=List.mem_iff_getElem.1 he
 obtain ⟨fuel,h⟩:=h
 have h:DataW.trod enc Tryz.prog W 0 (fun _=>true) true fuel 44 [.slice s.a s.len s.cap]=some (d,p):=h
 have hl:=hrow.len
 rw [List.length_map] at hl
 obtain ⟨a',cs,f1,d1,p1,ha,hc,h1,w1⟩:=light_elem Tryz.underlying44 h hw (k:=k) (by omega)
 have hce:Tryz.prog.cellsOf 43=5:=by kernel_rfl
 rw [hce] at hc
 obtain ⟨hcl,hcc⟩:=cells?_cell hc
 obtain ⟨b,off,hb,hat⟩:=(hrow.reads (eqS (Sat.start W))).2 k (by simpa using hk)
 have hat:=hat 3 [.slice es[k].sl.a es[k].sl.len es[k].sl.cap] (by rw [List.getElem_map];exact ⟨rfl,trivial⟩) W rfl 0 _ rfl
 rw [ha] at hb
 obtain rfl:=Option.some.inj hb
 have h3:cs[3]? =some (.slice es[k].sl.a es[k].sl.len es[k].sl.cap):=by
  rw [←hcc 3 (by omega)]
  simpa [add_off,Nat.add_assoc] using hat
 obtain ⟨f2,d2,p2,h2,w2⟩:=light_field (T:=40) 3 3 1 Tryz.underlying43 h1 w1 (by kernel_rfl) (by kernel_rfl)
 have hcd:(cs.drop 3).take 1=[.slice es[k].sl.a es[k].sl.len es[k].sl.cap]:=by
  match cs,hcl,h3 with
  |[c0,c1,c2,c3,c4],_,h3=>simp at h3;simp [h3]
 rw [hcd] at h2
 exact ents_light' h2 w2 (hq _ he).ents
end Go.Proofs.YtkfedbncmfnpnaaGreatDoor
/- The formulas of functions of this seat's translation, printed by a program of mine off the translation; each is proved equal to 'fnF' of the function's body, so it is enough for the call. No condition. -/
namespace Go.Proofs.YtkfedbncmfnpnaaGreatDoor
open Go Go.VC
set_option linter.unusedVariables false
set_option maxRecDepth 10000
def B30 (i:Int) (c:Sl) (K:Value→World→Prop) (w:World):Prop:=
 New (.cells #[.int .i64 i,.slice c.a c.len c.cap] 59 (0,0)) (fun f e=>
 ∃ g:Int,(At (fun d=>d=e) ⟨f,0,none⟩ [.int .i64 g])∧
 ∃ b:Sl,(At (fun d=>d=e) ⟨f,0 + 1,none⟩ [.slice b.a b.len b.cap])∧
 K (.int .i64 (IntKind.i64.wrap (g + (↑b.len:Int)))) e) w
theorem call30 (c:Int) (b:Sl) (K:Value→World→Prop) (w:World) (h:B30 c b K w):Gets Tryz.prog 30 #[.agg #[.int .i64 c,.slice b.a b.len b.cap]] w K:=cq (sk:=.leaf) Tryz.func30 (by kernel_rfl) (by kernel_rfl) (by kernel_rfl) h
def B68 (p:Int) (f:Sl) (K:Value→World→Prop) (w:World):Prop:=
 New (.cells #[.int .i64 p,.slice f.a f.len f.cap] 59 (0,0)) (fun j r=>
 New (.cells #[.int .i64 0,.slice none 0 0] 59 (0,0)) (fun k s=>
 Drw s fun e t=>
 ∃ l:Int,(At e ⟨j,0,none⟩ [.int .i64 l])∧
 ∃ b:Sl,(At e ⟨j,0 + 1,none⟩ [.slice b.a b.len b.cap])∧
 New (.cells #[] 55 (0,0)) (fun o n=>
 (e n)∧
 ∃ g:World,∃ c:Sl,((Builtin.append_ #[40,40] 40 #[.slice ((some ⟨o,0,none⟩)) 0 0,.slice b.a b.len b.cap]).run Tryz.prog n=.ok (.slice c.a c.len c.cap) g)∧
 (e g)∧
 ∃ i:World,((Instr.storeAt 59 (.pointer ((some ⟨k,0,none⟩))) (.agg #[.int .i64 l,.slice c.a c.len c.cap])).run Tryz.prog g=.ok () i)∧
 ∃ m:Int,∃ d:Sl,(At (fun q=>q=i) ⟨k,0,none⟩ [.int .i64 m,.slice d.a d.len d.cap])∧
 K (.agg #[.int .i64 m,.slice d.a d.len d.cap]) i) t) r) w
theorem call68 (c:Int) (b:Sl) (K:Value→World→Prop) (w:World) (h:B68 c b K w):Gets Tryz.prog 68 #[.agg #[.int .i64 c,.slice b.a b.len b.cap]] w K:=cq (sk:=.leaf) Tryz.func68 (by kernel_rfl) (by kernel_rfl) (by kernel_rfl) h
def B67 (n:Int) (o:Int) (p:Int) (f:Sl) (K:Value→World→Prop) (w:World):Prop:=
 New (.cells #[.int .i64 n,.int .i64 o,.int .i64 p,.slice f.a f.len f.cap] 55 (0,0)) (fun d b=>
 ∃ l:Int,(At (fun c=>c=b) ⟨d,0,none⟩ [.int .i64 l])∧
 Br (decide (l ≥ 1))
 (∃ m:Int,(At (fun c=>c=b) ⟨d,0,none⟩ [.int .i64 m])∧
 Br (decide (m≤1099511627776))
 (∃ g:Int,(At (fun c=>c=b) ⟨d,0 + 1,none⟩ [.int .i64 g])∧
 Br (decide (g ≥ 0))
 (∃ i:Int,(At (fun c=>c=b) ⟨d,0 + 1,none⟩ [.int .i64 i])∧
 Br (decide (i≤1099511627776))
 (∃ j:Int,(At (fun c=>c=b) ⟨d,0 + 2,none⟩ [.int .i64 j])∧
 Br (decide (j ≥ 0))
 (∃ k:Int,(At (fun c=>c=b) ⟨d,0 + 2,none⟩ [.int .i64 k])∧
 Br (decide (k≤7))
 (∃ e:Sl,(At (fun c=>c=b) ⟨d,0 + 3,none⟩ [.slice e.a e.len e.cap])∧
 K (.bool (decide ((↑e.len:Int)≤4096))) b)
 (K (.bool false) b))
 (K (.bool false) b))
 (K (.bool false) b))
 (K (.bool false) b))
 (K (.bool false) b))
 (K (.bool false) b)) w
theorem call67 (c:Int) (d:Int) (e:Int) (b:Sl) (K:Value→World→Prop) (w:World) (h:B67 c d e b K w):Gets Tryz.prog 67 #[.agg #[.int .i64 c,.int .i64 d,.int .i64 e,.slice b.a b.len b.cap]] w K:=cq (sk:=.leaf) Tryz.func67 (by kernel_rfl) (by kernel_rfl) (by kernel_rfl) h
def B29 (bj:Int) (M:Sl) (bk:Int) (bl:Int) (bm:Int) (N:Sl) (O:Sl) (K:Value→World→Prop) (w:World):Prop:=
 New (.cells #[.int .i64 bj,.slice M.a M.len M.cap] 59 (0,0)) (fun d bn=>
 New (.cells #[.int .i64 bk,.int .i64 bl,.int .i64 bm,.slice N.a N.len N.cap,.slice O.a O.len O.cap] 43 (0,0)) (fun e g=>
 ∃ I:Int,(At (fun b=>b=g) ⟨e,0,none⟩ [.int .i64 I])∧
 Br (I==0)
 (∃ (J:Sl→Int→World→Prop) (a7:Sl→Int→World→Nat),(J ⟨none,0,0⟩ 0 g)∧∀ (bu:Env) (c:Sl) (f:Int) (i:World),J c f i→
 ∃ F:Sl,(At (fun b=>b=i) ⟨e,0 + 3,none⟩ [.slice F.a F.len F.cap])∧
 Br (decide (f<(↑F.len:Int)))
 (∃ z:Sl,(At (fun b=>b=i) ⟨e,0 + 3,none⟩ [.slice z.a z.len z.cap])∧
 Rng f z.len (NilP z.a fun a8=>
 ∃ ab:Int,∃ ac:Int,∃ ad:Int,∃ l:Sl,(At (fun b=>b=i) (Addr.add a8 (mulS f.toNat 4)) [.int .i64 ab,.int .i64 ac,.int .i64 ad,.slice l.a l.len l.cap])∧
 Calls Tryz.prog 67 #[.agg #[.int .i64 ab,.int .i64 ac,.int .i64 ad,.slice l.a l.len l.cap]] i fun bf bs=>
 ∃ ae:Bool,(bf=.returned (.bool ae))∧
 ∃ (aa:World→Prop),(Drw bs fun E a5=>
 Br (!ae)
 (K (.slice c.a c.len c.cap) a5)
 (∃ A:Sl,(At E ⟨e,0 + 3,none⟩ [.slice A.a A.len A.cap])∧
 Rng f A.len (NilP A.a fun a9=>
 ∃ af:Int,(At E (Addr.add (Addr.add a9 (mulS f.toNat 4)) 0) [.int .i64 af])∧
 ∃ ag:Int,∃ m:Sl,(At E ⟨d,0,none⟩ [.int .i64 ag,.slice m.a m.len m.cap])∧
 Calls Tryz.prog 30 #[.agg #[.int .i64 ag,.slice m.a m.len m.cap]] a5 fun bg Y=>
 ∃ ah:Int,(bg=.returned (.int .i64 ah))∧
 (E Y)∧
 Br (af !=IntKind.i64.wrap (ah + 1))
 (K (.slice c.a c.len c.cap) Y)
 (aa  Y))))∧
 ∀ (bv:Env)  (Z:World),aa  Z→
 ∃ ai:Int,∃ n:Sl,(At (fun b=>b=Z) ⟨d,0,none⟩ [.int .i64 ai,.slice n.a n.len n.cap])∧
 Calls Tryz.prog 68 #[.agg #[.int .i64 ai,.slice n.a n.len n.cap]] Z fun bh bt=>
 ∃ aj:Int,∃ o:Sl,(bh=.returned (.agg #[.int .i64 aj,.slice o.a o.len o.cap]))∧
 ∃ a6:World,((Instr.storeAt 59 (.pointer ((some ⟨d,0,none⟩))) (.agg #[.int .i64 aj,.slice o.a o.len o.cap])).run Tryz.prog bt=.ok () a6)∧
 Drw a6 fun x bo=>
 ∃ p:Sl,(At x ⟨d,0 + 1,none⟩ [.slice p.a p.len p.cap])∧
 ∃ C:Sl,(At x ⟨e,0 + 3,none⟩ [.slice C.a C.len C.cap])∧
 Rng f C.len (NilP C.a fun ba=>
 ∃ ak:Int,∃ al:Int,∃ am:Int,∃ q:Sl,(At x (Addr.add ba (mulS f.toNat 4)) [.int .i64 ak,.int .i64 al,.int .i64 am,.slice q.a q.len q.cap])∧
 New (.cells #[.int .i64 ak,.int .i64 al,.int .i64 am,.slice q.a q.len q.cap] 55 (0,0)) (fun bc a0=>
 (x a0)∧
 ∃ Q:World,∃ r:Sl,((Builtin.append_ #[40,40] 40 #[.slice p.a p.len p.cap,.slice ((some ⟨bc,0,none⟩)) 1 1]).run Tryz.prog a0=.ok (.slice r.a r.len r.cap) Q)∧
 (x Q)∧
 ∃ T:World,((Instr.storeAt 40 (.pointer ((some ⟨d,0 + 1,none⟩))) (.slice r.a r.len r.cap)).run Tryz.prog Q=.ok () T)∧
 ∃ an:Int,∃ s:Sl,(At (fun b=>b=T) ⟨d,0,none⟩ [.int .i64 an,.slice s.a s.len s.cap])∧
 New (.cells #[.int .i64 an,.slice s.a s.len s.cap] 59 (0,0)) (fun bd bp=>
 ∃ U:World,∃ D:Sl,((Builtin.append_ #[60,60] 60 #[.slice c.a c.len c.cap,.slice ((some ⟨bd,0,none⟩)) 1 1]).run Tryz.prog bp=.ok (.slice D.a D.len D.cap) U)∧
 (J D (IntKind.i64.wrap (f + 1)) U)∧a7 D (IntKind.i64.wrap (f + 1)) U<a7 c f i) T) bo)))
 (K (.slice c.a c.len c.cap) i))
 (Br (I==1)
 (∃ (L:Bool→World→Prop),(Drw g fun y a1=>
 ∃ ao:Int,(At y ⟨e,0 + 1,none⟩ [.int .i64 ao])∧
 ∃ ap:Int,(At y ⟨d,0,none⟩ [.int .i64 ap])∧
 Br (decide (ao>ap))
 (∃ aq:Int,(At y ⟨e,0 + 1,none⟩ [.int .i64 aq])∧
 ∃ ar:Int,∃ t:Sl,(At y ⟨d,0,none⟩ [.int .i64 ar,.slice t.a t.len t.cap])∧
 Calls Tryz.prog 30 #[.agg #[.int .i64 ar,.slice t.a t.len t.cap]] a1 fun bi a2=>
 ∃ au:Int,(bi=.returned (.int .i64 au))∧
 (y a2)∧
 L (decide (aq≤au)) a2)
 (L false a1))∧
 ∀ (bw:Env) (av:Bool) (V:World),L av V→
 Br av
 (Drw V fun j bq=>
 ∃ aw:Int,(At j ⟨d,0,none⟩ [.int .i64 aw])∧
 ∃ u:Sl,(At j ⟨d,0 + 1,none⟩ [.slice u.a u.len u.cap])∧
 ∃ G:Int,(At j ⟨e,0 + 1,none⟩ [.int .i64 G])∧
 ∃ H:Int,(At j ⟨d,0,none⟩ [.int .i64 H])∧
 ((0:Int)≤IntKind.i64.wrap (IntKind.i64.wrap (G - 1) - H))∧
 ((IntKind.i64.wrap (IntKind.i64.wrap (G - 1) - H):Int)≤(↑u.cap:Int))∧
 New (.cells #[.int .i64 aw,.slice u.a ((IntKind.i64.wrap (IntKind.i64.wrap (G - 1) - H)).toNat) u.cap] 59 (0,0)) (fun be a3=>
 (j a3)∧
 ∃ X:World,∃ v:Sl,((Builtin.append_ #[60,60] 60 #[.slice none 0 0,.slice ((some ⟨be,0,none⟩)) 1 1]).run Tryz.prog a3=.ok (.slice v.a v.len v.cap) X)∧
 (j X)∧
 K (.slice v.a v.len v.cap) X) bq)
 (K (.slice none 0 0) V))
 (Br (I==2)
 (∃ ax:Int,(At (fun b=>b=g) ⟨e,0 + 1,none⟩ [.int .i64 ax])∧
 Br (decide (ax ≥ 1))
 (∃ ay:Int,(At (fun b=>b=g) ⟨e,0 + 1,none⟩ [.int .i64 ay])∧
 Br (decide (ay≤1099511627776))
 (∃ az:Int,(At (fun b=>b=g) ⟨e,0 + 1,none⟩ [.int .i64 az])∧
 New (.cells #[.int .i64 (IntKind.i64.wrap (az - 1)),.slice none 0 0] 59 (0,0)) (fun bb br=>
 ∃ a4:World,∃ k:Sl,((Builtin.append_ #[60,60] 60 #[.slice none 0 0,.slice ((some ⟨bb,0,none⟩)) 1 1]).run Tryz.prog br=.ok (.slice k.a k.len k.cap) a4)∧
 K (.slice k.a k.len k.cap) a4) g)
 (K (.slice none 0 0) g))
 (K (.slice none 0 0) g))
 (K (.slice none 0 0) g)))) bn) w
def sk29:Sk:=(.seq .leaf (.seq .leaf (.seq (.seq .leaf (.block (.seq .leaf (.cond (.seq .leaf (.block (.loop [5,6] [.sl,(.int .i64)] [4,5,6,7,12,13,14,15,16,17,18,19,20,21,22,23,24,25,26,27,28,29,30,31,32,33,34,35,36,37,38,39,40,41,42,43,44,45,46,47,48,49,50,51,52,53,54,55] (.seq .leaf (.seq (.block (.seq .leaf (.cut [] [] [4,25,26,27,28,29,30,31,32,33,34,35,36,37,38,39] .leaf .leaf))) .leaf))))) (.seq .leaf (.cond (.cut [69] [.bool] [58,59,60,61,62,63,64,65,66,67,68,69] .leaf .leaf) .leaf)))))) .leaf)))
theorem call29 (e:Int) (b:Sl) (f:Int) (g:Int) (i:Int) (c:Sl) (d:Sl) (K:Value→World→Prop) (w:World) (h:B29 e b f g i c d K w):Gets Tryz.prog 29 #[.agg #[.int .i64 e,.slice b.a b.len b.cap],.agg #[.int .i64 f,.int .i64 g,.int .i64 i,.slice c.a c.len c.cap,.slice d.a d.len d.cap]] w K:=cq (sk:=sk29) Tryz.func29 (by kernel_rfl) (by kernel_rfl) (by kernel_rfl) h
def B6 (U:Int) (q:Sl) (ab:Sl) (K:Value→World→Prop) (w:World):Prop:=
 Calls Tryz.prog 8 #[] w fun bv cf=>
 ∃ C:Bool,(bv=.returned (.bool C))∧
 Calls Tryz.prog 9 #[.slice none 0 0,.slice q.a q.len q.cap] cf fun bw Q=>
 ∃ a8:Bool,(bw=.returned (.bool a8))∧
 ∃ (ak:World→Prop),(Br (!C)
 (K (.bool C) Q)
 (Br a8
 (K (.bool C) Q)
 (Br (decide (U<32))
 (K (.bool C) Q)
 (Br (decide (U>65536))
 (K (.bool C) Q)
 (ak  Q)))))∧
 ∀ (ct:Env)  (bl:World),ak  bl→
 Calls Tryz.prog 17 #[.int .i64 200000] bl fun b6 ai=>
 ∃ D:Option Addr,∃ a9:Int,(b6=.returned (.tuple #[.pointer D,.int .i64 a9]))∧
 ∃ (al:World→Prop),(Br (a9 !=0)
 (K (.bool false) ai)
 (Br D.isNone
 (K (.bool false) ai)
 (al  ai)))∧
 ∀ (cu:Env)  (bn:World),al  bn→
 Calls Tryz.prog 13 #[.pointer D,.int .i64 U] bn fun b7 aj=>
 ∃ E:Option Addr,∃ ba:Int,(b7=.returned (.tuple #[.pointer E,.int .i64 ba]))∧
 ∃ (am:World→Prop),(Br (ba !=0)
 (K (.bool false) aj)
 (Br E.isNone
 (K (.bool false) aj)
 (am  aj)))∧
 ∀ (cv:Env)  (bo:World),am  bo→
 New (.cells #[.int .i64 0,.slice none 0 0] 59 (0,0)) (fun bu cs=>
 ∃ (Z:Sl→World→Prop),(∃ (o:Sl→Int→World→Prop) (j:Sl→Int→World→Nat),(o ⟨(some ⟨bu,0,none⟩),1,1⟩ 0 cs)∧∀ (cw:Env) (e:Sl) (c:Int) (k:World),o e c k→
 ∃ (an:World→Prop),(Br (decide (c<(↑q.len:Int)))
 (Br (decide (c<60))
 (an  k)
 (Z e k))
 (Z e k))∧
 ∀ (cx:Env)  (ac:World),an  ac→
 Rng c q.len (NilP q.a fun br=>
 ∃ bb:Int,∃ bc:Int,∃ bd:Int,∃ F:Sl,∃ G:Sl,(At (fun b=>b=ac) (Addr.add br (mulS c.toNat 5)) [.int .i64 bb,.int .i64 bc,.int .i64 bd,.slice F.a F.len F.cap,.slice G.a G.len G.cap])∧
 New (.cells #[.int .i64 0,.int .i64 0,.int .i64 0,.slice none 0 0,.slice none 0 0] 43 (0,0)) (fun m cg=>
 ∃ ad:World,((Instr.storeAt 43 (.pointer ((some ⟨m,0,none⟩))) (.agg #[.int .i64 bb,.int .i64 bc,.int .i64 bd,.slice F.a F.len F.cap,.slice G.a G.len G.cap])).run Tryz.prog cg=.ok () ad)∧
 Rng (IntKind.i64.wrap ((↑e.len:Int) - 1)) e.len (NilP e.a fun bs=>
 ∃ be:Int,∃ H:Sl,(At (fun b=>b=ad) (Addr.add bs (mulS (IntKind.i64.wrap ((↑e.len:Int) - 1)).toNat 2)) [.int .i64 be,.slice H.a H.len H.cap])∧
 New (.cells #[.int .i64 0,.slice none 0 0] 59 (0,0)) (fun aa ch=>
 ∃ i:World,((Instr.storeAt 59 (.pointer ((some ⟨aa,0,none⟩))) (.agg #[.int .i64 be,.slice H.a H.len H.cap])).run Tryz.prog ch=.ok () i)∧
 ∃ (l:Sl→Int→World→Prop),(∃ I:Int,(At (fun b=>b=i) ⟨m,0,none⟩ [.int .i64 I])∧
 Br (I==0)
 (∃ J:Sl,(At (fun b=>b=i) ⟨m,0 + 3,none⟩ [.slice J.a J.len J.cap])∧
 Calls Tryz.prog 18 #[.pointer E,.slice J.a J.len J.cap] i fun b8 ci=>
 ∃ bf:Int,(b8=.returned (.int .i64 bf))∧
 l e bf ci)
 (Br (I==1)
 (∃ bg:Int,(At (fun b=>b=i) ⟨m,0 + 1,none⟩ [.int .i64 bg])∧
 Calls Tryz.prog 26 #[.pointer E,.int .i64 bg] i fun b9 cj=>
 ∃ bh:Int,(b9=.returned (.int .i64 bh))∧
 l e bh cj)
 (Br (I==2)
 (∃ bi:Int,(At (fun b=>b=i) ⟨m,0 + 1,none⟩ [.int .i64 bi])∧
 Calls Tryz.prog 27 #[.pointer E,.int .i64 bi] i fun ca ck=>
 ∃ aq:Int,(ca=.returned (.int .i64 aq))∧
 l e aq ck)
 (Br (I==3)
 (Calls Tryz.prog 23 #[.pointer E] i fun cb ae=>
 ∃ V:Int,(cb=.returned (.int .i64 V))∧
 Br (V==0)
 (∃ ar:Int,∃ r:Sl,(At (fun b=>b=ae) ⟨aa,0,none⟩ [.int .i64 ar,.slice r.a r.len r.cap])∧
 New (.cells #[.int .i64 ar,.slice r.a r.len r.cap] 59 (0,0)) (fun bt cl=>
 l ⟨(some ⟨bt,0,none⟩),1,1⟩ V cl) ae)
 (l e V ae))
 (Br (I==7)
 (∃ au:Int,(At (fun b=>b=i) ⟨m,0 + 1,none⟩ [.int .i64 au])∧
 Calls Tryz.prog 28 #[.pointer D,.int .i64 au] i fun cc cm=>
 ∃ ce:Int,(cc=.returned (.int .i64 ce))∧
 l e 0 cm)
 (l e 0 i))))))∧
 ∀ (cy:Env) (g:Sl) (T:Int) (f:World),l g T f→
 ∃ av:Int,(At (fun b=>b=f) ⟨m,0,none⟩ [.int .i64 av])∧
 Br (decide (av>2))
 ((o g (IntKind.i64.wrap (c + 1)) f)∧j g (IntKind.i64.wrap (c + 1)) f<j e c k)
 (Br (T==1)
 ((o g (IntKind.i64.wrap (c + 1)) f)∧j g (IntKind.i64.wrap (c + 1)) f<j e c k)
 (Br (T==7)
 ((o g (IntKind.i64.wrap (c + 1)) f)∧j g (IntKind.i64.wrap (c + 1)) f<j e c k)
 (Br (T==8)
 ((o g (IntKind.i64.wrap (c + 1)) f)∧j g (IntKind.i64.wrap (c + 1)) f<j e c k)
 (∃ aw:Int,∃ s:Sl,(At (fun b=>b=f) ⟨aa,0,none⟩ [.int .i64 aw,.slice s.a s.len s.cap])∧
 ∃ ax:Int,∃ ay:Int,∃ az:Int,∃ t:Sl,∃ u:Sl,(At (fun b=>b=f) ⟨m,0,none⟩ [.int .i64 ax,.int .i64 ay,.int .i64 az,.slice t.a t.len t.cap,.slice u.a u.len u.cap])∧
 Calls Tryz.prog 29 #[.agg #[.int .i64 aw,.slice s.a s.len s.cap],.agg #[.int .i64 ax,.int .i64 ay,.int .i64 az,.slice t.a t.len t.cap,.slice u.a u.len u.cap]] f fun cd cn=>
 ∃ v:Sl,(cd=.returned (.slice v.a v.len v.cap))∧
 ∃ af:World,∃ O:Sl,((Builtin.append_ #[60,60] 60 #[.slice g.a g.len g.cap,.slice v.a v.len v.cap]).run Tryz.prog cn=.ok (.slice O.a O.len O.cap) af)∧
 (o O (IntKind.i64.wrap (c + 1)) af)∧j O (IntKind.i64.wrap (c + 1)) af<j e c k))))) ad)) ac))∧
 ∀ (cz:Env) (n:Sl) (bj:World),Z n bj→
 Calls Tryz.prog 25 #[.pointer D,.slice ab.a ab.len ab.cap] bj fun bx co=>
 (bx=.returned (.tuple #[]))∧
 Calls Tryz.prog 13 #[.pointer D,.int .i64 U] co fun bz ag=>
 ∃ x:Option Addr,∃ a0:Int,(bz=.returned (.tuple #[.pointer x,.int .i64 a0]))∧
 ∃ (ao:World→Prop),(Br (a0 !=0)
 (K (.bool false) ag)
 (Br x.isNone
 (K (.bool false) ag)
 (ao  ag)))∧
 ∀ (c0:Env)  (bk:World),ao  bk→
 Calls Tryz.prog 22 #[.pointer x] bk fun b0 cp=>
 ∃ a1:Int,(b0=.returned (.int .i64 a1))∧
 Calls Tryz.prog 21 #[.pointer x,.int .i64 a1,.int .i64 100000] cp fun b1 cq=>
 ∃ y:Sl,(b1=.returned (.slice y.a y.len y.cap))∧
 ∃ (M:Int→World→Prop) (L:Int→World→Nat),(M 0 cq)∧∀ (c1:Env) (d:Int) (p:World),M d p→
 Br (decide (d<(↑n.len:Int)))
 (Rng d n.len (NilP n.a fun ap=>
 ∃ z:Sl,(At (fun b=>b=p) ⟨(ap.add (mulS d.toNat 2)).block,(ap.add (mulS d.toNat 2)).off + 1,none⟩ [.slice z.a z.len z.cap])∧
 Calls Tryz.prog 20 #[.slice y.a y.len y.cap,.slice z.a z.len z.cap] p fun b2 cr=>
 ∃ a2:Bool,(b2=.returned (.bool a2))∧
 Drw cr fun N ah=>
 Br a2
 (Rng d n.len (NilP n.a fun bp=>
 ∃ a4:Int,(At N (Addr.add (Addr.add bp (mulS d.toNat 2)) 0) [.int .i64 a4])∧
 Calls Tryz.prog 22 #[.pointer x] ah fun b3 X=>
 ∃ a3:Int,(b3=.returned (.int .i64 a3))∧
 (N X)∧
 Br (a3==IntKind.i64.wrap (a4 + 1))
 (Rng d n.len (NilP n.a fun bq=>
 ∃ a6:Int,∃ A:Sl,(At N (Addr.add bq (mulS d.toNat 2)) [.int .i64 a6,.slice A.a A.len A.cap])∧
 Calls Tryz.prog 24 #[.pointer x] X fun b4 bm=>
 ∃ a5:Int,(b4=.returned (.int .i64 a5))∧
 (N bm)∧
 Calls Tryz.prog 30 #[.agg #[.int .i64 a6,.slice A.a A.len A.cap]] bm fun b5 Y=>
 ∃ a7:Int,(b5=.returned (.int .i64 a7))∧
 (N Y)∧
 Br (a5==a7)
 (K (.bool true) Y)
 ((M (IntKind.i64.wrap (d + 1)) Y)∧L (IntKind.i64.wrap (d + 1)) Y<L d p)))
 ((M (IntKind.i64.wrap (d + 1)) X)∧L (IntKind.i64.wrap (d + 1)) X<L d p)))
 ((M (IntKind.i64.wrap (d + 1)) ah)∧L (IntKind.i64.wrap (d + 1)) ah<L d p)))
 (K (.bool false) p)) bo
def sk6:Sk:=(.seq .leaf (.seq .leaf (.seq .leaf (.cut [] [] [6,23,24,25,26,27,28,29,30,31,32,33,34,35,36] .leaf (.seq .leaf (.cut [] [] [6,41,42,43,44,45,46] .leaf (.seq .leaf (.cut [] [] [6,53,54,55,56,57,58] .leaf (.seq .leaf (.cut [12] [.sl] [12,13,14,15,16,61,62,63,64,65,66,67,68,69,70,71,72,73,74,75,76,77,78,79,80,81,82,83,84,85,86,87,88,89,90,91,92,93,94,95,96,97,98,99,100,101,102,103,104,105,106,107,108,109,110,111,112,113,114,115,116,117,118,119,120,121,122,123,124,125,126,127,128,129,130,131,132,133,134] (.seq .leaf (.block (.loop [12,13] [.sl,(.int .i64)] [12,13,14,15,16,61,62,63,64,65,66,67,68,69,70,71,72,73,74,75,76,77,78,79,80,81,82,83,84,85,86,87,88,89,90,91,92,93,94,95,96,97,98,99,100,101,102,103,104,105,106,107,108,109,110,111,112,113,114,115,116,117,118,119,120,121,122,123,124,125,126,127,128,129,130,131,132,133,134] (.cut [] [] [61,62,63,64,65,66,67,68] .leaf (.seq (.block (.seq .leaf (.seq .leaf (.seq .leaf (.cut [12,16] [.sl,(.int .i64)] [12,16,81,82,83,84,85,86,87,88,89,90,91,92,93,94,95,96,97,98,99,100,101,102,103,104,105,106,107,108,109,110,111,112,113,114] .leaf .leaf))))) .leaf))))) (.seq .leaf (.seq .leaf (.cut [] [] [6,144,145,146,147,148,149] .leaf (.seq .leaf (.seq (.seq .leaf (.block (.loop [18] [(.int .i64)] [6,18,19,154,155,156,157,158,159,160,161,162,163,164,165,166,167,168,169,170,171,172,173,174,175,176,177,178,179,180,181,182,183,184,185,186,187,188] .leaf))) .leaf)))))))))))))))
theorem call6 (d:Int) (c:Sl) (b:Sl) (K:Value→World→Prop) (w:World) (h:B6 d c b K w):Gets Tryz.prog 6 #[.int .i64 d,.slice c.a c.len c.cap,.slice b.a b.len b.cap] w K:=cq (sk:=sk6) Tryz.func6 (by kernel_rfl) (by kernel_rfl) (by kernel_rfl) h
end Go.Proofs.YtkfedbncmfnpnaaGreatDoor
/- Reference 06: Last, Right. Condition: bounds on lengths. -/
namespace Go.Proofs.YtkfedbncmfnpnaaGreatDoor
set_option linter.unusedVariables false
set_option linter.unusedSimpArgs false
open Go Go.VC
variable {R R':Cx} {Hs Rest:List HP} {w:World}
theorem logLast_spec {base:Int} {s:Sl} (h0:0≤base) (h1:base≤1099511627776) (hl:s.len≤1000000) (hw:Sat R Hs w):Gets Tryz.prog 30 #[.agg #[.int .i64 base,.slice s.a s.len s.cap]] w fun v w'=>v=.int .i64 (base + s.len)∧Sat R Hs w':=by
 apply call30
 refine new_rule hw fun b w hw=>?_
 refine ⟨_,At.own (eqS hw) (by exact ⟨rfl,trivial⟩),_,At.own (eqS hw) (by exact ⟨rfl,trivial⟩),?_,hw.drop⟩
 rw [wrap64 (by omega) (by omega)]
open Classical in
theorem right06_spec {e:DE4} (hs:e.1.len=e.2.dt.length) (hw:Sat R Hs w):Gets Tryz.prog 67 #[eVal e] w fun v w'=>v=.bool (decide e.2.Ok)∧Sat R Hs w':=by
 apply call67
 refine new_rule hw fun b w hw=>?_
 have hw:Sat R (pts b (.cells (eRow e).toArray 55 (0,0))::Hs) w:=hw
 have no:¬ e.2.Ok→(Value.bool false=.bool (decide e.2.Ok)∧Sat R Hs w):=fun h=>⟨by rw [decide_eq_false h],hw.drop⟩
 refine ⟨e.2.ix,At.own (eqS hw) (by exact ⟨rfl,trivial⟩),Br.d (fun a1=>?_) (fun h=>no fun o=>h o.i0)⟩
 refine ⟨e.2.ix,At.own (eqS hw) (by exact ⟨rfl,trivial⟩),Br.d (fun a2=>?_) (fun h=>no fun o=>h o.i1)⟩
 refine ⟨e.2.tm,At.own (eqS hw) (by exact ⟨rfl,trivial⟩),Br.d (fun a3=>?_) (fun h=>no fun o=>h o.t0)⟩
 refine ⟨e.2.tm,At.own (eqS hw) (by exact ⟨rfl,trivial⟩),Br.d (fun a4=>?_) (fun h=>no fun o=>h o.t1)⟩
 refine ⟨e.2.kd,At.own (eqS hw) (by exact ⟨rfl,trivial⟩),Br.d (fun a5=>?_) (fun h=>no fun o=>h o.k0)⟩
 refine ⟨e.2.kd,At.own (eqS hw) (by exact ⟨rfl,trivial⟩),Br.d (fun a6=>?_) (fun h=>no fun o=>h o.k1)⟩
 refine ⟨e.1,At.own (eqS hw) (by exact ⟨rfl,trivial⟩),?_,hw.drop⟩
 congr 1
 refine decide_eq_decide.2 ⟨fun h=>⟨a1,a2,a3,a4,a5,a6,by omega⟩,fun o=>by have:=o.d1;omega⟩
end Go.Proofs.YtkfedbncmfnpnaaGreatDoor
/- A log on a disk: where the law WalLasts begins. Condition: the library's table of powers is laid. -/
namespace Go.Proofs.YtkfedbncmfnpnaaGreatDoor
set_option linter.unusedVariables false
set_option linter.unusedSimpArgs false
open Go Go.VC
variable {R R':Cx} {Hs Rest:List HP} {w:World}
theorem fresh_all {room lim:Int} (h0:1000≤room) (h2:32≤lim) (h3:lim≤65536):AllS (openD ⟨room,[],-1,-1,false⟩ lim) 1 1 [[]]:=fun c hcm=>by
 have hl:loadD ⟨room,[],-1,-1,false⟩=⟨⟨0,[]⟩,[],none,[]⟩:=by
  have hn:namesOf ([]:Fs)=[]:=by unfold namesOf;simp
  unfold loadD
  rw [hn]
  rfl
 have hs:scratchN ∉ namesOf ([]:Fs):=by unfold namesOf;simp [namesOf]
 have hbl:(headB 1 1).length≤21:=by unfold headB;rw [recB_len];have:=hdB_len (n:=1) (next:=1) (by omega) (by omega);omega
 obtain ⟨b,hbb⟩:∃ b,b=headB 1 1:=⟨_,rfl⟩
 have c0:Calm ⟨room,[],-1,-1,false⟩:=⟨rfl,rfl,rfl⟩
 obtain ⟨g1,g2,g3,g4⟩:=append_calm c0 (k:=segName 1) (xs:=b) (seg_nameOk _) (by rw [hbb];show (0:Int) + _≤room;omega)
 have hgs:=append_new (st:=⟨room,[],-1,-1,false⟩) (k:=segName 1) rfl g1
 obtain ⟨j1,j2,j3,j4⟩:=sync_calm g2 (seg_nameOk 1) hgs
 have hmk:makeD ⟨room,[],-1,-1,false⟩ 1 1=syncD (appendD ⟨room,[],-1,-1,false⟩ (segName 1) b).1 (segName 1):=by
  unfold makeD
  rw [←hbb,thenD_ok g1]
 have hrec:recoverD ⟨room,[],-1,-1,false⟩=makeD ⟨room,[],-1,-1,false⟩ 1 1:=by
  unfold recoverD
  simp only [hl,if_neg hs,thenD,if_true,unlinksD]
 have hc:¬ (lim<32∨lim>65536):=by omega
 have ho:openD ⟨room,[],-1,-1,false⟩ lim=(syncD (appendD ⟨room,[],-1,-1,false⟩ (segName 1) b).1 (segName 1)).1:=by
  unfold openD;rw [if_neg hc,if_neg (by simp),hrec,hmk]
 simp only [mkC,List.mem_singleton] at hcm
 subst hcm
 rw [ho,sync_done hgs j1,hbb]
 simp only [Sc.bytes,Sc.recs,List.map_nil,recsB_one]
 rfl
theorem fine_of {st:DS} {lim:Int} {n:Nat} {i:Int} {a:List (List Ey)} {es:List Ey} (f:Fu st n i (a++[es])) (al:AllS st n i (a++[es])):FineA (xOf lim n i (a++[es])) st (·∈[(⟨i - 1,(a++[es]).flatten⟩:Lg)]) (mkC n i a) (lastC n i a es) (lastC n i a es).bytes.length:=by
 have hm:mkC n i (a++[es])=mkC n i a++[lastC n i a es]:=mkC_snoc n i a es
 have hch:=f.chain
 rw [hm] at hch
 refine ⟨⟨f.inv,fun s hs=>al s (by rw [hm];exact List.mem_append_left _ hs),al _ (by rw [hm];simp),fun q hq=>by rw [←hm];exact f.only q hq⟩,hch,by show (mkC n i (a++[es])).map Sc.sg=_;rw [hm],?_,fun j g3 hj hmax hc=>?_⟩
 ·show _≤(recsB _).length
  rw [recsB_len,Sc.recs,scanLen_cons]
  unfold headB
  rw [recB_len]
  omega
 ·have hjl:=hmax (lastC n i a es).bs.length (Nat.le_refl _) (by rw [List.take_length];unfold Sc.bytes Sc.recs;rw [recsB_len];exact Nat.le_refl _)
  rw [List.take_of_length_le hjl] at hc
  rw [chain_det hc hch]
  simp
theorem new_open2 {d:Nat} {room lim:Int} (h0:1000≤room) (h1:room≤16777216) (h2:32≤lim) (h3:lim≤65536) (hp:PowR R) (hw:Sat R (DiskAt d ⟨room,[],-1,-1,false⟩::Hs) w):
  Gets Tryz.prog 13 #[.pointer (some ⟨d,0,none⟩),.int .i64 lim] w fun v w'=>∃ (R':Cx) (p:Nat) (s:Sl) (ds:List DE4) (sg:Sl) (st:DS),R.Ext R'∧v=.tuple #[.pointer (some ⟨p,0,none⟩),.int .i64 0]∧DsR R' ds∧erE ds=(xOf lim 1 1 [[]]).g.l∧
   LW (xOf lim 1 1 [[]]) st [⟨0,[]⟩] 1∧Fu st 1 1 [[]]∧total st.fs≤21∧st.room=room∧Sat R' (WX p d (xOf lim 1 1 [[]]) s sg ds st Hs) w':=by
 have i0:Inv ⟨room,[],-1,-1,false⟩:=inv_new (by omega) h1
 obtain ⟨st,e1,e2,e3,f,c,t,r⟩:=fresh_full h0 h1 h2 h3 i0
 have al:=fresh_all h0 h2 h3
 rw [e2] at al
 refine (open_spec lim i0 (fun e he=>by cases he) (by simp) hp hw).mono fun v w' h=>?_
 rw [e1] at h
 rcases h with ⟨h,_⟩|⟨_,R',p,s,ds,sg,g1,g2,g3,g4,_,_,_,_,g9⟩
 ·exact absurd rfl h
 ·rw [e3] at g4 g9
  rw [e2] at g9
  exact ⟨R',p,s,ds,sg,st,g1,g3,g2,g4,.inl ⟨rfl,⟨_,_,_,fine_of (a:=[]) (es:=[]) f al,by simp⟩,rfl⟩,f,t,r,g9⟩
end Go.Proofs.YtkfedbncmfnpnaaGreatDoor
/- Reference 06: Copy. Condition: bounds on lengths. -/
namespace Go.Proofs.YtkfedbncmfnpnaaGreatDoor
set_option linter.unusedVariables false
set_option linter.unusedSimpArgs false
open Go Go.VC
variable {R R':Cx} {Hs Rest:List HP} {w:World}
theorem allTruA {Hs:List HP}:∀ {R:Cx},Sat R Hs w→Sat R [VC.tru] w:=by
 induction Hs with
 |nil=>exact fun h=>h.tru
 |cons A Hs ih=>exact fun h=>Sat.absorb (h.cons fun _ h=>ih h)
theorem eRow_all (dl:List DE4):oneAll (dl.map eRow).flatten=true:=by
 unfold oneAll
 rw [List.all_eq_true]
 intro v hv
 obtain ⟨r,h1,h2⟩:=List.mem_flatten.1 hv
 obtain ⟨x,_,rfl⟩:=List.mem_map.1 h1
 simp at h2
 rcases h2 with rfl|rfl|rfl|rfl<;>rfl
abbrev lgC (b:Nat) (base:Int) (s:Sl):HP:=pts b (.cells #[.int .i64 base,.slice s.a s.len s.cap] 59 (0,0))
end Go.Proofs.YtkfedbncmfnpnaaGreatDoor
/- Later logs: Cut, Reset (Append: not done). Condition: bounds on lengths. -/
namespace Go.Proofs.YtkfedbncmfnpnaaGreatDoor
set_option linter.unusedVariables false
set_option linter.unusedSimpArgs false
open Go Go.VC
open Classical
variable {R R':Cx} {Hs Rest:List HP} {w:World}
abbrev LgE:=Int × Sl × List DE4
abbrev lgRow (e:LgE):List Value:=[.int .i64 e.1,.slice e.2.1.a e.2.1.len e.2.1.cap]
def LgR (R:Cx) (e:LgE):Prop:=RoN 4 R e.2.1 (e.2.2.map eRow)∧DsR R e.2.2∧e.2.1.len≤e.2.1.cap
theorem LgR.ext {e:LgE} (h:LgR R e) (x:R.Ext R'):LgR R' e:=⟨x.roN h.1,h.2.1.ext x,h.2.2⟩
def lgOf (e:LgE):Lg:=⟨e.1,erE e.2.2⟩
theorem elL:ElN Tryz.prog 60 60 59 2 32:=⟨Tryz.underlying60,⟨_,Tryz.underlying60⟩,by kernel_rfl⟩
noncomputable def laterS (g:Lg) (e:StE):List Lg:=if e.d=0 then laterApp g (erE e.dl) else if e.d=1 then laterCut g e.n else if e.d=2 then laterReset e.n else []
abbrev LgsO (t:Sl) (ls:List LgE):HP:=OwnN 2 t 59 (ls.map lgRow)
theorem one_log {R:Cx} {Hs:List HP} {w:World} {b:Nat} {q:LgE} {K:Sl→World→Prop} (hw:Sat R (pts b (.cells (lgRow q).toArray 59 (0,0))::Hs) w) (k:∀ t w',Sat R (LgsO t [q]::Hs) w'→K t w'):
  ∃ w':World,∃ t:Sl,((Builtin.append_ #[ 60,60 ] 60 #[.slice none 0 0,.slice ((some ⟨b,0,none⟩)) 1 1]).run Tryz.prog w=.ok (.slice t.a t.len t.cap) w')∧K t w':=by
 have h:=pushN_in (s:=⟨none,0,0⟩) (ty:=60) (K:=K) elL (OwnN.nil (T:=59) (n:=2) hw) rfl rfl (by simp) (by simp) (fun t w' h=>k t w' h)
 exact h
theorem nil_log {R:Cx} {Hs:List HP} {w:World} (hw:Sat R Hs w):Sat R (LgsO ⟨none,0,0⟩ []::Hs) w:=OwnN.nil hw
end Go.Proofs.YtkfedbncmfnpnaaGreatDoor
/- Reference 06: Copy, its array one's own. Condition: bounds on lengths. -/
namespace Go.Proofs.YtkfedbncmfnpnaaGreatDoor
set_option linter.unusedVariables false
set_option linter.unusedSimpArgs false
open Go Go.VC
variable {R R':Cx} {Hs Rest:List HP} {w:World}
theorem logCopyO_spec {base:Int} {s:Sl} {dl:List DE4} (hl:RoN 4 R s (dl.map eRow)) (hlen:dl.length≤1000000) (hw:Sat R Hs w):Gets Tryz.prog 68 #[.agg #[.int .i64 base,.slice s.a s.len s.cap]] w
  fun v w'=>∃ t:Sl,v=.agg #[.int .i64 base,.slice t.a t.len t.cap]∧Sat R (EntO t dl::Hs) w':=by
 apply call68
 refine new_rule hw fun b1 w hw=>new_rule hw fun b2 w hw=>?_
 have hw:Sat R (lgC b1 base s::lgC b2 0 ⟨none,0,0⟩::Hs) w:=hw.swap
 have toS:∀ {A:List HP} {w:World},Sat R (lgC b1 base s::A) w→Sat R [lgC b1 base s,VC.tru] w:=fun h=>h.cons fun _ h=>allTruA h
 refine drw_rule' (Sat R [lgC b1 base s,VC.tru]) hw (fun w hw=>toS hw) fun w hw=>?_
 refine ⟨base,At.own selfS (by exact ⟨rfl,trivial⟩),s,At.own selfS (by exact ⟨rfl,trivial⟩),?_⟩
 refine new_rule hw fun b3 w hw=>⟨toS hw.swap,?_⟩
 have hs:=srcRoN elE.hk hw hl (eRow_all dl)
 refine appendN0_rule elE hw hs hl.wid (by rw [List.length_map];omega) (by rw [List.length_map];omega) fun t w hw=>⟨toS hw.swap,?_⟩
 have hw:Sat R (lgC b2 0 ⟨none,0,0⟩::EntO t dl::lgC b1 base s::Hs) w:=hw.arr
 refine store_rule hw (by kernel_rfl) rfl (by simp [Value.cells]) fun w hw=>?_
 have hw:=hw.re (lgC b2 base t)
 exact ⟨base,t,At.own (eqS hw) (by exact ⟨rfl,rfl,trivial⟩),t,rfl,hw.drop.cons fun _ h=>h.drop⟩
end Go.Proofs.YtkfedbncmfnpnaaGreatDoor
