/- A log on a disk: what there is, loaded. Condition: bounds on lengths; the library's table of powers is laid. -/
import Derived.Test.YtkfedbncmfnpnaaGreatDoorB4
import Derived.Test.YtkfedbncmfnpnaaGreatDoorB2
import Derived.ProofKit
import Derived.OpenShut
import Derived.ShutString
import Derived.ChangeOld
import Derived.Below
import Derived.Lib.SmallJoins
import Derived.SizedLaws
import Derived.Stop.LaidErr
namespace Go.Proofs.YtkfedbncmfnpnaaGreatDoor
set_option linter.unusedVariables false
set_option linter.unusedSimpArgs false
open Go Go.VC
variable {R R':Cx} {Hs Rest:List HP} {w:World}
abbrev sRow (s:Sg):List Value:=[.int .i64 s.num,.int .i64 s.next,.int .i64 s.size]
abbrev sCells (s:Sg):Obj:=.cells (sRow s).toArray 96 (0,0)
abbrev SegO (s:Sl) (segs:List Sg):HP:=OwnN 3 s 96 (segs.map sRow)
abbrev WS (p d:Nat) (lim base:Int) (s sg:Sl) (brk:Bool) (ds:List DE4) (segs:List Sg) (st:DS) (Hs:List HP):List HP:=pts p (wCells d lim base s sg brk)::EntO s ds::SegO sg segs::DiskAt d st::Hs
def AmAt (am:Option Addr) (o:Option Sg):HP:=match o with
  |none=>pur (am=none)
  |some g=>exs fun b:Nat=>Star [pur (am=some ⟨b,0,none⟩),pts b (sCells g)]
theorem AmAt.no (h:Sat R Hs w):Sat R (AmAt none none::Hs) w:=Sat.pur.2 ⟨rfl,h⟩
theorem AmAt.yes {b:Nat} {g:Sg} (h:Sat R (pts b (sCells g)::Hs) w):Sat R (AmAt (some ⟨b,0,none⟩) (some g)::Hs) w:=Sat.exs.2 ⟨b,Sat.star.2 (Sat.pur.2 ⟨rfl,h⟩)⟩
theorem stars_leak {T:TypeId}:∀ {ps:List (Sl × List Int)} {R:Cx} {Hs:List HP} {w:World},Sat R (Star (ps.map fun p=>Own p.1 T (b8 p.2))::Hs) w→∃ R',R.Ext R'∧(∀ p∈ps,SlR R'.m p.1 (b8 p.2))∧Sat R' Hs w
  |[],R,_,_,h=>⟨R,.refl,fun _ h=>(by cases h),Sat.star.1 h⟩
  |p::ps,R,Hs,w,h=>by
    have h1:Sat R (Own p.1 T (b8 p.2)::(ps.map fun p=>Own p.1 T (b8 p.2))++Hs) w:=Sat.star.1 h
    obtain ⟨R1,e1,g1,h2⟩:=Own.leak h1
    obtain ⟨R2,e2,g2,h3⟩:=stars_leak (Sat.star.2 h2)
    refine ⟨R2,e1.trans e2,fun q hq=>?_,h3⟩
    rcases List.mem_cons.1 hq with rfl|hq
    · exact e2.slR g1
    · exact g2 q hq
theorem bytes_leak {l:Sl} {xss:List (List Int)} (h:Sat R (BytesL l xss::Hs) w):∃ (R':Cx) (ps:List (Sl × List Int)),R.Ext R'∧ps.map (·.2)=xss∧SlR R'.m l ((ps.map fun p:Sl × List Int=>p.1).map Sl.v)∧(∀ p∈ps,SlR R'.m p.1 (b8 p.2))∧Sat R' Hs w:=by
  obtain ⟨ps,hps,hw⟩:=Sat.bytesL.1 h
  obtain ⟨R1,e1,g1,hw⟩:=Own.leak hw
  obtain ⟨R2,e2,g2,hw⟩:=stars_leak hw
  refine ⟨R2,ps,e1.trans e2,hps,?_,g2,hw⟩
  rw [List.map_map]
  exact e2.slR g1
theorem _root_.Go.VC.SlR.ixS {s:Sl} {ps:List Sl} {S:World→Prop} {i:Int} (hr:SlR R.m s (ps.map Sl.v)) (hS:∀ w,S w→Sat R Hs w) (j:Nat) (hi:i=j) (hj:j<ps.length) {F:Sl→Prop} (h:F ps[j]):
    Rng i s.len (NilP s.a fun a=>∃ t:Sl,(At S (a.add i.toNat) [.slice t.a t.len t.cap])∧F t):=by
  subst hi
  have hl:s.len=ps.length:=by have:=hr.len;simpa using this
  obtain ⟨b,off,l,T,fr,ha,hb,hel⟩:=hr.mem (by intro h0;rw [List.map_eq_nil_iff] at h0;rw [h0] at hj;simp at hj)
  refine Rng.mk (by omega) (by omega) (NilP.mk ha ⟨ps[j],fun w hw i v hv=>?_,h⟩)
  have hi:i=0:=by
    cases i with
    |zero=>rfl
    |succ i=>simp at hv
  subst hi
  simp only [List.getElem?_cons_zero,Option.some.injEq] at hv
  subst hv
  rw [Int.toNat_natCast,add_off,add_off]
  have:=(hS w hw).of_ro hb
  simp only [World.cell?,this,Option.isSome_none,Bool.false_eq_true,if_false]
  exact hel j _ (by simp [hj,Sl.v])
def LoadQ (R:Cx) (Hs:List HP) (p d:Nat) (lim:Int) (brk:Bool) (st:DS) (v:Value) (w:World):Prop:=
  ∃ R' base s ds sg am bh,R.Ext R'∧DsR R' ds∧v=.tuple #[.pointer am,.slice bh.a bh.len bh.cap]∧(⟨base,erE ds⟩:Lg)=(loadD st).g∧SlR R'.m bh (encN (loadD st).behind)∧0≤base∧base≤1099511627776∧ds.length≤100000000000∧
    (loadD st).segs.length≤40000∧Sat R' (AmAt am (loadD st).amiss::WS p d lim base s sg brk ds (loadD st).segs st Hs) w
theorem load_spec {p d:Nat} {lim base:Int} {s sg:Sl} {brk:Bool} {ds:List DE4} {segs:List Sg} {st:DS} (i:Inv st) (hby:ByOk st.fs) (hc:st.fs.length≤40000) (hp:PowR R) (hw:Sat R (WS p d lim base s sg brk ds segs st Hs) w):
    Gets Tryz.prog 58 #[.pointer (some ⟨p,0,none⟩)] w (LoadQ R Hs p d lim brk st):=by
  apply call58
  suffices H:∀ K:Value→World→Prop,(∀ v w',LoadQ R Hs p d lim brk st v w'→K v w')→B58 (some ⟨p,0,none⟩) K w from H _ fun _ _ h=>h
  intro K hK
  refine NilP.mk rfl ?_
  refine store_rule hw (by kernel_rfl) rfl (by simp [Value.cells,putL_len]) fun w hw=>?_
  refine NilP.mk rfl ?_
  refine store_rule hw (by kernel_rfl) rfl (by simp [Value.cells,putL_len]) fun w hw=>?_
  have hw:Sat R (pts p (wCells d lim 0 ⟨none,0,0⟩ ⟨none,0,0⟩ brk)::EntO s ds::SegO sg segs::DiskAt d st::Hs) w:=hw
  have hw:Sat R (DiskAt d st::pts p (wCells d lim 0 ⟨none,0,0⟩ ⟨none,0,0⟩ brk)::Hs) w:=(hw.cons fun _ h=>h.drop.drop).swap
  refine NilP.mk rfl ⟨_,(by rw [add_off];exact At.own (eqS hw) (by exact ⟨rfl,trivial⟩)),?_⟩
  refine (names_spec i (by omega) hw).use ?_
  clear hw
  rintro _ w ⟨sn,rfl,hw⟩
  refine ⟨sn,rfl,?_⟩
  obtain ⟨R1,e1,hn1,hw⟩:=Own.leak hw
  have hnl:=namesOf_len st.fs
  refine (numbered_spec (hn1.ro (by rw [List.length_map];omega)) (by omega) (fun k hk=>by have:=nameOk_size (i.names k (mem_names.1 hk));omega) hw).use ?_
  clear hw
  rintro _ w ⟨sa,rfl,hw⟩
  refine ⟨sa,rfl,?_⟩
  obtain ⟨R2,e2,hall,hw⟩:=Own.leak hw
  obtain ⟨nums,hnums⟩:∃ n,n=numsOf (namesOf st.fs):=⟨_,rfl⟩
  obtain ⟨rd,hrd⟩:∃ rd:Nat→List Int,rd=fun n=>(readD st (segName n)).1:=⟨_,rfl⟩
  have hload:loadD st=loadL rd none ⟨0,[]⟩ [] nums:=by subst hrd hnums;rfl
  have hnb:∀ n∈nums,1≤n∧n<100000000:=fun n hn=>by
    rw [hnums] at hn
    unfold numsOf at hn
    rw [List.mem_filter] at hn
    obtain ⟨h1,h2⟩:=hn
    obtain ⟨k,_,rfl⟩:=List.mem_map.1 h1
    exact ⟨by have:=of_decide_eq_true h2;omega,numL_lt⟩
  have hnlen:nums.length≤40000:=by rw [hnums];have:=numsOf_le (namesOf st.fs);omega
  rw [←hnums] at hall
  have hal:sa.len=nums.length:=by have:=hall.len;simpa using this
  have hrb:∀ n,(∀ x∈rd n,0≤x∧x<256)∧(rd n).length≤16777216:=fun n=>by
    rw [hrd]
    refine ⟨by_read hby _,?_⟩
    show (readD st (segName n)).1.length≤_
    unfold readD
    split
    · simp
    · split
      · simp
      · split
        · simp
        · rename_i f hf
          have:=total_le hf;have:=i.full;have:=i.r1
          simp only;omega
  have hsb:∀ n,∀ b∈scan (rd n),b.length≤65536∧∀ x∈b,0≤x∧x<256:=fun n b hb=>by
    obtain ⟨h1,h2⟩:=scan_mem _ (rd n) (Nat.le_refl _) b hb
    exact ⟨h1,fun x hx=>(hrb n).1 x (h2 x hx)⟩
  have hp2:=(hp.ext e1).ext e2
  have e12:=e1.trans e2
  refine ⟨fun i w=>∃ (k:Nat) (g:Lg) (sgs:List Sg) (R3:Cx) (s:Sl) (ds:List DE4) (sg:Sl),i=k∧k≤nums.length∧R2.Ext R3∧DsR R3 ds∧g=⟨g.base,erE ds⟩∧(0≤g.base∧g.base≤1099511627776)∧ds.length≤k * 2097153∧(k=0→g=⟨0,[]⟩)∧sgs.length=k∧
      loadD st=loadL rd (if k=0 then none else nums[k - 1]?) g sgs (nums.drop k)∧Sat R3 (WS p d lim g.base s sg brk ds sgs st Hs) w,fun i _=>nums.length - i.toNat,⟨0,⟨0,[]⟩,[],R2,⟨none,0,0⟩,[],⟨none,0,0⟩,rfl,by omega,.refl,.nil,rfl,⟨by simp,by simp⟩,by simp,fun _=>rfl,rfl,hload,?_⟩,?_⟩
  · exact hw.swap.cons fun _ h=>OwnN.nil (OwnN.nil h)
  clear hw
  rintro _ _ w ⟨k,g,sgs,R3,s,ds,sg,rfl,hk,e3,hd,hg,hgb,hdl,hg0,hsl,hL,hw⟩
  have hall3:=e3.slR hall
  refine Br.d (fun h=>?_) (fun h=>?_)
  rotate_left
  · have hkn:k=nums.length:=by omega
    rw [hkn,List.drop_length] at hL
    have hL2:loadD st=⟨g,sgs,none,[]⟩:=by rw [hL];unfold loadL;rfl
    refine hK _ _ ⟨R3,g.base,s,ds,sg,none,⟨none,0,0⟩,e12.trans e3,hd,rfl,?_,?_,hgb.1,hgb.2,by omega,?_,?_⟩
    · rw [hL2];exact hg.symm
    · rw [hL2];exact ⟨rfl,by simp,fun h=>absurd rfl h⟩
    · rw [hL2];show sgs.length≤_;omega
    · rw [hL2];exact AmAt.no hw
  have hk':k<nums.length:=by omega
  have hnk:=hnb nums[k] (List.getElem_mem _)
  obtain ⟨n,hn⟩:∃ n,n=nums[k]:=⟨_,rfl⟩
  rw [←hn] at hnk
  have hdrop:nums.drop k=n::nums.drop (k + 1):=by rw [hn];exact drop_get hk'
  rw [hdrop] at hL
  obtain ⟨prev,hprev⟩:∃ q,q=(if k=0 then none else nums[k - 1]?):=⟨_,rfl⟩
  rw [←hprev] at hL
  have w1:IntKind.i64.wrap ((k:Int) + 1)=((k + 1:Nat):Int):=by rw [wrap64 (by omega) (by omega)];omega
  rw [w1]
  have hbh:SlR R3.m (sdrop sa (k + 1)) (encN (nums.drop (k + 1))):=by
    have:=hall3.drop (k:=k + 1) (by simp;omega)
    simpa [encN,List.map_drop] using this
  refine hall3.ix (eqS hw) k rfl (by simpa using hk') ?_
  have en:(nums.map fun n:Nat=>(n:Int))[k]'(by simpa using hk')=((n:Nat):Int):=by simp [hn]
  rw [en]
  refine new_rule hw fun b w hw=>?_
  refine store_rule hw (by kernel_rfl) rfl (by simp [Value.cells,putL_len]) fun w hw=>?_
  have hw:Sat R3 (pts b (sCells ⟨n,0,0⟩)::WS p d lim g.base s sg brk ds sgs st Hs) w:=hw
  refine drw_rule' (Sat R3 [pts b (sCells ⟨n,0,0⟩),pts p (wCells d lim g.base s sg brk),VC.tru]) hw (fun w hw=>hw.k2) fun w hw=>?_
  refine NilP.mk rfl ⟨_,(by rw [add_off];exact At.own selfS (by exact ⟨rfl,trivial⟩)),_,_,_,At.own selfS (by exact ⟨rfl,rfl,rfl,trivial⟩),?_⟩
  refine (name_spec (hp2.ext e3) hnk.2 hw).use ?_
  clear hw
  rintro _ w ⟨rfl,hw⟩
  refine ⟨_,rfl,hw.k2,?_⟩
  have hw:Sat R3 (DiskAt d st::pts b (sCells ⟨n,0,0⟩)::pts p (wCells d lim g.base s sg brk)::EntO s ds::SegO sg sgs::Hs) w:=hw.arr
  refine (read_spec i hw).use ?_
  clear hw
  rintro _ w ⟨t,rfl,hw⟩
  refine ⟨t,_,rfl,hw.k2,?_⟩
  obtain ⟨R4,e4,ht,hw⟩:=Own.leak hw
  have ern:(readD st (segName n)).1=rd n:=by rw [hrd]
  rw [ern] at ht
  have hbl:=(hrb n).2
  have htl:t.len=(rd n).length:=by have:=ht.len;simpa using this
  refine (scan_spec (hrb n).1 (by omega) ht hw).use ?_
  clear hw
  rintro _ w ⟨l,rfl,hw⟩
  obtain ⟨R5,ps,e5,hps,hl,hpp,hw⟩:=bytes_leak hw
  refine ⟨l,_,rfl,?_⟩
  have hpl:ps.length=(scan (rd n)).length:=by rw [←hps];simp
  have hll:l.len=ps.length:=by have:=hl.len;simpa using this
  have hcap:=hl.cap
  have hn8:=len_scanLen (scan (rd n))
  have hsle:=scanLen_le _ (rd n) (Nat.le_refl _)
  have e35:=e4.trans e5
  have hd:=hd.ext e35
  have hall5:=e35.slR hall3
  have hbh:=e35.slR hbh
  have hpj:∀ j (hj:j<ps.length),ps[j].2=(scan (rd n))[j]'(by omega)∧SlR R5.m ps[j].1 (b8 ((scan (rd n))[j]'(by omega))):=fun j hj=>by
    have e:ps[j].2=(scan (rd n))[j]'(by omega):=by
      have:(ps.map (·.2))[j]'(by simpa using hj)=(scan (rd n))[j]'(by omega):=by simp only [hps]
      simpa using this
    exact ⟨e,by rw [←e];exact hpp _ (List.getElem_mem _)⟩
  have hnx:=nxt_nn (prev:=prev) (hrb n).1 fun b hb=>(hsb n b hb).2
  have hprev0:prev=none↔k=0:=by
    rw [hprev]
    split
    · simp [*]
    · rename_i h0
      rw [List.getElem?_eq_getElem (by omega)]
      simp [h0]
  have fin:∀ {R6:Cx} {base:Int} {s:Sl} {ds:List DE4} {sg:Sl} {sgs':List Sg} {am:Sg} {w:World},R5.Ext R6→DsR R6 ds→loadD st=⟨⟨base,erE ds⟩,sgs',some am,nums.drop (k + 1)⟩→0≤base→base≤1099511627776→ds.length≤100000000000→sgs'.length≤40000→
      Sat R6 (pts b (sCells am)::WS p d lim base s sg brk ds sgs' st Hs) w→(0:Int)≤((k + 1:Nat):Int)∧(((k + 1:Nat):Int)≤(sa.len:Int))∧K (.tuple #[.pointer (some ⟨b,0,none⟩),.slice (cutA sa.a ((k + 1:Nat):Int).toNat sa.cap 1) (sa.len - ((k + 1:Nat):Int).toNat) (sa.cap - ((k + 1:Nat):Int).toNat)]) w:=
    fun {R6 base s ds sg sgs' am w} e6 hd hld hb0 hb1 hdl hsl hw=>by
      refine ⟨by omega,by omega,hK _ _ ⟨R6,base,s,ds,sg,some ⟨b,0,none⟩,sdrop sa (k + 1),((e12.trans e3).trans e35).trans e6,hd,by rw [Int.toNat_natCast],?_,?_,hb0,hb1,hdl,?_,?_⟩⟩
      · rw [hld]
      · rw [hld];exact e6.slR hbh
      · rw [hld];exact hsl
      · rw [hld];exact AmAt.yes hw
  refine ⟨Sat R5 (pts b (sCells ⟨n,nxt rd prev n,0⟩)::WS p d lim g.base s sg brk ds sgs st Hs),?_,?_⟩
  · have hw:Sat R5 (pts b (sCells ⟨n,0,0⟩)::WS p d lim g.base s sg brk ds sgs st Hs) w:=hw.arr
    have skip:nxt rd prev n=0→Sat R5 (pts b (sCells ⟨n,nxt rd prev n,0⟩)::WS p d lim g.base s sg brk ds sgs st Hs) w:=fun h=>by rw [h];exact hw
    have some1:∀ (hpos:0<ps.length),(prev=none∨prev.map (· + 1)=some n)→Rng 0 l.len (NilP l.a fun a_t72=>
        ∃ t73:Sl,(At (fun w'=>w'=w) (Addr.add a_t72 0) [.slice t73.a t73.len t73.cap])∧
        Calls Tryz.prog 109 #[.slice t73.a t73.len t73.cap,.int .i64 n] w fun e_5 w_12=>
        ∃ t75:Int,(e_5=.returned (.int .i64 t75))∧
        ∃ w_13:World,((Instr.storeAt 3 (.pointer ((some ⟨b,0 + 1,none⟩))) (.int .i64 t75)).run Tryz.prog w_12=.ok () w_13)∧
        Sat R5 (pts b (sCells ⟨n,nxt rd prev n,0⟩)::WS p d lim g.base s sg brk ds sgs st Hs) w_13):=fun hpos hor=>by
      refine hl.ixS (eqS hw) 0 rfl (by simpa using hpos) ?_
      obtain ⟨_,h2⟩:=hpj 0 hpos
      have hb0:=hsb n _ (List.getElem_mem (h:=(by omega:0<(scan (rd n)).length)))
      have en0:(ps.map fun p:Sl × List Int=>p.1)[0]'(by simpa using hpos)=ps[0].1:=by simp
      rw [en0]
      refine (head_spec hb0.2 (by omega) (h2.ro (by rw [List.length_map];omega)) hw).use ?_
      clear hw
      rintro _ w ⟨rfl,hw⟩
      refine ⟨_,rfl,?_⟩
      refine store_rule hw (by kernel_rfl) rfl (by simp [Value.cells,putL_len]) fun w hw=>?_
      have enx:nxt rd prev n=headL ((scan (rd n))[0]'(by omega)) n:=nextOf_get (by omega) hor
      rw [enx]
      exact hw
    have noscan:ps.length=0→nxt rd prev n=0:=fun h0=>by
      unfold nxt nextOfSeg
      cases hs:scan (rd n) with
      |nil=>rfl
      |cons a l=>rw [hs] at hpl;simp at hpl;omega
    refine Br.d (fun h1=>?_) (fun h1=>skip (noscan (by omega)))
    refine Br.e (fun h2=>?_) (fun h2=>?_)
    · exact some1 (by omega) (.inl (hprev0.2 (by omega)))
    · have h20:k≠0:=fun h=>h2 (by rw [h];rfl)
      have wk:IntKind.i64.wrap ((k:Int) - 1)=((k - 1:Nat):Int):=by rw [wrap64 (by omega) (by omega)];omega
      rw [wk]
      refine hall5.ix (eqS hw) (k - 1) rfl (by simp;omega) ?_
      have en1:(nums.map fun n:Nat=>(n:Int))[k - 1]'(by simp;omega)=((nums[k - 1]'(by omega):Nat):Int):=by simp
      rw [en1]
      have hpv:prev=some (nums[k - 1]'(by omega)):=by rw [hprev,if_neg h20,List.getElem?_eq_getElem (by omega)]
      have hpb:=hnb _ (List.getElem_mem (h:=(by omega:k - 1<nums.length)))
      rw [wrap64 (by omega) (by omega)]
      refine Br.e (fun h3=>?_) (fun h3=>skip ?_)
      · exact some1 (by omega) (.inr (by rw [hpv];simp;omega))
      · unfold nxt nextOfSeg
        split
        · rfl
        · rw [if_neg]
          rw [hpv]
          simp
          omega
  clear hw
  rintro _ w hw
  have hdsl:s.len=ds.length:=by
    have h2:Sat R5 (EntO s ds::pts b (sCells ⟨n,nxt rd prev n,0⟩)::pts p (wCells d lim g.base s sg brk)::SegO sg sgs::DiskAt d st::Hs) w:=hw.arr
    have:=OwnN.len h2;simpa using this
  have hlast:g.last=g.base + ds.length:=by rw [hg];unfold Lg.last;simp
  refine ⟨fun w=>¬ (nxt rd prev n=0∨(prev≠none∧nxt rd prev n≠g.last + 1))∧Sat R5 (pts b (sCells ⟨n,nxt rd prev n,0⟩)::WS p d lim (if k=0 then nxt rd prev n - 1 else g.base) s sg brk ds sgs st Hs) w,?_,?_⟩
  · refine ⟨fun t w=>(t=decide (nxt rd prev n=0∨(prev≠none∧nxt rd prev n≠g.last + 1)))∧Sat R5 (pts b (sCells ⟨n,nxt rd prev n,0⟩)::WS p d lim g.base s sg brk ds sgs st Hs) w,?_,?_⟩
    · refine drw_rule hw fun w hw=>?_
      refine ⟨_,At.own selfS (by exact ⟨rfl,trivial⟩),Br.e (fun h1=>⟨(decide_eq_true (.inl h1)).symm,hw⟩) (fun h1=>?_)⟩
      refine Br.d (fun h2=>?_) (fun h2=>⟨?_,hw⟩)
      · refine ⟨_,At.own selfS (by exact ⟨rfl,trivial⟩),NilP.mk rfl ?_⟩
        refine (last_spec (p:=p) hgb.1 (by omega) (by omega) hw).use ?_
        clear hw
        rintro _ w ⟨rfl,hw⟩
        refine ⟨_,rfl,hw,?_,hw⟩
        rw [wrap64 (by omega) (by omega),hdsl,hlast]
        have hpn:prev≠none:=fun h=>by have:=hprev0.1 h;omega
        by_cases h3:nxt rd prev n=g.base + (ds.length:Int) + 1
        · rw [show (nxt rd prev n !=g.base + (ds.length:Int) + 1)=false by simp [h3]]
          symm
          exact decide_eq_false (fun h=>h.elim h1 (fun h=>h.2 h3))
        · rw [show (nxt rd prev n !=g.base + (ds.length:Int) + 1)=true by simp [h3]]
          symm
          exact decide_eq_true (.inr ⟨hpn,h3⟩)
      · symm
        refine decide_eq_false (fun h=>h.elim h1 (fun h=>h.1 (hprev0.2 (by omega))))
    clear hw
    rintro _ _ w ⟨rfl,hw⟩
    refine Br.d (fun h1=>?_) (fun h1=>?_)
    · refine drw_rule hw fun w hw=>?_
      refine fin .refl hd (by rw [hL,loadL_amiss h1,←hg]) hgb.1 hgb.2 (by omega) (by omega) hw
    · refine Br.e (fun h2=>?_) (fun h2=>⟨h1,?_⟩)
      · have hk0:k=0:=by omega
        refine ⟨nxt rd prev n,At.own (eqS hw) (by exact ⟨rfl,trivial⟩),NilP.mk rfl ?_⟩
        have hx0:nxt rd prev n≠0:=fun h=>h1 (.inl h)
        rw [wrap64 (by omega) (by omega)]
        refine store_rule hw (by kernel_rfl) rfl (by simp [Value.cells,putL_len]) fun w hw=>?_
        refine ⟨h1,?_⟩
        rw [if_pos hk0]
        have hw:Sat R5 (pts p (wCells d lim (nxt rd prev n - 1) s sg brk)::pts b (sCells ⟨n,nxt rd prev n,0⟩)::EntO s ds::SegO sg sgs::DiskAt d st::Hs) w:=hw
        exact hw.swap
      · rw [if_neg (fun h=>h2 (by rw [h];rfl))];exact hw
  clear hw
  rintro _ w ⟨h1,hw⟩
  obtain ⟨g1,hg1⟩:∃ g1:Lg,g1=(if prev=none then ⟨nxt rd prev n - 1,g.l⟩ else g):=⟨_,rfl⟩
  have hx0:nxt rd prev n≠0:=fun h=>h1 (.inl h)
  have eg1:g1=⟨if k=0 then nxt rd prev n - 1 else g.base,erE ds⟩:=by
    rw [hg1]
    by_cases hk0:k=0
    · rw [if_pos (hprev0.2 hk0),if_pos hk0]
      have:g.l=erE ds:=by rw [hg]
      rw [this]
    · rw [if_neg (fun h=>hk0 (hprev0.1 h)),if_neg hk0];exact hg
  have hb1:0≤(if k=0 then nxt rd prev n - 1 else g.base)∧(if k=0 then nxt rd prev n - 1 else g.base)≤1099511627776:=by split<;>omega
  obtain ⟨base1,hbase1⟩:∃ b,b=(if k=0 then nxt rd prev n - 1 else g.base):=⟨_,rfl⟩
  rw [←hbase1] at hw eg1 hb1
  rw [htl]
  refine store_rule hw (by kernel_rfl) rfl (by simp [Value.cells,putL_len]) fun w hw=>?_
  have hw:Sat R5 (pts b (sCells ⟨n,nxt rd prev n,(rd n).length⟩)::WS p d lim base1 s sg brk ds sgs st Hs) w:=hw
  refine drw_rule' (Sat R5 [pts b (sCells ⟨n,nxt rd prev n,(rd n).length⟩),pts p (wCells d lim base1 s sg brk),VC.tru]) hw (fun w hw=>hw.k2) fun w hw=>?_
  refine NilP.mk rfl ⟨sg,At.own selfS (by exact ⟨rfl,trivial⟩),_,_,_,At.own selfS (by exact ⟨rfl,rfl,rfl,trivial⟩),new_rule hw fun b2 w hw=>⟨hw.k2,?_⟩⟩
  have hw:Sat R5 (SegO sg sgs::pts b2 (.cells (sRow ⟨n,nxt rd prev n,(rd n).length⟩).toArray 96 (0,0))::pts b (sCells ⟨n,nxt rd prev n,(rd n).length⟩)::pts p (wCells d lim base1 s sg brk)::EntO s ds::DiskAt d st::Hs) w:=hw.arr
  refine pushN_in elG hw rfl rfl (by rw [List.length_map];omega) (by rw [List.length_map];omega) fun sg2 w hw=>?_
  obtain ⟨sgs2,hsgs2⟩:∃ x,x=sgs++[⟨n,nxt rd prev n,((rd n).length:Int)⟩]:=⟨_,rfl⟩
  have hw:Sat R5 (pts p (wCells d lim base1 s sg brk)::pts b (sCells ⟨n,nxt rd prev n,(rd n).length⟩)::EntO s ds::SegO sg2 sgs2::DiskAt d st::Hs) w:=by
    rw [hsgs2];unfold SegO;rw [List.map_append];simp only [List.map_cons,List.map_nil];exact hw.arr
  refine ⟨hw.k2,NilP.mk rfl ?_⟩
  refine store_rule hw (by kernel_rfl) rfl (by simp [Value.cells,putL_len]) fun w hw=>?_
  have hw:Sat R5 (pts b (sCells ⟨n,nxt rd prev n,(rd n).length⟩)::WS p d lim base1 s sg2 brk ds sgs2 st Hs) w:=Sat.swap hw
  refine ⟨_,At.own (eqS hw) (by exact ⟨rfl,trivial⟩),new_rule hw fun b3 w hw=>?_⟩
  obtain ⟨hc3,hw⟩:=Sat.lend.1 hw
  refine (encoded_spec (t:=none) (sd:=⟨none,0,0⟩) (xs:=[0,n,nxt rd prev n]) (sl:=⟨some ⟨b3,0,none⟩,3,3⟩) (fun x hx=>by simp at hx;omega) (by simp) (fun d h=>by cases h) (ro_new (by simp) rfl hc3) hw).use ?_
  clear hw
  rintro _ w ⟨te,rfl,hw⟩
  have hte:te.len=(headB n (nxt rd prev n)).length:=by have:=Own.len hw;rw [encB_hd] at this;simpa using this
  have hw:=(Sat.lend.2 ⟨hc3,hw.drop⟩).drop
  have hscn:0<ps.length:=by
    rcases Nat.eq_zero_or_pos ps.length with h0|h0
    · exfalso
      refine hx0 ?_
      unfold nxt nextOfSeg
      cases hs:scan (rd n) with
      |nil=>rfl
      |cons a l=>rw [hs] at hpl;simp at hpl;omega
    · exact h0
  have hl1:SlR R5.m (sdrop l 1) ((ps.drop 1).map fun p=>Sl.v p.1):=by
    have:=hl.drop (k:=1) (by simp;omega)
    simpa [List.map_drop,Function.comp_def] using this
  have htail:(scan (rd n)).tail=(scan (rd n)).drop 1:=by rw [List.drop_one]
  refine ⟨te,rfl,by omega,by omega,?_⟩
  rw [hte]
  obtain ⟨bodies,hbod⟩:∃ x,x=(scan (rd n)).drop 1:=⟨_,rfl⟩
  have hbl2:bodies.length=ps.length - 1:=by rw [hbod,List.length_drop];omega
  have hl0:=recB_len (hdB n (nxt rd prev n))
  have hl0':=hdB_len (n:=n) (next:=nxt rd prev n) (by omega) hnx.2
  refine ⟨fun dn i w=>∃ (j:Nat) (gj:Lg) (R6:Cx) (s:Sl) (ds':List DE4),i=j∧j≤bodies.length∧R5.Ext R6∧DsR R6 ds'∧gj=⟨gj.base,erE ds'⟩∧(0≤gj.base∧gj.base≤1099511627776)∧ds'.length≤ds.length + j∧(0≤dn∧dn≤1000 + 70000 * j)∧
      runL g1 (headB n (nxt rd prev n)).length bodies=runL gj dn (bodies.drop j)∧Sat R6 (pts b (sCells ⟨n,nxt rd prev n,(rd n).length⟩)::WS p d lim gj.base s sg2 brk ds' sgs2 st Hs) w,fun _ i _=>bodies.length - i.toNat,⟨0,g1,R5,s,ds,rfl,by omega,.refl,hd,by rw [eg1],by rw [eg1];exact hb1,by omega,⟨by omega,by unfold headB;omega⟩,rfl,by rw [eg1];exact hw⟩,?_⟩
  clear hw
  rintro _ dn _ w ⟨j,gj,R6,s,ds',rfl,hj,e6,hd6,hgj,hgjb,hdl6,hdn,hrun,hw⟩
  have hll1:l.len - Int.toNat 1=bodies.length:=by rw [hbl2,hll];rfl
  rw [hll1]
  have h8:8 * bodies.length≤16777216:=by omega
  have hd40:ds'.length≤100000000000:=by omega
  refine Br.d (fun h2=>?_) (fun h2=>?_)
  · have hj':j<bodies.length:=by omega
    have hdj:bodies.drop j=bodies[j]::bodies.drop (j + 1):=drop_get hj'
    have hbj:bodies[j]=(scan (rd n))[j + 1]'(by omega):=by simp only [hbod,List.getElem_drop];congr 1;omega
    have hl6:=e6.slR hl1
    have hl6b:SlR R6.m (sdrop l 1) (((ps.drop 1).map fun p:Sl × List Int=>p.1).map Sl.v):=by rw [List.map_map];exact hl6
    have hsd:(⟨cutA l.a (Int.toNat 1) l.cap 1,bodies.length,l.cap - 1⟩:Sl)=sdrop l 1:=by rw [←hll1];rfl
    have main:=hl6b.ixS (eqS hw) j rfl (by simp;omega) (i:=(j:Int)) (F:=fun t134=>Drw w fun S_4 w_31=>
      Calls Tryz.prog 111 #[.slice t134.a t134.len t134.cap] w_31 fun e_9 w_32=>
      ∃ t139:Option Addr,(e_9=.returned (.pointer t139))∧
      Calls Tryz.prog 110 #[.pointer ((some ⟨p,0 + 2,none⟩)),.pointer t139] w_32 fun e_10 w_33=>
      ∃ t140:Bool,(e_10=.returned (.bool t140))∧
      Br (!t140)
       (∃ w_34:World,((Instr.storeAt 3 (.pointer ((some ⟨b,0 + 2,none⟩))) (.int .i64 dn)).run Tryz.prog w_33=.ok () w_34)∧
        Drw w_34 fun S_5 w_35=>
        ((0:Int)≤((k + 1:Nat):Int))∧
        ((((k + 1:Nat):Int):Int)≤(sa.len:Int))∧
        K (.tuple #[.pointer ((some ⟨b,0,none⟩)),.slice (cutA sa.a ((k + 1:Nat):Int).toNat sa.cap 1) (sa.len - ((k + 1:Nat):Int).toNat) (sa.cap - ((k + 1:Nat):Int).toNat)]) w_35)
       (Calls Tryz.prog 112 #[.slice t134.a t134.len t134.cap] w_33 fun e_11 w_36=>
        ∃ t150:Sl,∃ t150_1:Int,(e_11=.returned (.tuple #[.slice t150.a t150.len t150.cap,.int .i64 t150_1]))∧
        (∃ (j':Nat) (gj:Lg) (R6:Cx) (s:Sl) (ds':List DE4),IntKind.i64.wrap ((j:Int) + 1)=j'∧j'≤bodies.length∧R5.Ext R6∧DsR R6 ds'∧gj=⟨gj.base,erE ds'⟩∧(0≤gj.base∧gj.base≤1099511627776)∧ds'.length≤ds.length + j'∧(0≤IntKind.i64.wrap (dn + (t150.len:Int))∧IntKind.i64.wrap (dn + (t150.len:Int))≤1000 + 70000 * j')∧
          runL g1 (headB n (nxt rd prev n)).length bodies=runL gj (IntKind.i64.wrap (dn + (t150.len:Int))) (bodies.drop j')∧Sat R6 (pts b (sCells ⟨n,nxt rd prev n,(rd n).length⟩)::WS p d lim gj.base s sg2 brk ds' sgs2 st Hs) w_36)∧
        bodies.length - (IntKind.i64.wrap ((j:Int) + 1)).toNat<bodies.length - ((j:Nat):Int).toNat)) ?_
    · rw [←hsd] at main
      refine (show _ from main)
    have en2:((ps.drop 1).map fun p:Sl × List Int=>p.1)[j]'(by simp;omega)=(ps[j + 1]'(by omega)).1:=by simp [Nat.add_comm]
    rw [en2]
    obtain ⟨_,hbo⟩:=hpj (j + 1) (by omega)
    rw [←hbj] at hbo
    have hbo6:=e6.slR hbo
    have hbb:=hsb n bodies[j] (by rw [hbj];exact List.getElem_mem _)
    have hro:=hbo6.ro (by rw [List.length_map];omega)
    refine drw_rule' (fun _=>True) hw (fun _ _=>trivial) fun w hw=>?_
    refine (fnew_spec hro (by omega) hw).use ?_
    clear hw
    rintro _ w ⟨r,rfl,hw⟩
    refine ⟨_,rfl,?_⟩
    have hw:Sat R6 (RdAt r ⟨bodies[j],false⟩::pts p (wCells d lim gj.base s sg2 brk)::EntO s ds'::pts b (sCells ⟨n,nxt rd prev n,(rd n).length⟩)::SegO sg2 sgs2::DiskAt d st::Hs) w:=hw.arr
    refine (changeE_spec (rd:=⟨bodies[j],false⟩) hgjb.1 hgjb.2 hd40 hd6 hbb.2 (by show bodies[j].length≤_;omega) hw).use ?_
    clear hw
    rintro _ w ⟨R7,base7,s7,ds7,e7,hd7,rfl,hg7,hw⟩
    have hcg:changeR1 ⟨gj.base,erE ds'⟩ ⟨bodies[j],false⟩=changeL gj bodies[j]:=by rw [←hgj];rfl
    rw [hcg,←hgj] at hg7
    rw [hcg]
    refine ⟨_,rfl,?_⟩
    have hrj:runL gj dn (bodies.drop j)=match changeL gj bodies[j] with|none=>(gj,some dn)|some g'=>runL g' (dn + (8 + bodies[j].length)) (bodies.drop (j + 1)):=by rw [hdj];rfl
    cases hch:changeL gj bodies[j] with
    |none=>
      rw [hch] at hg7 hrj
      simp only [Option.getD_none] at hg7
      refine Br.t rfl ?_
      have hw:Sat R7 (pts b (sCells ⟨n,nxt rd prev n,(rd n).length⟩)::WS p d lim base7 s7 sg2 brk ds7 sgs2 st Hs) w:=by
        have:erE ds'=erE ds7:=by rw [hgj] at hg7;exact (Lg.mk.inj hg7).2
        exact hw.arr
      refine store_rule hw (by kernel_rfl) rfl (by simp [Value.cells,putL_len]) fun w hw=>?_
      have hw:Sat R7 (pts b (sCells ⟨n,nxt rd prev n,dn⟩)::WS p d lim base7 s7 sg2 brk ds7 sgs2 st Hs) w:=hw
      have hbase7:base7=gj.base:=by rw [hgj] at hg7;exact (Lg.mk.inj hg7).1.symm
      have hlen7:ds7.length=ds'.length:=by
        have:erE ds'=erE ds7:=by rw [hgj] at hg7;exact (Lg.mk.inj hg7).2
        have:=congrArg List.length this;simpa using this.symm
      refine drw_rule hw fun w hw=>?_
      refine fin (e6.trans e7) hd7 ?_ (by omega) (by omega) (by omega) (by rw [hsgs2];simp;omega) hw
      rw [hL,loadL_fail h1 hg1.symm (g2:=⟨base7,erE ds7⟩) (d:=dn) (by rw [htail,←hbod,hrun,hrj,hg7]),hsgs2]
    |some g'=>
      rw [hch] at hg7 hrj
      simp only [Option.getD_some] at hg7
      refine Br.f rfl ?_
      refine (rput_spec hbb.2 (e7.ro hro) hw).use ?_
      rintro _ w (⟨h,_⟩|⟨_,t2,rfl,hw⟩)
      · omega
      have ht2:t2.len=8 + bodies[j].length:=by have:=Own.len hw;rw [List.length_map,recB_len] at this;exact this
      have hw:=hw.drop
      have hch2:=hch
      have wj:IntKind.i64.wrap ((j:Int) + 1)=((j + 1:Nat):Int):=by rw [wrap64 (by omega) (by omega)];omega
      have wd:IntKind.i64.wrap (dn + (t2.len:Int))=dn + (8 + bodies[j].length):=by rw [wrap64 (by omega) (by omega),ht2];omega
      have hlen7:ds7.length≤ds'.length + 1∧0≤base7∧base7≤1099511627776:=by
        have hb:=change_bd hch (by rw [hgj];exact ⟨hgjb.1,hgjb.2⟩) hbb.2
        rw [hg7] at hb
        rw [hgj] at hb
        simp only [List.length_map] at hb
        exact ⟨hb.2.2,hb.1,hb.2.1⟩
      refine ⟨t2,_,rfl,⟨j + 1,g',R7,s7,ds7,wj,by omega,e6.trans e7,hd7,?_,?_,by omega,by rw [wd];omega,?_,?_⟩,by rw [wj];omega⟩
      · rw [hg7]
      · rw [hg7];exact hlen7.2
      · rw [hrun,hrj,wd]
      · rw [hg7];exact hw.arr
  · have hjl:j=bodies.length:=by omega
    rw [hjl,List.drop_length] at hrun
    have hrun2:runL g1 (headB n (nxt rd prev n)).length (scan (rd n)).tail=(gj,none):=by rw [htail,←hbod,hrun];rfl
    refine Br.e (fun h3=>?_) (fun h3=>?_)
    · have h3':scanLen (scan (rd n))=(rd n).length:=by omega
      refine ⟨⟨k + 1,gj,sgs2,R6,s,ds',sg2,rfl,by omega,(e3.trans e35).trans e6,hd6,hgj,hgjb,by omega,fun h=>by omega,by rw [hsgs2];simp;omega,?_,hw.drop⟩,by dsimp only;omega⟩
      rw [hL,loadL_more h1 hg1.symm hrun2 h3',←hsgs2,if_neg (by omega),Nat.add_sub_cancel,List.getElem?_eq_getElem hk',←hn]
    · refine store_rule hw (by kernel_rfl) rfl (by simp [Value.cells,putL_len]) fun w hw=>?_
      have hw:Sat R6 (pts b (sCells ⟨n,nxt rd prev n,scanLen (scan (rd n))⟩)::WS p d lim gj.base s sg2 brk ds' sgs2 st Hs) w:=hw
      refine drw_rule hw fun w hw=>?_
      refine fin e6 hd6 ?_ hgjb.1 hgjb.2 hd40 (by rw [hsgs2];simp;omega) hw
      rw [hL,loadL_end h1 hg1.symm hrun2 (by omega),hsgs2,←hgj]
end Go.Proofs.YtkfedbncmfnpnaaGreatDoor
/- A log on a disk: steps, making a segment, taking a file away. Condition: bounds on lengths; the library's table of powers is laid. -/
namespace Go.Proofs.YtkfedbncmfnpnaaGreatDoor
set_option linter.unusedVariables false
set_option linter.unusedSimpArgs false
open Go Go.VC
variable {R R':Cx} {Hs Rest:List HP} {w:World}
theorem _root_.Go.VC.Ro.ixV {s:Sl} {xs:List Value} {S:World→Prop} {i:Int} (hr:Ro R s xs) (hS:∀ w,S w→Sat R Hs w) (j:Nat) (hi:i=j) (hj:j<xs.length) {F:Value→Prop} (h:F xs[j]):
  Rng i s.len (NilP s.a fun a=>∃ t:Value,(At S (a.add i.toNat) [t])∧F t):=by
 subst hi
 have hl:=hr.len
 obtain ⟨b,off,l,T,fr,ha,hb,hel⟩:=hr.mem (by intro h0;rw [h0] at hj;simp at hj)
 refine Rng.mk (by omega) (by omega) (NilP.mk ha ⟨xs[j],fun w hw i v hv=>?_,h⟩)
 have hi:i=0:=by
  cases i with
  |zero=>rfl
  |succ i=>simp at hv
 subst hi
 simp only [List.getElem?_cons_zero,Option.some.injEq] at hv
 subst hv
 rw [Int.toNat_natCast,add_off,add_off]
 have:=(hS w hw).of_ro hb
 simp only [World.cell?,this,Option.isSome_none,Bool.false_eq_true,if_false]
 exact hel j _ (by simp [hj])
def StepsQ (R:Cx):List Value→(Int→World→Prop)→World→Prop
 |[],Q,w=>Q 0 w
 |f::fs,Q,w=>CalW Tryz.prog cl f [] w fun e w'=>∃ n:Int,e=.returned (.int .i64 n)∧((n≠0∧Q n w')∨(n=0∧(∃ Hs,Sat R Hs w')∧StepsQ R fs Q w'))
theorem all_spec {s:Sl} {fs:List Value} {Q:Int→World→Prop} (hs:Ro R s fs) (hl:fs.length≤1000000) (hw:Sat R Hs w) (h:StepsQ R fs Q w):
  Gets Tryz.prog 90 #[.slice s.a s.len s.cap] w fun v w'=>∃ n:Int,v=.int .i64 n∧Q n w':=by
 have hsl:=hs.len
 apply call90
 refine ⟨fun i w=>∃ k:Nat,i=k∧k≤fs.length∧(∃ Hs,Sat R Hs w)∧StepsQ R (fs.drop k) Q w,fun i _=>fs.length - i.toNat,⟨0,rfl,by omega,⟨_,hw⟩,h⟩,?_⟩
 clear hw h
 rintro _ _ w ⟨k,rfl,hk,⟨Hs,hw⟩,h⟩
 refine Br.d (fun h1=>?_) (fun h1=>?_)
 ·have hk':k<fs.length:=by omega
  rw [drop_get hk'] at h
  refine hs.ixV (eqS hw) k rfl hk' ?_
  refine CalW.mono h ?_
  rintro e w' ⟨n,rfl,h2⟩
  refine ⟨n,rfl,?_⟩
  rcases h2 with ⟨hn,h2⟩|⟨hn,h2,h3⟩
  ·exact Br.t (by simp [hn]) ⟨n,rfl,h2⟩
  ·refine Br.f (by simp [hn]) ⟨⟨k + 1,by rw [wrap64 (by omega) (by omega)];omega,by omega,h2,h3⟩,by dsimp only;rw [wrap64 (by omega) (by omega)];omega⟩
 ·have:k=fs.length:=by omega
  rw [this,List.drop_length] at h
  exact ⟨0,rfl,h⟩
def BoxV (R:Cx) (b:Nat) (v:Value):Prop:=∃ T fr,R.m b=some (.cells [v].toArray T fr)
abbrev BoxP (R:Cx) (b p:Nat):Prop:=BoxV R b (.pointer (some ⟨p,0,none⟩))
theorem BoxV.ext {b:Nat} {v:Value} (h:BoxV R b v) (e:R.Ext R'):BoxV R' b v:=let ⟨T,fr,h⟩:=h;⟨T,fr,e.m _ _ h⟩
theorem BoxV.at {b:Nat} {v:Value} {S:World→Prop} (h:BoxV R b v) (hS:∀ w,S w→Sat R Hs w):At S ⟨b,0,none⟩ [v]:=let ⟨_,_,h⟩:=h;At.ro hS h ⟨rfl,trivial⟩
theorem box_leak {b:Nat} {v:Value} {T:TypeId} {fr:Nat × Nat} (h:Sat R (pts b (.cells #[v] T fr)::Hs) w):∃ R',R.Ext R'∧BoxV R' b v∧Sat R' Hs w:=
 let ⟨R',e,hb,hw⟩:=pts.leak h;⟨R',e,⟨T,fr,hb⟩,hw⟩
theorem box_leak2 {b:Nat} {v:Value} {T:TypeId} {fr:Nat × Nat} {l:List Value} (hl:l=[v]) (h:Sat R (pts b (.cells l.toArray T fr)::Hs) w):∃ R',R.Ext R'∧BoxV R' b v∧Sat R' Hs w:=by subst hl;exact box_leak h
theorem unlinkF_spec (p:Nat) (name:ByteArray) (hw:Sat R Hs w):Gets Tryz.prog 56 #[.pointer (some ⟨p,0,none⟩),.string name] w fun v w'=>∃ (R':Cx) (bw bn:Nat),R.Ext R'∧v=.func (.func 103) #[] #[.pointer (some ⟨bw,0,none⟩),.pointer (some ⟨bn,0,none⟩)]∧BoxP R' bw p∧BoxV R' bn (.string name)∧Sat R' Hs w':=by
 apply call56
 refine new_rule hw fun bw w hw=>?_
 obtain ⟨R1,e1,b1,hw⟩:=box_leak hw
 refine new_rule hw fun bn w hw=>?_
 obtain ⟨R2,e2,b2,hw⟩:=box_leak hw
 exact ⟨R2,bw,bn,e1.trans e2,rfl,b1.ext e2,b2,hw⟩
variable {p d:Nat} {lim base:Int} {s sg:Sl} {brk:Bool} {ds:List DE4} {segs:List Sg} {st:DS}
theorem unlinkC_spec {bw bn:Nat} {name:ByteArray} (i:Inv st) (h1:BoxP R bw p) (h2:BoxV R bn (.string name)) (hw:Sat R (WS p d lim base s sg brk ds segs st Hs) w):
  Gets Tryz.prog 103 #[.pointer (some ⟨bw,0,none⟩),.pointer (some ⟨bn,0,none⟩)] w fun v w'=>v=.int .i64 (unlinkD st name).2∧Sat R (WS p d lim base s sg brk ds segs (unlinkD st name).1 Hs) w':=by
 apply call103
 refine drw_rule' (Sat R [pts p (wCells d lim base s sg brk),VC.tru]) hw (fun w hw=>hw.k1) fun w hw=>?_
 refine NilP.mk rfl ⟨_,h1.at selfS,NilP.mk rfl ⟨_,(by rw [add_off];exact At.own selfS (by exact ⟨rfl,trivial⟩)),NilP.mk rfl ⟨_,h2.at selfS,?_⟩⟩⟩
 have hw:Sat R (DiskAt d st::pts p (wCells d lim base s sg brk)::EntO s ds::SegO sg segs::Hs) w:=hw.arr
 refine (unlink_spec i hw).use ?_
 clear hw
 rintro _ w ⟨rfl,hw⟩
 exact ⟨_,rfl,hw.k1,rfl,hw.arr⟩
theorem make1_spec {bw bs bb:Nat} {g:Sg} {x:Sl} {xs:List Int} (i:Inv st) (hp:PowR R) (hn:g.num<100000000) (hxl:xs.length≤100000) (h1:BoxP R bw p) (h2:R.m bs=some (sCells g)) (h3:BoxV R bb (.slice x.a x.len x.cap)) (hx:Ro R x (b8 xs)) (hw:Sat R (WS p d lim base s sg brk ds segs st Hs) w):
  Gets Tryz.prog 131 #[.pointer (some ⟨bw,0,none⟩),.pointer (some ⟨bs,0,none⟩),.pointer (some ⟨bb,0,none⟩)] w fun v w'=>v=.int .i64 (appendD st (segName g.num) xs).2∧Sat R (WS p d lim base s sg brk ds segs (appendD st (segName g.num) xs).1 Hs) w':=by
 apply call131
 refine drw_rule' (Sat R [pts p (wCells d lim base s sg brk),VC.tru]) hw (fun w hw=>hw.k1) fun w hw=>?_
 refine NilP.mk rfl ⟨_,h1.at selfS,NilP.mk rfl ⟨_,(by rw [add_off];exact At.own selfS (by exact ⟨rfl,trivial⟩)),NilP.mk rfl ⟨_,_,_,At.ro selfS h2 (by exact ⟨rfl,rfl,rfl,trivial⟩),NilP.mk rfl ⟨x,h3.at selfS,?_⟩⟩⟩⟩
 refine (name_spec hp hn hw).use ?_
 clear hw
 rintro _ w ⟨rfl,hw⟩
 refine ⟨_,rfl,hw.k1,?_⟩
 have hw:Sat R (DiskAt d st::pts p (wCells d lim base s sg brk)::EntO s ds::SegO sg segs::Hs) w:=hw.arr
 refine (append_spec i hx (by omega) hw).use ?_
 clear hw
 rintro _ w ⟨rfl,hw⟩
 exact ⟨_,rfl,hw.k1,rfl,hw.arr⟩
theorem make2_spec {bw bs:Nat} {g:Sg} (i:Inv st) (hp:PowR R) (hn:g.num<100000000) (h1:BoxP R bw p) (h2:R.m bs=some (sCells g)) (hw:Sat R (WS p d lim base s sg brk ds segs st Hs) w):
  Gets Tryz.prog 132 #[.pointer (some ⟨bw,0,none⟩),.pointer (some ⟨bs,0,none⟩)] w fun v w'=>v=.int .i64 (syncD st (segName g.num)).2∧Sat R (WS p d lim base s sg brk ds segs (syncD st (segName g.num)).1 Hs) w':=by
 apply call132
 refine drw_rule' (Sat R [pts p (wCells d lim base s sg brk),VC.tru]) hw (fun w hw=>hw.k1) fun w hw=>?_
 refine NilP.mk rfl ⟨_,h1.at selfS,NilP.mk rfl ⟨_,(by rw [add_off];exact At.own selfS (by exact ⟨rfl,trivial⟩)),NilP.mk rfl ⟨_,_,_,At.ro selfS h2 (by exact ⟨rfl,rfl,rfl,trivial⟩),?_⟩⟩⟩
 refine (name_spec hp hn hw).use ?_
 clear hw
 rintro _ w ⟨rfl,hw⟩
 refine ⟨_,rfl,hw.k1,?_⟩
 have hw:Sat R (DiskAt d st::pts p (wCells d lim base s sg brk)::EntO s ds::SegO sg segs::Hs) w:=hw.arr
 refine (sync_spec i hw).use ?_
 clear hw
 rintro _ w ⟨rfl,hw⟩
 exact ⟨_,rfl,hw.k1,rfl,hw.arr⟩
theorem make3_spec {bw bs:Nat} {g:Sg} (hl:segs.length≤1000000) (h1:BoxP R bw p) (h2:R.m bs=some (sCells g)) (hw:Sat R (WS p d lim base s sg brk ds segs st Hs) w):
  Gets Tryz.prog 133 #[.pointer (some ⟨bw,0,none⟩),.pointer (some ⟨bs,0,none⟩)] w fun v w'=>∃ sg':Sl,v=.int .i64 0∧Sat R (WS p d lim base s sg' brk ds (segs++[g]) st Hs) w':=by
 apply call133
 refine drw_rule' (Sat R [pts p (wCells d lim base s sg brk),VC.tru]) hw (fun w hw=>hw.k1) fun w hw=>?_
 refine NilP.mk rfl ⟨_,h1.at selfS,NilP.mk rfl ⟨_,h1.at selfS,NilP.mk rfl ⟨sg,At.own selfS (by exact ⟨rfl,trivial⟩),NilP.mk rfl ⟨_,_,_,At.ro selfS h2 (by exact ⟨rfl,rfl,rfl,trivial⟩),new_rule hw fun b w hw=>⟨hw.k1,?_⟩⟩⟩⟩⟩
 have hw:Sat R (SegO sg segs::pts b (.cells (sRow g).toArray 96 (0,0))::pts p (wCells d lim base s sg brk)::EntO s ds::DiskAt d st::Hs) w:=hw.arr
 refine pushN_in elG hw rfl rfl (by rw [List.length_map];omega) (by rw [List.length_map];omega) fun sg2 w hw=>?_
 have hw:Sat R (pts p (wCells d lim base s sg brk)::EntO s ds::SegO sg2 (segs++[g])::DiskAt d st::Hs) w:=by
  unfold SegO;rw [List.map_append];simp only [List.map_cons,List.map_nil];exact hw.arr
 refine ⟨hw.k1,NilP.mk rfl ?_⟩
 refine store_rule hw (by kernel_rfl) rfl (by simp [Value.cells,putL_len]) fun w hw=>?_
 exact ⟨sg2,rfl,hw⟩
def DoneQ (R:Cx) (Hs:List HP) (p d:Nat) (lim base:Int) (s:Sl) (brk:Bool) (ds:List DE4) (segs:Int→List Sg) (x:DS × Int) (n:Int) (w:World):Prop:=∃ (R':Cx) (sg:Sl),R.Ext R'∧n=x.2∧Sat R' (WS p d lim base s sg brk ds (segs n) x.1 Hs) w
def madeS (segs:List Sg) (n:Nat) (next:Int) (e:Int):List Sg:=if e=0 then segs++[⟨n,next,(headB n next).length⟩] else segs
theorem make_spec {n:Nat} {next:Int} (i:Inv st) (hp:PowR R) (hn:n≤99999999) (h0:0≤next) (h1:next≤1099511627777) (hl:segs.length≤1000000) (hw:Sat R (WS p d lim base s sg brk ds segs st Hs) w):
  Gets Tryz.prog 89 #[.pointer (some ⟨p,0,none⟩),.int .i64 n,.int .i64 next] w fun v w'=>∃ e,v=.int .i64 e∧DoneQ R Hs p d lim base s brk ds (madeS segs n next) (makeD st n next) e w':=by
 apply call89
 refine new_rule hw fun bw w hw=>?_
 obtain ⟨R1,e1,b1,hw⟩:=box_leak hw
 refine new_rule hw fun b3 w hw=>?_
 obtain ⟨hc3,hw⟩:=Sat.lend.1 hw
 refine (encoded_spec (t:=none) (sd:=⟨none,0,0⟩) (xs:=[0,n,next]) (sl:=⟨some ⟨b3,0,none⟩,3,3⟩) (fun x hx=>by simp at hx;omega) (by simp) (fun d h=>by cases h) (ro_new (by simp) rfl hc3) hw).use ?_
 clear hw
 rintro _ w ⟨t,rfl,hw⟩
 rw [encB_hd] at hw
 have htl:t.len=(headB n next).length:=by have:=Own.len hw;simpa using this
 have hhl:(headB n next).length≤1000:=by have:=hdB_len (n:=n) (next:=next) hn h1;unfold headB;rw [recB_len];omega
 have hw:Sat R1 (Own t 5 (b8 (headB n next))::WS p d lim base s sg brk ds segs st Hs) w:=((Sat.lend.2 ⟨hc3,hw⟩:Sat R1 (pts b3 _::Own t 5 (b8 (headB n next))::WS p d lim base s sg brk ds segs st Hs) w)).drop
 obtain ⟨R2,e2,ht,hw⟩:=Own.leak hw
 refine ⟨t,rfl,new_rule hw fun bb w hw=>?_⟩
 refine store_rule hw (by kernel_rfl) rfl (by simp [Value.cells,putL_len]) fun w hw=>?_
 refine ⟨t,At.own (eqS hw) (by exact ⟨rfl,trivial⟩),?_⟩
 obtain ⟨R3,e3,b3',hw⟩:=box_leak2 (v:=.slice t.a t.len t.cap) rfl hw
 refine new_rule hw fun bs w hw=>?_
 refine store_rule hw (by kernel_rfl) rfl (by simp [Value.cells,putL_len]) fun w hw=>?_
 rw [htl] at hw
 have hw:Sat R3 (pts bs (sCells ⟨n,next,(headB n next).length⟩)::WS p d lim base s sg brk ds segs st Hs) w:=hw
 obtain ⟨R4,e4,b4,hw⟩:=pts.leak hw
 refine new_rule hw fun bt w hw=>?_
 obtain ⟨R5,e5,b5,hw⟩:=pts.leak hw
 have e25:=(e3.trans e4).trans e5
 have e15:=e2.trans e25
 have hp5:=hp.ext (e1.trans e15)
 have hx:=(e25.slR ht).ro (by rw [List.length_map];omega)
 have hro:Ro R5 ⟨some ⟨bt,0,none⟩,3,3⟩ [.func (.func 131) #[] #[.pointer (some ⟨bw,0,none⟩),.pointer (some ⟨bs,0,none⟩),.pointer (some ⟨bb,0,none⟩)],.func (.func 132) #[] #[.pointer (some ⟨bw,0,none⟩),.pointer (some ⟨bs,0,none⟩)],.func (.func 133) #[] #[.pointer (some ⟨bw,0,none⟩),.pointer (some ⟨bs,0,none⟩)]]:=
  ⟨rfl,by simp,fun _=>⟨bt,0,_,_,_,rfl,b5,fun i v h=>by simpa using h⟩⟩
 have hbw:=b1.ext e15
 have hbb:=b3'.ext (e4.trans e5)
 have hbs:=e5.m _ _ b4
 refine (all_spec (Q:=DoneQ R Hs p d lim base s brk ds (madeS segs n next) (makeD st n next)) hro (by simp) hw ?_).use ?_
 ·refine CalW.mk (by kernel_rfl) ((make1_spec (g:=⟨n,next,(headB n next).length⟩) (x:=t) (xs:=headB n next) i hp5 (by show n<_;omega) (by omega) hbw hbs hbb hx hw).use ?_)
  clear hw
  rintro _ w ⟨rfl,hw⟩
  refine ⟨_,rfl,?_⟩
  by_cases he:(appendD st (segName n) (headB n next)).2=0
  case neg=>
   refine .inl ⟨he,R5,sg,e1.trans e15,?_,?_⟩
   ·unfold makeD thenD;rw [if_neg he]
   ·unfold makeD thenD madeS;rw [if_neg he,if_neg he];exact hw
  refine .inr ⟨he,⟨_,hw⟩,?_⟩
  have i2:=appendD_inv i (segName n) (headB n next)
  refine CalW.mk (by kernel_rfl) ((make2_spec (g:=⟨n,next,(headB n next).length⟩) i2 hp5 (by show n<_;omega) hbw hbs hw).use ?_)
  clear hw
  rintro _ w ⟨rfl,hw⟩
  have em:makeD st n next=syncD (appendD st (segName n) (headB n next)).1 (segName n):=by unfold makeD thenD;rw [if_pos he]
  rw [←em] at hw ⊢
  refine ⟨_,rfl,?_⟩
  by_cases he2:(makeD st n next).2=0
  case neg=>
   refine .inl ⟨he2,R5,sg,e1.trans e15,rfl,?_⟩
   unfold madeS;rw [if_neg he2];exact hw
  refine .inr ⟨he2,⟨_,hw⟩,?_⟩
  refine CalW.mk (by kernel_rfl) ((make3_spec hl hbw hbs hw).use ?_)
  clear hw
  rintro _ w ⟨sg',rfl,hw⟩
  refine ⟨_,rfl,.inr ⟨rfl,⟨_,hw⟩,R5,sg',e1.trans e15,he2.symm,?_⟩⟩
  unfold madeS;rw [if_pos rfl];exact hw
 ·rintro _ w ⟨e,rfl,h⟩
  exact ⟨e,rfl,e,rfl,h⟩
end Go.Proofs.YtkfedbncmfnpnaaGreatDoor
/- A log on a disk: mending a segment. Condition: bounds on lengths; the library's table of powers is laid. -/
namespace Go.Proofs.YtkfedbncmfnpnaaGreatDoor
set_option linter.unusedVariables false
set_option linter.unusedSimpArgs false
open Go Go.VC
variable {R R':Cx} {Hs Rest:List HP} {w:World} {p d:Nat} {lim base:Int} {s sg:Sl} {brk:Bool} {ds:List DE4} {segs:List Sg} {st:DS}
theorem mendT_spec {bs:Nat} {g g':Sg} (h:R.m bs=some (sCells g)) (hw:Sat R Hs w):Gets Tryz.prog 126 #[.agg #[.int .i64 g'.num,.int .i64 g'.next,.int .i64 g'.size],.pointer (some ⟨bs,0,none⟩)] w fun v w'=>v=.bool (decide (g'.num=g.num))∧Sat R Hs w':=by
 apply call126
 refine new_rule hw fun b w hw=>?_
 refine ⟨_,At.own (eqS hw) (by exact ⟨rfl,trivial⟩),NilP.mk rfl ⟨_,(by rw [add_off];exact At.ro (eqS hw) h (by exact ⟨rfl,trivial⟩)),?_⟩⟩
 refine ⟨?_,hw.drop⟩
 congr 1
 rw [Bool.eq_iff_iff]
 simp only [beq_iff_eq,decide_eq_true_eq]
 show ((g'.num:Int)=(g.num:Int))↔_
 omega
theorem mendC_spec {bs:Nat} {g:Sg} (h:R.m bs=some (sCells g)) (hl:segs.length≤1000000) (hs:RoN 3 R sg (segs.map sRow)) (hw:Sat R Hs w):
  Gets Tryz.prog 125 #[.slice sg.a sg.len sg.cap,.func (.func 126) #[] #[.pointer (some ⟨bs,0,none⟩)]] w fun v w'=>v=.bool (inSegs segs g.num)∧Sat R Hs w':=by
 have hsl:sg.len=segs.length:=by have:=hs.len;simpa using this
 apply call125
 have h1:Gets Tryz.prog 171 #[.slice sg.a sg.len sg.cap,.func (.func 126) #[] #[.pointer (some ⟨bs,0,none⟩)]] w fun v w'=>(∃ n:Int,v=.int .i64 n∧(0≤n↔inSegs segs g.num=true))∧Sat R Hs w':=by
  apply call171
  refine ⟨fun i w=>∃ k:Nat,i=k∧k≤segs.length∧(∀ x∈segs.take k,x.num≠g.num)∧Sat R Hs w,fun i _=>segs.length - i.toNat,⟨0,rfl,by omega,by simp,hw⟩,?_⟩
  clear hw
  rintro _ _ w ⟨k,rfl,hk,hno,hw⟩
  refine Br.d (fun h2=>?_) (fun h2=>?_)
  ·have hk':k<segs.length:=by omega
   refine (hs.reads (S:=fun w'=>w'=w) (eqS hw)).rngM hk' fun a _ el=>⟨segs[k].num,segs[k].next,segs[k].size,el.z (by exact ⟨rfl,rfl,rfl,trivial⟩),?_⟩
   refine CalW.mk (by kernel_rfl) ((mendT_spec (g':=segs[k]) h hw).use ?_)
   clear hw
   rintro _ w ⟨rfl,hw⟩
   refine ⟨_,rfl,Br.d (fun h3=>?_) (fun h3=>?_)⟩
   ·refine ⟨⟨_,rfl,fun _=>?_,fun _=>by omega⟩,hw⟩
    unfold inSegs
    rw [List.any_eq_true]
    exact ⟨segs[k],List.getElem_mem _,by simp [h3]⟩
   ·refine ⟨⟨k + 1,by rw [wrap64 (by omega) (by omega)];omega,by omega,fun x hx=>?_,hw⟩,by dsimp only;rw [wrap64 (by omega) (by omega)];omega⟩
    rw [List.take_add_one,List.getElem?_eq_getElem hk'] at hx
    rcases List.mem_append.1 hx with hx|hx
    ·exact hno x hx
    ·simp at hx;rw [hx];exact h3
  ·have:k=segs.length:=by omega
   rw [this,List.take_length] at hno
   refine ⟨⟨_,rfl,fun h=>by omega,fun h=>?_⟩,hw⟩
   unfold inSegs at h
   rw [List.any_eq_true] at h
   obtain ⟨x,hx,he⟩:=h
   exact absurd (of_decide_eq_true he) (hno x hx)
 refine h1.use ?_
 rintro _ w ⟨⟨n,rfl,hn⟩,hw⟩
 refine ⟨n,rfl,?_,hw⟩
 congr 1
 rw [Bool.eq_iff_iff,decide_eq_true_eq,←hn]
theorem mendA_spec {bw bb bs:Nat} {g:Sg} {x:Sl} {xs:List Int} (i:Inv st) (h1:BoxP R bw p) (h2:BoxV R bb (.slice x.a x.len x.cap)) (h3:R.m bs=some (sCells g)) (hx:SlR R.m x (b8 xs)) (hxl:xs.length≤1099511627776) (h0:0≤g.size) (hz:g.size≤xs.length) (hw:Sat R (WS p d lim base s sg brk ds segs st Hs) w):
  Gets Tryz.prog 127 #[.pointer (some ⟨bw,0,none⟩),.pointer (some ⟨bb,0,none⟩),.pointer (some ⟨bs,0,none⟩)] w fun v w'=>v=.int .i64 (appendD st scratchN (xs.take g.size.toNat)).2∧Sat R (WS p d lim base s sg brk ds segs (appendD st scratchN (xs.take g.size.toNat)).1 Hs) w':=by
 have hxl2:x.len=xs.length:=by have:=hx.len;simpa using this
 have hcap:=hx.cap
 apply call127
 refine drw_rule' (Sat R [pts p (wCells d lim base s sg brk),VC.tru]) hw (fun w hw=>hw.k1) fun w hw=>?_
 refine NilP.mk rfl ⟨_,h1.at selfS,NilP.mk rfl ⟨_,(by rw [add_off];exact At.own selfS (by exact ⟨rfl,trivial⟩)),NilP.mk rfl ⟨x,h2.at selfS,NilP.mk rfl ⟨g.size,At.ro selfS h3 (by exact ⟨rfl,trivial⟩),h0,by omega,?_⟩⟩⟩⟩
 have hw:Sat R (DiskAt d st::pts p (wCells d lim base s sg brk)::EntO s ds::SegO sg segs::Hs) w:=hw.arr
 have hx2:=(hx.b8take (k:=g.size.toNat) (by omega)).ro (by rw [List.length_map,List.length_take];omega)
 refine (append_spec (k:=scratchN) (x:=⟨x.a,g.size.toNat,x.cap⟩) i hx2 (by rw [List.length_take];omega) hw).use ?_
 clear hw
 rintro _ w ⟨rfl,hw⟩
 exact ⟨_,rfl,hw.k1,rfl,hw.arr⟩
theorem mendS_spec {bw:Nat} (i:Inv st) (h1:BoxP R bw p) (hw:Sat R (WS p d lim base s sg brk ds segs st Hs) w):
  Gets Tryz.prog 128 #[.pointer (some ⟨bw,0,none⟩)] w fun v w'=>v=.int .i64 (syncD st scratchN).2∧Sat R (WS p d lim base s sg brk ds segs (syncD st scratchN).1 Hs) w':=by
 apply call128
 refine NilP.mk rfl ⟨_,h1.at (eqS hw),NilP.mk rfl ⟨_,(by rw [add_off];exact At.own (eqS hw) (by exact ⟨rfl,trivial⟩)),?_⟩⟩
 have hw:Sat R (DiskAt d st::pts p (wCells d lim base s sg brk)::EntO s ds::SegO sg segs::Hs) w:=hw.arr
 refine (sync_spec (k:=scratchN) i hw).use ?_
 clear hw
 rintro _ w ⟨rfl,hw⟩
 exact ⟨_,rfl,rfl,hw.arr⟩
theorem mendR_spec {bw bs:Nat} {g:Sg} (i:Inv st) (hp:PowR R) (hn:g.num<100000000) (h1:BoxP R bw p) (h3:R.m bs=some (sCells g)) (hw:Sat R (WS p d lim base s sg brk ds segs st Hs) w):
  Gets Tryz.prog 129 #[.pointer (some ⟨bw,0,none⟩),.pointer (some ⟨bs,0,none⟩)] w fun v w'=>v=.int .i64 (renameD st scratchN (segName g.num)).2∧Sat R (WS p d lim base s sg brk ds segs (renameD st scratchN (segName g.num)).1 Hs) w':=by
 apply call129
 refine drw_rule' (Sat R [pts p (wCells d lim base s sg brk),VC.tru]) hw (fun w hw=>hw.k1) fun w hw=>?_
 refine NilP.mk rfl ⟨_,h1.at selfS,NilP.mk rfl ⟨_,(by rw [add_off];exact At.own selfS (by exact ⟨rfl,trivial⟩)),NilP.mk rfl ⟨_,_,_,At.ro selfS h3 (by exact ⟨rfl,rfl,rfl,trivial⟩),?_⟩⟩⟩
 refine (name_spec hp hn hw).use ?_
 clear hw
 rintro _ w ⟨rfl,hw⟩
 refine ⟨_,rfl,hw.k1,?_⟩
 have hw:Sat R (DiskAt d st::pts p (wCells d lim base s sg brk)::EntO s ds::SegO sg segs::Hs) w:=hw.arr
 refine (rename_spec (k:=scratchN) i hw).use ?_
 clear hw
 rintro _ w ⟨rfl,hw⟩
 exact ⟨_,rfl,hw.k1,rfl,hw.arr⟩
def mendSegsE (st:DS) (segs:List Sg) (g:Sg):List Sg:=if g.next=0∨inSegs segs g.num=false then segs else if (readD st (segName g.num)).2≠0 then segs else setSize segs g.size
theorem mend_spec {g:Sg} (i:Inv st) (hp:PowR R) (hn:g.num<100000000) (hl:segs.length≤1000000) (h0:0≤g.size) (hz:(readD st (segName g.num)).2=0→g.size≤(readD st (segName g.num)).1.length) (hw:Sat R (WS p d lim base s sg brk ds segs st Hs) w):
  Gets Tryz.prog 87 #[.pointer (some ⟨p,0,none⟩),.agg #[.int .i64 g.num,.int .i64 g.next,.int .i64 g.size]] w fun v w'=>∃ e,v=.int .i64 e∧DoneQ R Hs p d lim base s brk ds (fun _=>mendSegsE st segs g) (mendD st segs g) e w':=by
 apply call87
 suffices H:∀ K:Value→World→Prop,(∀ e w',DoneQ R Hs p d lim base s brk ds (fun _=>mendSegsE st segs g) (mendD st segs g) e w'→K (.int .i64 e) w')→B87 (some ⟨p,0,none⟩) g.num g.next g.size K w from H _ fun e _ h=>⟨e,rfl,h⟩
 intro K hK
 refine new_rule hw fun bw w hw=>?_
 obtain ⟨R1,e1,b1,hw⟩:=box_leak hw
 refine new_rule hw fun bs w hw=>?_
 have hw:Sat R1 (pts bs (sCells g)::WS p d lim base s sg brk ds segs st Hs) w:=hw
 obtain ⟨R2,e2,b2,hw⟩:=pts.leak hw
 have e12:=e1.trans e2
 have b1:=b1.ext e2
 have hp2:=hp.ext e12
 have gone:(g.next=0∨inSegs segs g.num=false)→∀ {w},Sat R2 (WS p d lim base s sg brk ds segs st Hs) w→Drw w fun S w_3=>
   ∃ t19:Option Addr,(At S ⟨bw,0,none⟩ [.pointer t19])∧
   NilP t19 fun a_t20=>
   ∃ t22:Option Addr,(At S (Addr.add a_t20 0) [.pointer t22])∧
   ∃ t23:Int,∃ t23_1:Int,∃ t23_2:Int,(At S ⟨bs,0,none⟩ [.int .i64 t23,.int .i64 t23_1,.int .i64 t23_2])∧
   Calls Tryz.prog 57 #[.agg #[.int .i64 t23,.int .i64 t23_1,.int .i64 t23_2]] w_3 fun e w_4=>
   ∃ t24:ByteArray,(e=.returned (.string t24))∧
   (S w_4)∧
   Calls Tryz.prog 104 #[.pointer t22,.string t24] w_4 fun e_1 w_5=>
   ∃ t25:Int,(e_1=.returned (.int .i64 t25))∧
   (S w_5)∧
   K (.int .i64 t25) w_5:=fun hc {w} hw=>by
  refine drw_rule' (Sat R2 [pts p (wCells d lim base s sg brk),VC.tru]) hw (fun w hw=>hw.k1) fun w hw=>?_
  refine ⟨_,b1.at selfS,NilP.mk rfl ⟨_,(by rw [add_off];exact At.own selfS (by exact ⟨rfl,trivial⟩)),_,_,_,At.ro selfS b2 (by exact ⟨rfl,rfl,rfl,trivial⟩),?_⟩⟩
  refine (name_spec hp2 hn hw).use ?_
  clear hw
  rintro _ w ⟨rfl,hw⟩
  refine ⟨_,rfl,hw.k1,?_⟩
  have hw:Sat R2 (DiskAt d st::pts p (wCells d lim base s sg brk)::EntO s ds::SegO sg segs::Hs) w:=hw.arr
  refine (unlink_spec i hw).use ?_
  clear hw
  rintro _ w ⟨rfl,hw⟩
  have em:mendD st segs g=unlinkD st (segName g.num):=by unfold mendD;rw [if_pos hc]
  refine ⟨_,rfl,hw.k1,hK _ _ ⟨R2,sg,e12,by rw [em],?_⟩⟩
  have es:mendSegsE st segs g=segs:=by unfold mendSegsE;rw [if_pos hc]
  rw [em,es]
  exact hw.arr
 refine ⟨fun w=>¬ (g.next=0∨inSegs segs g.num=false)∧Sat R2 (WS p d lim base s sg brk ds segs st Hs) w,?_,?_⟩
 ·refine ⟨g.next,At.ro (eqS hw) b2 (by exact ⟨rfl,trivial⟩),Br.e (fun h=>gone (.inl h) hw) (fun h=>?_)⟩
  refine ⟨_,b1.at (eqS hw),NilP.mk rfl ⟨sg,At.own (eqS hw) (by exact ⟨rfl,trivial⟩),?_⟩⟩
  have hw:Sat R2 (SegO sg segs::pts p (wCells d lim base s sg brk)::EntO s ds::DiskAt d st::Hs) w:=hw.arr
  obtain ⟨R3,hr,⟨x,hx⟩,hw,back⟩:=OwnN.lend hw
  have b23:R3.m bs=some (sCells g):=by rw [hx];exact Cx.kept b2
  refine (mendC_spec b23 hl hr hw).use ?_
  clear hw
  rintro _ w ⟨rfl,hw⟩
  have hw:Sat R2 (SegO sg segs::pts p (wCells d lim base s sg brk)::EntO s ds::DiskAt d st::Hs) w:=back hw
  have hw:Sat R2 (WS p d lim base s sg brk ds segs st Hs) w:=hw.arr
  refine ⟨_,rfl,Br.nb (fun h2=>gone (.inr h2) hw) (fun h2=>⟨fun h3=>h3.elim h (fun h3=>by rw [h2] at h3;cases h3),hw⟩)⟩
 clear hw
 rintro _ w ⟨hc,hw⟩
 obtain ⟨xs,hxs⟩:∃ xs,xs=(readD st (segName g.num)).1:=⟨_,rfl⟩
 obtain ⟨er,her⟩:∃ er,er=(readD st (segName g.num)).2:=⟨_,rfl⟩
 rw [←hxs,←her] at hz
 have hxl:xs.length≤16777216:=by
  rw [hxs]
  unfold readD
  split
  ·simp
  ·split
   ·simp
   ·split
    ·simp
    ·rename_i f hf
     have:=total_le hf;have:=i.full;have:=i.r1
     simp only;omega
 refine ⟨fun b5 e6 w=>e6=er∧∃ (R3:Cx) (bb:Nat) (x:Sl),R2.Ext R3∧b5=some ⟨bb,0,none⟩∧BoxV R3 bb (.slice x.a x.len x.cap)∧SlR R3.m x (b8 xs)∧Sat R3 (WS p d lim base s sg brk ds segs st Hs) w,?_,?_⟩
 ·have key:∀ {R3:Cx} {bb:Nat} {t:Sl} {As:List HP} {w:World},R2.Ext R3→SlR R3.m t (b8 xs)→Sat R3 (pts bb (.cells [.slice t.a t.len t.cap].toArray 53 (0,0))::WS p d lim base s sg brk ds segs st Hs) w→
    ∃ (R3:Cx) (bb':Nat) (x:Sl),R2.Ext R3∧(some ⟨bb,0,none⟩:Option Addr)=some ⟨bb',0,none⟩∧BoxV R3 bb' (.slice x.a x.len x.cap)∧SlR R3.m x (b8 xs)∧Sat R3 (WS p d lim base s sg brk ds segs st Hs) w:=fun {R3 bb t As w} e ht hw=>by
   obtain ⟨R4,e4,b4,hw⟩:=box_leak2 (v:=.slice t.a t.len t.cap) rfl hw
   exact ⟨R4,bb,t,e.trans e4,rfl,b4,e4.slR ht,hw⟩
  refine drw_rule' (Sat R2 [pts p (wCells d lim base s sg brk),VC.tru]) hw (fun w hw=>hw.k1) fun w hw=>?_
  refine ⟨_,b1.at selfS,NilP.mk rfl ⟨_,(by rw [add_off];exact At.own selfS (by exact ⟨rfl,trivial⟩)),_,_,_,At.ro selfS b2 (by exact ⟨rfl,rfl,rfl,trivial⟩),?_,?_⟩⟩
  ·refine (name_spec hp2 hn hw).use ?_
   clear hw
   rintro _ w ⟨rfl,hw⟩
   refine ⟨_,rfl,hw.k1,?_,?_⟩
   ·have hw:Sat R2 (DiskAt d st::pts p (wCells d lim base s sg brk)::EntO s ds::SegO sg segs::Hs) w:=hw.arr
    refine (read_spec i hw).use ?_
    clear hw
    rintro _ w ⟨t,rfl,hw⟩
    refine ⟨t,_,rfl,hw.k1,?_⟩
    rw [←hxs] at hw
    refine new_rule hw fun bb w hw=>⟨hw.k1,?_⟩
    refine store_rule hw (by kernel_rfl) rfl (by simp [Value.cells,putL_len]) fun w hw=>?_
    have hw:Sat R2 (pts bb (.cells [.slice t.a t.len t.cap].toArray 53 (0,0))::Own t 5 (b8 xs)::DiskAt d st::pts p (wCells d lim base s sg brk)::EntO s ds::SegO sg segs::Hs) w:=hw
    have hw:Sat R2 (Own t 5 (b8 xs)::pts bb (.cells [.slice t.a t.len t.cap].toArray 53 (0,0))::WS p d lim base s sg brk ds segs st Hs) w:=hw.arr
    obtain ⟨R3,e3,ht,hw⟩:=Own.leak hw
    exact ⟨her.symm,key (As:=[]) e3 ht hw⟩
   ·refine new_rule hw fun bb w hw=>⟨hw.k1,?_⟩
    have hw:Sat R2 (DiskAt d st::pts bb (.cells [.slice none 0 0].toArray 53 (0,0))::pts p (wCells d lim base s sg brk)::EntO s ds::SegO sg segs::Hs) w:=hw.arr
    refine (read_spec i hw).use ?_
    clear hw
    rintro _ w ⟨t,rfl,hw⟩
    refine ⟨t,_,rfl,hw.k1,?_⟩
    rw [←hxs] at hw
    refine store_rule hw (by kernel_rfl) rfl (by simp [Value.cells,putL_len]) fun w hw=>?_
    have hw:Sat R2 (pts bb (.cells [.slice t.a t.len t.cap].toArray 53 (0,0))::Own t 5 (b8 xs)::DiskAt d st::pts p (wCells d lim base s sg brk)::EntO s ds::SegO sg segs::Hs) w:=hw
    have hw:Sat R2 (Own t 5 (b8 xs)::pts bb (.cells [.slice t.a t.len t.cap].toArray 53 (0,0))::WS p d lim base s sg brk ds segs st Hs) w:=hw.arr
    obtain ⟨R3,e3,ht,hw⟩:=Own.leak hw
    exact ⟨her.symm,key (As:=[]) e3 ht hw⟩
  ·refine new_rule hw fun bb w hw=>⟨hw.k1,?_⟩
   refine (name_spec hp2 hn hw).use ?_
   clear hw
   rintro _ w ⟨rfl,hw⟩
   refine ⟨_,rfl,hw.k1,?_⟩
   have hw:Sat R2 (DiskAt d st::pts bb (.cells [.slice none 0 0].toArray 53 (0,0))::pts p (wCells d lim base s sg brk)::EntO s ds::SegO sg segs::Hs) w:=hw.arr
   refine (read_spec i hw).use ?_
   clear hw
   rintro _ w ⟨t,rfl,hw⟩
   refine ⟨t,_,rfl,hw.k1,?_⟩
   rw [←hxs] at hw
   refine store_rule hw (by kernel_rfl) rfl (by simp [Value.cells,putL_len]) fun w hw=>?_
   have hw:Sat R2 (pts bb (.cells [.slice t.a t.len t.cap].toArray 53 (0,0))::Own t 5 (b8 xs)::DiskAt d st::pts p (wCells d lim base s sg brk)::EntO s ds::SegO sg segs::Hs) w:=hw
   have hw:Sat R2 (Own t 5 (b8 xs)::pts bb (.cells [.slice t.a t.len t.cap].toArray 53 (0,0))::WS p d lim base s sg brk ds segs st Hs) w:=hw.arr
   obtain ⟨R3,e3,ht,hw⟩:=Own.leak hw
   exact ⟨her.symm,key (As:=[]) e3 ht hw⟩
 clear hw
 rintro _ _ e6 w ⟨he6,R3,bb,x,e3,rfl,b3,hx,hw⟩
 subst he6
 have b1:=b1.ext e3
 have b2:=e3.m _ _ b2
 have hp3:=hp2.ext e3
 have e13:=e12.trans e3
 refine Br.ne (fun h=>?_) (fun h=>?_)
 ·have em:mendD st segs g=(st,e6):=by unfold mendD;rw [if_neg hc,if_pos (by rw [←her];exact h),←her]
  have es:mendSegsE st segs g=segs:=by unfold mendSegsE;rw [if_neg hc,if_pos (by rw [←her];exact h)]
  refine hK _ _ ⟨R3,sg,e13,by rw [em],?_⟩
  rw [em,es]
  exact hw
 have hz:=hz h
 have hr0:¬ (readD st (segName g.num)).2≠0:=by rw [←her];exact fun h2=>h2 h
 have es:mendSegsE st segs g=setSize segs g.size:=by unfold mendSegsE;rw [if_neg hc,if_neg hr0]
 have em:mendD st segs g=thenD (thenD (appendD st scratchN (xs.take g.size.toNat)) fun st=>syncD st scratchN) fun st=>renameD st scratchN (segName g.num):=by unfold mendD;rw [if_neg hc,if_neg hr0,←hxs]
 have hpos:0<segs.length:=by
  rcases Nat.eq_zero_or_pos segs.length with h0|h0
  ·exfalso
   refine hc (.inr ?_)
   rw [List.length_eq_zero_iff.1 h0];rfl
  ·exact h0
 have hsl:sg.len=segs.length:=by
  have h2:Sat R3 (SegO sg segs::pts p (wCells d lim base s sg brk)::EntO s ds::DiskAt d st::Hs) w:=hw.arr
  have:=OwnN.len h2;simpa using this
 refine drw_rule' (Sat R3 [pts p (wCells d lim base s sg brk),VC.tru]) hw (fun w hw=>hw.k1) fun w hw=>?_
 refine ⟨_,b1.at selfS,NilP.mk rfl ⟨sg,At.own selfS (by exact ⟨rfl,trivial⟩),_,b1.at selfS,NilP.mk rfl ⟨sg,At.own selfS (by exact ⟨rfl,trivial⟩),g.size,At.ro selfS b2 (by exact ⟨rfl,trivial⟩),?_⟩⟩⟩
 have hk:segs.length - 1<segs.length:=by omega
 have wk:IntKind.i64.wrap ((sg.len:Int) - 1)=((segs.length - 1:Nat):Int):=by rw [wrap64 (by omega) (by omega)];omega
 rw [wk]
 have hrd:ReadsN 3 sg (segs.map sRow) (fun w'=>w'=w):=OwnN.readsM (n:=3) (s:=sg) (T:=96) (rows:=segs.map sRow) hw (eqS hw)
 refine hrd.rngM hk fun a ha _=>?_
 refine OwnN.storeM (n:=3) (s:=sg) (T:=96) (E:=segs) (g:=sRow) 2 ⟨segs[segs.length - 1].num,segs[segs.length - 1].next,g.size⟩ hw ha hk (by kernel_rfl) rfl (by simp [Value.cells]) rfl fun w hw=>?_
 have ess:setSize segs g.size=segs.set (segs.length - 1) ⟨segs[segs.length - 1].num,segs[segs.length - 1].next,g.size⟩:=by
  unfold setSize
  rw [List.getElem?_eq_getElem hk]
 rw [←ess,←es] at hw
 have hw:Sat R3 (WS p d lim base s sg brk ds (mendSegsE st segs g) st Hs) w:=hw.arr
 refine new_rule hw fun bt w hw=>?_
 obtain ⟨R4,e4,b4,hw⟩:=pts.leak hw
 have hp4:=hp3.ext e4
 have b1:=b1.ext e4
 have b2:=e4.m _ _ b2
 have b3:=b3.ext e4
 have hx:=e4.slR hx
 have e14:=e13.trans e4
 have hro:Ro R4 ⟨some ⟨bt,0,none⟩,3,3⟩ [.func (.func 127) #[] #[.pointer (some ⟨bw,0,none⟩),.pointer (some ⟨bb,0,none⟩),.pointer (some ⟨bs,0,none⟩)],.func (.func 128) #[] #[.pointer (some ⟨bw,0,none⟩)],.func (.func 129) #[] #[.pointer (some ⟨bw,0,none⟩),.pointer (some ⟨bs,0,none⟩)]]:=
  ⟨rfl,by simp,fun _=>⟨bt,0,_,_,_,rfl,b4,fun i v h=>by simpa using h⟩⟩
 refine (all_spec (Q:=DoneQ R Hs p d lim base s brk ds (fun _=>mendSegsE st segs g) (mendD st segs g)) hro (by simp) hw ?_).use ?_
 ·refine CalW.mk (by kernel_rfl) ((mendA_spec (g:=g) (x:=x) (xs:=xs) i b1 b3 b2 hx (by omega) h0 hz hw).use ?_)
  clear hw
  rintro _ w ⟨rfl,hw⟩
  refine ⟨_,rfl,?_⟩
  by_cases he:(appendD st scratchN (xs.take g.size.toNat)).2=0
  case neg=>
   have em2:mendD st segs g=appendD st scratchN (xs.take g.size.toNat):=by rw [em];unfold thenD;rw [if_neg he,if_neg he]
   exact .inl ⟨he,R4,sg,e14,by rw [em2],by rw [em2];exact hw⟩
  refine .inr ⟨he,⟨_,hw⟩,?_⟩
  have i2:=appendD_inv i scratchN (xs.take g.size.toNat)
  refine CalW.mk (by kernel_rfl) ((mendS_spec i2 b1 hw).use ?_)
  clear hw
  rintro _ w ⟨rfl,hw⟩
  refine ⟨_,rfl,?_⟩
  by_cases he2:(syncD (appendD st scratchN (xs.take g.size.toNat)).1 scratchN).2=0
  case neg=>
   have em2:mendD st segs g=syncD (appendD st scratchN (xs.take g.size.toNat)).1 scratchN:=by rw [em];unfold thenD;rw [if_pos he,if_neg he2]
   exact .inl ⟨he2,R4,sg,e14,by rw [em2],by rw [em2];exact hw⟩
  refine .inr ⟨he2,⟨_,hw⟩,?_⟩
  have i3:=sync_inv i2 scratchN
  refine CalW.mk (by kernel_rfl) ((mendR_spec (g:=g) i3 hp4 hn b1 b2 hw).use ?_)
  clear hw
  rintro _ w ⟨rfl,hw⟩
  have em2:mendD st segs g=renameD (syncD (appendD st scratchN (xs.take g.size.toNat)).1 scratchN).1 scratchN (segName g.num):=by rw [em];unfold thenD;rw [if_pos he,if_pos he2]
  rw [←em2] at hw ⊢
  refine ⟨_,rfl,?_⟩
  by_cases he3:(mendD st segs g).2=0
  case neg=>exact .inl ⟨he3,R4,sg,e14,rfl,hw⟩
  exact .inr ⟨he3,⟨_,hw⟩,R4,sg,e14,he3.symm,hw⟩
 ·rintro _ w ⟨e,rfl,h⟩
  exact ⟨e,rfl,hK _ _ h⟩
end Go.Proofs.YtkfedbncmfnpnaaGreatDoor
/- The formulas of functions of this seat's translation, printed by a program of mine off the translation; each is proved equal to 'fnF' of the function's body, so it is enough for the call. No condition. -/
namespace Go.Proofs.YtkfedbncmfnpnaaGreatDoor
open Go Go.VC
set_option linter.unusedVariables false
set_option maxRecDepth 10000
def B41 (ax:Option Addr) (K:Value→World→Prop) (w:World):Prop:=
 New (.cells #[.pointer ax] 31 (0,0)) (fun e C=>
 ∃ (y:Sl→World→Prop),(∃ ab:Option Addr,(At (fun b=>b=C) ⟨e,0,none⟩ [.pointer ab])∧
 NilP ab fun am=>
 ∃ I:Option Addr,(At (fun b=>b=C) (Addr.add am 0) [.pointer I])∧
 Calls Tryz.prog 33 #[.pointer I] C fun an a0=>
 ∃ g:Sl,(an=.returned (.slice g.a g.len g.cap))∧
 Calls Tryz.prog 85 #[.slice g.a g.len g.cap,.string (ByteArray.mk #[119,97,108,46,110,101,119])] a0 fun ao E=>
 ∃ J:Bool,(ao=.returned (.bool J))∧
 Br J
 (∃ L:Option Addr,(At (fun b=>b=E) ⟨e,0,none⟩ [.pointer L])∧
 Calls Tryz.prog 56 #[.pointer L,.string (ByteArray.mk #[119,97,108,46,110,101,119])] E fun ap a3=>
 ∃ M:Value,(ap=.returned (M))∧
 ∃ ai:World,∃ i:Sl,((Instr.buildSlice 124 1 #[(0,M)]).run Tryz.prog a3=.ok (.slice i.a i.len i.cap) ai)∧
 ∃ aj:World,∃ r:Sl,((Builtin.append_ #[124,124] 124 #[.slice none 0 0,.slice i.a i.len i.cap]).run Tryz.prog ai=.ok (.slice r.a r.len r.cap) aj)∧
 y r aj)
 (y ⟨none,0,0⟩ E))∧
 ∀ (a6:Env) (o:Sl) (F:World),y o F→
 ∃ N:Option Addr,(At (fun b=>b=F) ⟨e,0,none⟩ [.pointer N])∧
 Calls Tryz.prog 58 #[.pointer N] F fun aq a4=>
 ∃ O:Option Addr,∃ j:Sl,(aq=.returned (.tuple #[.pointer O,.slice j.a j.len j.cap]))∧
 New (.cells #[.pointer none] 99 (0,0)) (fun A a5=>
 ∃ u:World,((Instr.storeAt 99 (.pointer ((some ⟨A,0,none⟩))) (.pointer O)).run Tryz.prog a5=.ok () u)∧
 ∃ (z:Sl→World→Prop),(∃ Q:Option Addr,(At (fun b=>b=u) ⟨A,0,none⟩ [.pointer Q])∧
 Br (!Q.isNone)
 (∃ ac:World,∃ k:Sl,((Instr.buildSlice 124 1 #[(0,.func (.func 86) #[] #[.pointer ((some ⟨e,0,none⟩)),.pointer ((some ⟨A,0,none⟩))])]).run Tryz.prog u=.ok (.slice k.a k.len k.cap) ac)∧
 ∃ ad:World,∃ s:Sl,((Builtin.append_ #[124,124] 124 #[.slice o.a o.len o.cap,.slice k.a k.len k.cap]).run Tryz.prog ac=.ok (.slice s.a s.len s.cap) ad)∧
 z s ad)
 (z o u))∧
 ∀ (a7:Env) (H:Sl) (ae:World),z H ae→
 ∃ (x:Sl→Int→World→Prop) (ak:Sl→Int→World→Nat),(x H 0 ae)∧∀ (a8:Env) (c:Sl) (f:Int) (d:World),x c f d→
 Br (decide (f<(↑j.len:Int)))
 (Rng f j.len (NilP j.a fun al=>
 ∃ T:Int,(At (fun b=>b=d) (Addr.add al f.toNat) [.int .i64 T])∧
 Drw d fun q ay=>
 ∃ U:Option Addr,(At q ⟨e,0,none⟩ [.pointer U])∧
 Calls Tryz.prog 57 #[.agg #[.int .i64 T,.int .i64 0,.int .i64 0]] ay fun ar af=>
 ∃ V:ByteArray,(ar=.returned (.string V))∧
 (q af)∧
 Calls Tryz.prog 56 #[.pointer U,.string V] af fun au az=>
 ∃ X:Value,(au=.returned (X))∧
 ∃ D:World,∃ l:Sl,((Instr.buildSlice 124 1 #[(0,X)]).run Tryz.prog az=.ok (.slice l.a l.len l.cap) D)∧
 (q D)∧
 ∃ v:World,∃ p:Sl,((Builtin.append_ #[124,124] 124 #[.slice c.a c.len c.cap,.slice l.a l.len l.cap]).run Tryz.prog D=.ok (.slice p.a p.len p.cap) v)∧
 (q v)∧
 (x p (IntKind.i64.wrap (f + 1)) v)∧ak p (IntKind.i64.wrap (f + 1)) v<ak c f d))
 (∃ Y:Option Addr,(At (fun b=>b=d) ⟨e,0,none⟩ [.pointer Y])∧
 NilP Y fun G=>
 ∃ t:Sl,(At (fun b=>b=d) ⟨G.block,G.off + 4,none⟩ [.slice t.a t.len t.cap])∧
 Br ((↑t.len:Int)==0)
 (∃ ag:World,∃ m:Sl,((Instr.buildSlice 124 1 #[(0,.func (.func 88) #[] #[.pointer ((some ⟨e,0,none⟩))])]).run Tryz.prog d=.ok (.slice m.a m.len m.cap) ag)∧
 ∃ ah:World,∃ n:Sl,((Builtin.append_ #[124,124] 124 #[.slice c.a c.len c.cap,.slice m.a m.len m.cap]).run Tryz.prog ag=.ok (.slice n.a n.len n.cap) ah)∧
 Calls Tryz.prog 90 #[.slice n.a n.len n.cap] ah fun av a1=>
 ∃ Z:Int,(av=.returned (.int .i64 Z))∧
 K (.int .i64 Z) a1)
 (Calls Tryz.prog 90 #[.slice c.a c.len c.cap] d fun aw a2=>
 ∃ aa:Int,(aw=.returned (.int .i64 aa))∧
 K (.int .i64 aa) a2))) a4) w
def sk41:Sk:=(.seq .leaf (.seq .leaf (.cut [3] [.sl] [3,8,9,10,11,12,13,14,15,16,17,18] .leaf (.seq .leaf (.cut [3] [.sl] [3,24,25,26,27,28,29] .leaf (.seq (.seq .leaf (.block (.loop [3,32] [.sl,(.int .i64)] [3,7,32,33,34,35,36,37,38,39,40,41,42,43,44] .leaf))) .leaf))))))
theorem call41 (a:Option Addr) (K:Value→World→Prop) (w:World) (h:B41 a K w):Gets Tryz.prog 41 #[.pointer a] w K:=cq (sk:=sk41) Tryz.func41 (by kernel_rfl) (by kernel_rfl) (by kernel_rfl) h
end Go.Proofs.YtkfedbncmfnpnaaGreatDoor
/- A log on a disk: opening. Condition: bounds on lengths; the library's table of powers is laid. -/
namespace Go.Proofs.YtkfedbncmfnpnaaGreatDoor
set_option linter.unusedVariables false
set_option linter.unusedSimpArgs false
open Go Go.VC
variable {R R':Cx} {Hs Rest:List HP} {w:World} {p d:Nat} {lim base:Int} {s sg:Sl} {brk:Bool} {ds:List DE4} {segs:List Sg} {st:DS}
theorem buildF (g:FuncId) (c:Array Value) (w:World):(Instr.buildSlice 124 1 #[(0,.func (.func g) #[] c)]).run Tryz.prog w=.ok (.slice (some ⟨w.heap.size,0,none⟩) 1 1) (w.alloc (.cells #[.func (.func g) #[] c] 52)):=by kernel_rfl
theorem elFn:El Tryz.prog 124 124 52 8:=⟨Tryz.underlying124,⟨_,Tryz.underlying124⟩,by kernel_rfl⟩
theorem buildF_rule {g:FuncId} {c:Array Value} {Q:Sl→World→Prop} (hw:Sat R Hs w) (k:∀ b w',Sat R (pts b (.cells [.func (.func g) #[] c].toArray 52 (0,0))::Hs) w'→Q ⟨some ⟨b,0,none⟩,1,1⟩ w'):
  ∃ w',∃ t:Sl,(Instr.buildSlice 124 1 #[(0,.func (.func g) #[] c)]).run Tryz.prog w=.ok (.slice t.a t.len t.cap) w'∧Q t w':=
 ⟨_,⟨some ⟨w.heap.size,0,none⟩,1,1⟩,buildF g c w,k _ _ (Sat.alloc (.cells #[.func (.func g) #[] c] 52) hw)⟩
theorem push1_in {P:Program} {bytes b:Nat} {t1 t2 ty T T':TypeId} {fr:Nat × Nat} {s:Sl} (E:El P t1 t2 T bytes) {xs:List Value} {x:Value} {K:Sl→World→Prop}
  (hw:Sat R (Own s T xs::pts b (.cells [x].toArray T' fr)::Hs) w) (h1:oneAll xs=true) (hx:x.oneCell'=true) (hb:2 * (xs.length + 1) * bytes≤281474976710656) (hb':xs.length + 1≤9223372036854775807)
  (k:∀ s' w',Sat R (Own s' T (xs++[x])::Hs) w'→K s' w'):
  ∃ w',∃ t:Sl,(Builtin.append_ #[t1,t2] ty #[.slice s.a s.len s.cap,.slice (some ⟨b,0,none⟩) 1 1]).run P w=.ok (.slice t.a t.len t.cap) w'∧K t w':=
 append_rule E hw (Src_one E.hk 1 hw hx) h1 hb hb' fun s' w' h=>k s' w' (h.cons fun _ h=>h.drop)
def FnL (fs:List Value):Prop:=∀ v∈fs,∃ g c,v=.func (.func g) #[] c
theorem FnL.one {fs:List Value} (h:FnL fs):oneAll fs=true:=by
 unfold oneAll
 rw [List.all_eq_true]
 intro x hx
 obtain ⟨g,c,rfl⟩:=h x hx
 rfl
theorem FnL.app {a b:List Value} (ha:FnL a) (hb:FnL b):FnL (a++b):=fun v hv=>(List.mem_append.1 hv).elim (ha v) (hb v)
theorem FnL.sing (g:FuncId) (c:Array Value):FnL [.func (.func g) #[] c]:=fun v hv=>by simp at hv;exact ⟨g,c,hv⟩
theorem FnL.nil:FnL []:=fun _ h=>by cases h
def UnlF (R:Cx) (p:Nat) (v:Value) (name:ByteArray):Prop:=∃ bw bn:Nat,v=.func (.func 103) #[] #[.pointer (some ⟨bw,0,none⟩),.pointer (some ⟨bn,0,none⟩)]∧BoxP R bw p∧BoxV R bn (.string name)
theorem UnlF.ext {v:Value} {name:ByteArray} (h:UnlF R p v name) (e:R.Ext R'):UnlF R' p v name:=let ⟨bw,bn,h1,h2,h3⟩:=h;⟨bw,bn,h1,h2.ext e,h3.ext e⟩
theorem UnlF.fn {v:Value} {name:ByteArray} (h:UnlF R p v name):FnL [v]:=let ⟨_,_,h1,_⟩:=h;by rw [h1];exact .sing _ _
def UnlL (R:Cx) (p:Nat):List Value→List Nat→Prop
 |[],[]=>True
 |v::vs,n::ns=>UnlF R p v (segName n)∧UnlL R p vs ns
 |_,_=>False
theorem UnlL.ext (e:R.Ext R'):∀ {vs:List Value} {ns:List Nat},UnlL R p vs ns→UnlL R' p vs ns
 |[],[],h=>h
 |_::_,_::_,h=>⟨h.1.ext e,UnlL.ext e h.2⟩
theorem UnlL.snoc {v:Value} {n:Nat}:∀ {vs:List Value} {ns:List Nat},UnlL R p vs ns→UnlF R p v (segName n)→UnlL R p (vs++[v]) (ns++[n])
 |[],[],_,hv=>⟨hv,trivial⟩
 |_::_,_::_,h,hv=>⟨h.1,UnlL.snoc h.2 hv⟩
theorem UnlL.fn:∀ {vs:List Value} {ns:List Nat},UnlL R p vs ns→FnL vs
 |[],[],_=>.nil
 |v::vs,_::_,h=>fun x hx=>by
  rcases List.mem_cons.1 hx with rfl|hx
  ·exact h.1.fn x (by simp)
  ·exact UnlL.fn h.2 x hx
theorem UnlL.len:∀ {vs:List Value} {ns:List Nat},UnlL R p vs ns→vs.length=ns.length
 |[],[],_=>rfl
 |_::_,_::_,h=>by simp [UnlL.len h.2]
theorem unl_steps {Q:Int→World→Prop} {rest:List Value}:∀ {vs:List Value} {ns:List Nat} {st:DS} {w:World},UnlL R p vs ns→Inv st→Sat R (WS p d lim base s sg brk ds segs st Hs) w→
  (∀ w',(unlinksD st ns).2≠0→Sat R (WS p d lim base s sg brk ds segs (unlinksD st ns).1 Hs) w'→Q (unlinksD st ns).2 w')→
  (∀ w',(unlinksD st ns).2=0→Inv (unlinksD st ns).1→Sat R (WS p d lim base s sg brk ds segs (unlinksD st ns).1 Hs) w'→StepsQ R rest Q w')→StepsQ R (vs++rest) Q w
 |[],[],st,w,_,i,hw,_,k=>k w rfl i hw
 |v::vs,n::ns,st,w,h,i,hw,q,k=>by
  obtain ⟨⟨bw,bn,rfl,b1,b2⟩,h⟩:=h
  refine CalW.mk (by kernel_rfl) ((unlinkC_spec i b1 b2 hw).use ?_)
  clear hw
  rintro _ w ⟨rfl,hw⟩
  refine ⟨_,rfl,?_⟩
  by_cases he:(unlinkD st (segName n)).2=0
  case neg=>
   have e:unlinksD st (n::ns)=unlinkD st (segName n):=by unfold unlinksD thenD;rw [if_neg he]
   rw [e] at q
   exact .inl ⟨he,q _ he hw⟩
  have e:unlinksD st (n::ns)=unlinksD (unlinkD st (segName n)).1 ns:=by conv=>lhs;unfold unlinksD thenD;rw [if_pos he]
  rw [e] at q k
  exact .inr ⟨he,⟨_,hw⟩,unl_steps h (unlink_inv i _) hw q k⟩
theorem thenD_err {x:DS × Int} {f:DS→DS × Int} (h:x.2≠0):thenD x f=x:=if_neg h
theorem thenD_ok {x:DS × Int} {f:DS→DS × Int} (h:x.2=0):thenD x f=f x.1:=if_pos h
theorem unlink_read {st:DS} {k k2:ByteArray} (hne:k2≠k) (h:(unlinkD st k).2=0):(unlinkD st k).1.off=st.off∧readD (unlinkD st k).1 k2=readD st k2:=by
 have hg:=unlink_get (st:=st) hne
 have ho:(unlinkD st k).1.off=st.off:=by
  obtain ⟨h1,h2⟩:=doing_ok (st:=st) h
  have e:unlinkD st k=unlinkG k (chg st (nameOk k)).1:=h2
  have e2:(chg st (nameOk k)).1.off=st.off:=by
   unfold chg at h1 ⊢
   split
   ·rfl
   ·split
    ·rfl
    ·split
     ·rename_i h3 h4 h5;rw [if_neg h3,if_neg h4,if_pos h5] at h1;simp at h1
     ·rfl
  rw [e,←e2]
  unfold unlinkG
  split<;>rfl
 refine ⟨ho,?_⟩
 unfold readD
 rw [ho,hg]
def RecQ (R:Cx) (Hs:List HP) (p d:Nat) (lim:Int) (brk:Bool) (st:DS) (e:Int) (w:World):Prop:=
 ∃ R' base s ds sg segs,R.Ext R'∧DsR R' ds∧e=(recoverD st).2∧(e=0→(⟨base,erE ds⟩:Lg)=(openedW st).g∧segs=(openedW st).segs∧segs.length≤40001)∧0≤base∧base≤1099511627776∧ds.length≤100000000000∧
  Sat R' (WS p d lim base s sg brk ds segs (recoverD st).1 Hs) w
theorem recover1_spec {bw bA bg:Nat} {g:Sg} (i:Inv st) (hp:PowR R) (hn:g.num<100000000) (hl:segs.length≤1000000) (h0:0≤g.size) (hz:(readD st (segName g.num)).2=0→g.size≤(readD st (segName g.num)).1.length) (h1:BoxP R bw p) (h2:BoxP R bA bg) (h3:R.m bg=some (sCells g))
  (hw:Sat R (WS p d lim base s sg brk ds segs st Hs) w):
  Gets Tryz.prog 86 #[.pointer (some ⟨bw,0,none⟩),.pointer (some ⟨bA,0,none⟩)] w fun v w'=>∃ e,v=.int .i64 e∧DoneQ R Hs p d lim base s brk ds (fun _=>mendSegsE st segs g) (mendD st segs g) e w':=by
 apply call86
 refine drw_rule' (Sat R [VC.tru]) hw (fun w hw=>Sat.toTru (As:=[]) hw) fun w hw=>?_
 refine NilP.mk rfl ⟨_,h1.at selfS,NilP.mk rfl ⟨_,h2.at selfS,NilP.mk rfl ⟨_,_,_,At.ro selfS h3 (by exact ⟨rfl,rfl,rfl,trivial⟩),?_⟩⟩⟩
 refine (mend_spec i hp hn hl h0 hz hw).use ?_
 rintro _ w ⟨e,rfl,h⟩
 have h':=h
 obtain ⟨R2,sg2,e2,_,hw⟩:=h'
 exact ⟨_,rfl,e2.back (Sat.toTru (As:=[]) hw),e,rfl,h⟩
theorem recover2_spec {bw:Nat} (i:Inv st) (hp:PowR R) (hl:segs.length≤1000000) (h1:BoxP R bw p) (hw:Sat R (WS p d lim base s sg brk ds segs st Hs) w):
  Gets Tryz.prog 88 #[.pointer (some ⟨bw,0,none⟩)] w fun v w'=>∃ e,v=.int .i64 e∧DoneQ R Hs p d lim base s brk ds (madeS segs 1 1) (makeD st 1 1) e w':=by
 apply call88
 refine NilP.mk rfl ⟨_,h1.at (eqS hw),?_⟩
 refine (make_spec (n:=1) (next:=1) i hp (by omega) (by omega) (by omega) hl hw).use ?_
 rintro _ w ⟨e,rfl,h⟩
 exact ⟨e,rfl,e,rfl,h⟩
end Go.Proofs.YtkfedbncmfnpnaaGreatDoor
/- A log on a disk: opening, whole. Condition: bounds on lengths; the library's table of powers is laid. -/
namespace Go.Proofs.YtkfedbncmfnpnaaGreatDoor
set_option linter.unusedVariables false
set_option linter.unusedSimpArgs false
open Go Go.VC
variable {R R':Cx} {Hs Rest:List HP} {w:World} {p d:Nat} {lim base:Int} {s sg:Sl} {brk:Bool} {ds:List DE4} {segs:List Sg} {st:DS}
abbrev x0D (st:DS):DS × Int:=if scratchN∈namesOf st.fs then unlinkD st scratchN else (st,0)
abbrev f1D (ld:Ld) (st:DS):DS × Int:=match ld.amiss with|some s=>mendD st ld.segs s|none=>(st,0)
abbrev f3D (ld:Ld) (st:DS):DS × Int:=if ld.segs=[] then makeD st 1 1 else (st,0)
theorem recoverD_eq (st:DS):recoverD st=thenD (thenD (thenD (x0D st) (f1D (loadD st))) fun st'=>unlinksD st' (loadD st).behind) (f3D (loadD st)):=rfl
theorem readD_le {st:DS} (i:Inv st) (k:ByteArray):(readD st k).1.length≤16777216:=by
 unfold readD
 split
 ·simp
 ·split
  ·simp
  ·split
   ·simp
   ·rename_i f hf
    have:=total_le hf;have:=i.full;have:=i.r1
    simp only;omega
theorem x0_read {st:DS} (n:Nat) (h:(x0D st).2=0):readD (x0D st).1 (segName n)=readD st (segName n):=by
 unfold x0D at h ⊢
 split
 ·rename_i hs
  rw [if_pos hs] at h
  exact (unlink_read (seg_ne_scratch n) h).2
 ·rfl
theorem x0_inv {st:DS} (i:Inv st):Inv (x0D st).1:=by
 unfold x0D
 split
 ·exact unlink_inv i _
 ·exact i
theorem thenD_inv {x:DS × Int} {f:DS→DS × Int} (hx:Inv x.1) (hf:∀ st,Inv st→Inv (f st).1):Inv (thenD x f).1:=by
 unfold thenD
 split
 ·exact hf _ hx
 ·exact hx
theorem mendD_inv {st:DS} (i:Inv st) (segs:List Sg) (g:Sg):Inv (mendD st segs g).1:=by
 unfold mendD
 split
 ·exact unlink_inv i _
 ·split
  ·exact i
  ·exact thenD_inv (thenD_inv (appendD_inv i _ _) fun st i=>sync_inv i _) fun st i=>rename_inv i _ _
theorem mendE_ok {st:DS} {segs:List Sg} {g:Sg} (h:(mendD st segs g).2=0):mendSegsE st segs g=mendSegs segs g:=by
 unfold mendSegsE mendSegs
 split
 ·rfl
 ·rename_i hc
  split
  ·rename_i he
   unfold mendD at h
   rw [if_neg hc,if_pos he] at h
   exact absurd h he
  ·rfl
theorem loadD_bd {st:DS} (hby:ByOk st.fs):(∀ g,(loadD st).amiss=some g→g.num<100000000∧0≤g.size∧g.size≤(readD st (segName g.num)).1.length)∧∀ n∈(loadD st).behind,n<100000000:=by
 have hnb:∀ n∈numsOf (namesOf st.fs),n<100000000:=fun n hn=>by
  unfold numsOf at hn
  rw [List.mem_filter] at hn
  obtain ⟨k,_,rfl⟩:=List.mem_map.1 hn.1
  exact numL_lt
 obtain ⟨h1,h2⟩:=loadL_mem (rd:=fun n=>(readD st (segName n)).1) (nums:=numsOf (namesOf st.fs)) (prev:=none) (g:=⟨0,[]⟩) (segs:=[])
 refine ⟨fun g hg=>⟨hnb _ (h1 g hg),?_⟩,fun n hn=>hnb _ (h2 n hn)⟩
 refine loadL_size (rd:=fun n=>(readD st (segName n)).1) (fun n b hb x hx=>?_) (fun n=>scanLen_le _ _ (Nat.le_refl _)) g hg
 obtain ⟨_,h3⟩:=scan_mem _ _ (Nat.le_refl _) b hb
 exact by_read hby _ x (h3 x hx)
theorem recover_spec (i:Inv st) (hby:ByOk st.fs) (hc:st.fs.length≤40000) (hp:PowR R) (hw:Sat R (WS p d lim base s sg brk ds segs st Hs) w):
  Gets Tryz.prog 41 #[.pointer (some ⟨p,0,none⟩)] w fun v w'=>∃ e,v=.int .i64 e∧RecQ R Hs p d lim brk st e w':=by
 apply call41
 suffices H:∀ K:Value→World→Prop,(∀ e w',RecQ R Hs p d lim brk st e w'→K (.int .i64 e) w')→B41 (some ⟨p,0,none⟩) K w from H _ fun e _ h=>⟨e,rfl,h⟩
 intro K hK
 obtain ⟨hbd1,hbd2⟩:=loadD_bd hby
 refine new_rule hw fun bw w hw=>?_
 obtain ⟨R1,e1,b1,hw⟩:=box_leak hw
 refine ⟨fun ss w=>∃ (R2:Cx) (us:List Value),R1.Ext R2∧((scratchN∈namesOf st.fs∧∃ v,us=[v]∧UnlF R2 p v scratchN)∨(scratchN ∉ namesOf st.fs∧us=[]))∧Sat R2 (Own ss 52 us::WS p d lim base s sg brk ds segs st Hs) w,?_,?_⟩
 ·refine ⟨_,b1.at (eqS hw),NilP.mk rfl ⟨_,(by rw [add_off];exact At.own (eqS hw) (by exact ⟨rfl,trivial⟩)),?_⟩⟩
  have hw:Sat R1 (DiskAt d st::pts p (wCells d lim base s sg brk)::EntO s ds::SegO sg segs::Hs) w:=hw.arr
  refine (names_spec i (by omega) hw).use ?_
  clear hw
  rintro _ w ⟨sn,rfl,hw⟩
  refine ⟨sn,rfl,?_⟩
  obtain ⟨R2,e2,hn,hw⟩:=Own.leak hw
  have hw:Sat R2 (WS p d lim base s sg brk ds segs st Hs) w:=hw.arr
  have hnl:=namesOf_len st.fs
  refine (contains_spec (k:=scratchN) (hn.ro (by rw [List.length_map];omega)) hw).use ?_
  clear hw
  rintro _ w ⟨rfl,hw⟩
  refine ⟨_,rfl,Br.d (fun h=>?_) (fun h=>⟨R2,[],e2,.inr ⟨h,rfl⟩,Own.nil hw⟩)⟩
  refine ⟨_,(b1.ext e2).at (eqS hw),?_⟩
  refine (unlinkF_spec p scratchN hw).use ?_
  clear hw
  rintro _ w ⟨R3,bw2,bn,e3,rfl,c1,c2,hw⟩
  refine ⟨_,rfl,?_⟩
  refine buildF_rule hw fun b w hw=>?_
  refine push1_in elFn (s:=⟨none,0,0⟩) (xs:=[]) (Own.nil hw) rfl rfl (by simp) (by simp) fun s2 w hw=>?_
  exact ⟨R3,_,e2.trans e3,.inl ⟨h,_,rfl,bw2,bn,rfl,c1,c2⟩,hw⟩
 clear hw
 rintro _ ss w ⟨R2,us,e2,hus,hw⟩
 have husF:FnL us:=by
  rcases hus with ⟨_,v,rfl,hv⟩|⟨_,rfl⟩
  ·exact hv.fn
  ·exact .nil
 have husl:us.length≤1:=by
  rcases hus with ⟨_,v,rfl,hv⟩|⟨_,rfl⟩<;>simp
 refine ⟨_,(b1.ext e2).at (eqS hw),?_⟩
 have e12:=e1.trans e2
 have hw:Sat R2 (WS p d lim base s sg brk ds segs st (Own ss 52 us::Hs)) w:=hw.arr
 refine (load_spec i hby hc (hp.ext e12) hw).use ?_
 clear hw
 rintro _ w ⟨R3,base,s,ds,sg,am,bh,e3,hd,rfl,hg,hbh,hb0,hb1,hdl,hsl,hw⟩
 refine ⟨am,bh,rfl,new_rule hw fun bA w hw=>?_⟩
 refine store_rule hw (by kernel_rfl) rfl (by simp [Value.cells,putL_len]) fun w hw=>?_
 obtain ⟨R4,e4,bA4,hw⟩:=box_leak2 (v:=.pointer am) rfl hw
 obtain ⟨R5,e5,hA,hw⟩:∃ R5:Cx,R4.Ext R5∧(((loadD st).amiss=none∧am=none)∨∃ g bg,(loadD st).amiss=some g∧am=some ⟨bg,0,none⟩∧R5.m bg=some (sCells g))∧Sat R5 (WS p d lim base s sg brk ds (loadD st).segs st (Own ss 52 us::Hs)) w:=by
  cases hm:(loadD st).amiss with
  |none=>
   rw [hm] at hw
   obtain ⟨ha,hw⟩:=Sat.pur.1 hw
   exact ⟨R4,.refl,.inl ⟨rfl,ha⟩,hw⟩
  |some g=>
   rw [hm] at hw
   obtain ⟨bg,hw⟩:=Sat.exs.1 hw
   obtain ⟨ha,hw⟩:=Sat.pur.1 (Sat.star.1 hw)
   obtain ⟨R5,e5,bg5,hw⟩:=pts.leak hw
   exact ⟨R5,e5,.inr ⟨g,bg,rfl,ha,bg5⟩,hw⟩
 have e35:=e4.trans e5
 have e25:=e3.trans e35
 have hd:=hd.ext e35
 have hbh:=e35.slR hbh
 have b1:=(b1.ext e2).ext e25
 have bA5:=bA4.ext e5
 have hp5:=hp.ext (e12.trans e25)
 have hus:(scratchN∈namesOf st.fs∧∃ v,us=[v]∧UnlF R5 p v scratchN)∨(scratchN ∉ namesOf st.fs∧us=[]):=hus.imp (fun ⟨h,v,hv,hu⟩=>⟨h,v,hv,hu.ext e25⟩) id
 have e15:=e12.trans e25
 obtain ⟨mv,hmv⟩:∃ mv:List Value,mv=match (loadD st).amiss with|none=>[]|some _=>[.func (.func 86) #[] #[.pointer (some ⟨bw,0,none⟩),.pointer (some ⟨bA,0,none⟩)]]:=⟨_,rfl⟩
 have hmvF:FnL mv:=by
  rw [hmv]
  split
  ·exact .nil
  ·exact .sing _ _
 have hmvl:mv.length≤1:=by rw [hmv];split<;>simp
 have hwJ:Sat R5 (Own ss 52 us::WS p d lim base s sg brk ds (loadD st).segs st Hs) w:=hw.arr
 clear hw
 refine ⟨fun ss w=>Sat R5 (Own ss 52 (us++mv)::WS p d lim base s sg brk ds (loadD st).segs st Hs) w,?_,?_⟩
 ·refine ⟨am,bA5.at (eqS hwJ),?_⟩
  rcases hA with ⟨hm,rfl⟩|⟨g,bg,hm,rfl,_⟩
  ·refine Br.f rfl ?_
   have:mv=[]:=by rw [hmv,hm]
   rw [this,List.append_nil]
   exact hwJ
  ·refine Br.t rfl ?_
   have hm2:mv=[.func (.func 86) #[] #[.pointer (some ⟨bw,0,none⟩),.pointer (some ⟨bA,0,none⟩)]]:=by rw [hmv,hm]
   refine buildF_rule hwJ fun b w hw=>?_
   refine push1_in elFn (s:=ss) (xs:=us) hw.swap husF.one rfl (by omega) (by omega) fun s2 w hw=>?_
   rw [hm2]
   exact hw
 clear hwJ
 rintro _ ss w hw
 have hbl:bh.len=(loadD st).behind.length:=by have:=hbh.len;simpa using this
 have hnlen:(numsOf (namesOf st.fs)).length≤40000:=by have:=numsOf_le (namesOf st.fs);rw [namesOf_len] at this;omega
 have hbhl:(loadD st).behind.length≤40000:=by
  have:=loadL_blen (rd:=fun n=>(readD st (segName n)).1) (nums:=numsOf (namesOf st.fs)) (prev:=none) (g:=⟨0,[]⟩) (segs:=[])
  exact Nat.le_trans this hnlen
 -- all steps
 have fin:∀ {R6:Cx} {ss:Sl} {vs nv:List Value} {w:World},R5.Ext R6→UnlL R6 p vs (loadD st).behind→(nv=if (loadD st).segs=[] then [.func (.func 88) #[] #[.pointer (some ⟨bw,0,none⟩)]] else [])→Sat R6 (Own ss 52 (us++mv++vs++nv)::WS p d lim base s sg brk ds (loadD st).segs st Hs) w→
   Gets Tryz.prog 90 #[.slice ss.a ss.len ss.cap] w fun v w'=>∃ n:Int,v=.int .i64 n∧RecQ R Hs p d lim brk st n w':=fun {R6 ss vs nv w} e6 hvs hnv hw=>by
  obtain ⟨R7,e7,hro,hwF⟩:=Own.leak hw
  clear hw
  have e57:=e6.trans e7
  have hvs:=hvs.ext e7
  have b1:=b1.ext e57
  have bA5:=bA5.ext e57
  have hp7:=hp5.ext e57
  have hd:=hd.ext e57
  have hvl:=hvs.len
  have hnvl:nv.length≤1:=by rw [hnv];split<;>simp
  have hlen:(us++mv++vs++nv).length≤40003:=by simp only [List.length_append];omega
  have i0:=x0_inv i
  have out:∀ {x:DS × Int} {sg:Sl} {sgs:List Sg} {w:World},recoverD st=x→x.2≠0→Sat R7 (WS p d lim base s sg brk ds sgs x.1 Hs) w→RecQ R Hs p d lim brk st x.2 w:=fun {x sg sgs w} hx he hw=>
   ⟨R7,base,s,ds,sg,sgs,e15.trans e57,hd,by rw [hx],fun h=>absurd h he,hb0,hb1,hdl,by rw [hx];exact hw⟩
  have fin:∀ {sg:Sl} {sgs:List Sg} {x:DS} {w:World},recoverD st=(x,0)→sgs=(openedW st).segs→sgs.length≤40001→Sat R7 (WS p d lim base s sg brk ds sgs x Hs) w→RecQ R Hs p d lim brk st 0 w:=fun {sg sgs x w} hx hs hl hw=>
   ⟨R7,base,s,ds,sg,sgs,e15.trans e57,hd,by rw [hx],fun _=>⟨hg,hs,hl⟩,hb0,hb1,hdl,by rw [hx];exact hw⟩
  obtain ⟨x0,hx0⟩:∃ x,x=x0D st:=⟨_,rfl⟩
  rw [←hx0] at i0
  obtain ⟨x1,hx1⟩:∃ x,x=thenD x0 (f1D (loadD st)):=⟨_,rfl⟩
  obtain ⟨x2,hx2⟩:∃ x,x=thenD x1 fun st'=>unlinksD st' (loadD st).behind:=⟨_,rfl⟩
  have hx3:recoverD st=thenD x2 (f3D (loadD st)):=by rw [hx2,hx1,hx0];rfl
  obtain ⟨segs1,hsegs1⟩:∃ x,x=match (loadD st).amiss with|none=>(loadD st).segs|some g=>mendSegsE x0.1 (loadD st).segs g:=⟨_,rfl⟩
  have hs1l:segs1.length=(loadD st).segs.length:=by
   rw [hsegs1]
   split
   ·rfl
   ·unfold mendSegsE
    split
    ·rfl
    ·split
     ·rfl
     ·unfold setSize
      split
      ·simp
      ·rfl
  have stage3:∀ {sg:Sl} {w:World},x1.2=0→x2.2=0→Inv x2.1→Sat R7 (WS p d lim base s sg brk ds segs1 x2.1 Hs) w→StepsQ R7 nv (RecQ R Hs p d lim brk st) w:=fun {sg w} h1 h2 i2 hw=>by
   have hx3:=hx3
   rw [thenD_ok h2] at hx3
   by_cases hsn:(loadD st).segs=[]
   ·rw [hnv,if_pos hsn]
    have hs1:segs1=[]:=List.length_eq_zero_iff.1 (by rw [hs1l,hsn];rfl)
    have e3:recoverD st=makeD x2.1 1 1:=by rw [hx3];unfold f3D;rw [if_pos hsn]
    refine CalW.mk (by kernel_rfl) ((recover2_spec i2 hp7 (by rw [hs1];simp) b1 hw).use ?_)
    clear hw
    rintro _ w ⟨e,rfl,R8,sg2,e8,rfl,hw⟩
    have hw:=e8.back hw
    refine ⟨_,rfl,?_⟩
    by_cases he:(makeD x2.1 1 1).2=0
    case neg=>exact .inl ⟨he,out e3 he hw⟩
    refine .inr ⟨he,⟨_,hw⟩,?_⟩
    rw [he] at hw
    refine fin (sgs:=madeS segs1 1 1 0) (x:=(makeD x2.1 1 1).1) (by rw [e3];exact Prod.ext rfl he) ?_ ?_ hw
    ·rw [hs1];unfold openedW madeS;rw [if_pos rfl];simp only;rw [if_pos hsn];rfl
    ·rw [hs1];unfold madeS;rw [if_pos rfl];simp
   ·rw [hnv,if_neg hsn]
    have e3:recoverD st=(x2.1,0):=by rw [hx3];unfold f3D;rw [if_neg hsn]
    refine fin e3 ?_ (by omega) hw
    unfold openedW
    simp only
    rw [if_neg hsn,hsegs1]
    cases hm:(loadD st).amiss with
    |none=>rfl
    |some g=>
     simp only
     refine mendE_ok ?_
     have h0:x0.2=0:=by
      apply Classical.byContradiction
      intro h0
      rw [hx1,thenD_err h0] at h1
      exact h0 h1
     rw [hx1,thenD_ok h0] at h1
     unfold f1D at h1
     rw [hm] at h1
     exact h1
  have stage2:∀ {sg:Sl} {w:World},x1.2=0→Inv x1.1→Sat R7 (WS p d lim base s sg brk ds segs1 x1.1 Hs) w→StepsQ R7 (vs++nv) (RecQ R Hs p d lim brk st) w:=fun {sg w} h1 i1 hw=>by
   have e2:x2=unlinksD x1.1 (loadD st).behind:=by rw [hx2,thenD_ok h1]
   rw [e2] at hx3 stage3
   refine unl_steps hvs i1 hw (fun w he hw=>?_) (fun w he i2 hw=>stage3 h1 he i2 hw)
   exact out (by rw [hx3,thenD_err he]) he hw
  have stage1:∀ {sg:Sl} {w:World},x0.2=0→Sat R7 (WS p d lim base s sg brk ds (loadD st).segs x0.1 Hs) w→StepsQ R7 (mv++(vs++nv)) (RecQ R Hs p d lim brk st) w:=fun {sg w} h0 hw=>by
   have e1:x1=f1D (loadD st) x0.1:=by rw [hx1,thenD_ok h0]
   rcases hA with ⟨hm,_⟩|⟨g,bg,hm,ham,hbg⟩
   ·have hmv0:mv=[]:=by rw [hmv,hm]
    have e1':x1=(x0.1,0):=by rw [e1];unfold f1D;rw [hm]
    have es:segs1=(loadD st).segs:=by rw [hsegs1,hm]
    rw [hmv0,List.nil_append]
    rw [e1',es] at stage2
    exact stage2 rfl i0 hw
   ·have hmv1:mv=[.func (.func 86) #[] #[.pointer (some ⟨bw,0,none⟩),.pointer (some ⟨bA,0,none⟩)]]:=by rw [hmv,hm]
    have e1':x1=mendD x0.1 (loadD st).segs g:=by rw [e1];unfold f1D;rw [hm]
    have es:segs1=mendSegsE x0.1 (loadD st).segs g:=by rw [hsegs1,hm]
    obtain ⟨g1,g2,g3⟩:=hbd1 g hm
    have hrd:readD x0.1 (segName g.num)=readD st (segName g.num):=by rw [hx0];exact x0_read _ (by rw [←hx0];exact h0)
    rw [hmv1]
    have bA7:BoxP R7 bA bg:=by rw [ham] at bA5;exact bA5
    refine CalW.mk (by kernel_rfl) ((recover1_spec (g:=g) (bg:=bg) i0 hp7 g1 (by omega) g2 (fun _=>by rw [hrd];exact g3) b1 bA7 (e57.m _ _ hbg) hw).use ?_)
    clear hw
    rintro _ w ⟨e,rfl,R8,sg2,e8,rfl,hw⟩
    have hw:=e8.back hw
    rw [←e1',←es] at hw
    rw [←e1']
    refine ⟨_,rfl,?_⟩
    by_cases he:x1.2=0
    case neg=>exact .inl ⟨he,out (by rw [hx3,hx2,thenD_err he,thenD_err he]) he hw⟩
    refine .inr ⟨he,⟨_,hw⟩,stage2 he (by rw [e1'];exact mendD_inv i0 _ _) hw⟩
  refine all_spec (hro.ro (by omega)) (by omega) hwF ?_
  rw [List.append_assoc,List.append_assoc]
  rcases hus with ⟨hs,v,rfl,bw2,bn2,rfl,c1,c2⟩|⟨hs,rfl⟩
  ·have e0:x0=unlinkD st scratchN:=by rw [hx0];unfold x0D;rw [if_pos hs]
   refine CalW.mk (by kernel_rfl) ((unlinkC_spec i (c1.ext e57) (c2.ext e57) hwF).use ?_)
   clear hwF
   rintro _ w ⟨rfl,hw⟩
   rw [←e0] at hw ⊢
   refine ⟨_,rfl,?_⟩
   by_cases he:x0.2=0
   case neg=>
    have h1:x1=x0:=by rw [hx1,thenD_err he]
    have h2:x2=x0:=by rw [hx2,h1,thenD_err he]
    exact .inl ⟨he,out (by rw [hx3,h2,thenD_err he]) he hw⟩
   exact .inr ⟨he,⟨_,hw⟩,stage1 he hw⟩
  ·have e0:x0=(st,0):=by rw [hx0];unfold x0D;rw [if_neg hs]
   rw [e0] at stage1
   exact stage1 rfl hwF
 refine ⟨fun ss i w=>∃ (k:Nat) (R6:Cx) (vs:List Value),i=k∧k≤(loadD st).behind.length∧R5.Ext R6∧UnlL R6 p vs ((loadD st).behind.take k)∧Sat R6 (Own ss 52 (us++mv++vs)::WS p d lim base s sg brk ds (loadD st).segs st Hs) w,fun _ i _=>(loadD st).behind.length - i.toNat,⟨0,R5,[],rfl,by omega,.refl,trivial,by rw [List.append_nil];exact hw⟩,?_⟩
 clear hw
 rintro _ ss _ w ⟨k,R6,vs,rfl,hk,e6,hvs,hw⟩
 have b1:=b1.ext e6
 refine Br.d (fun h=>?_) (fun h=>?_)
 ·have hk':k<(loadD st).behind.length:=by omega
  have hnk:=hbd2 _ (List.getElem_mem hk')
  obtain ⟨n,hn⟩:∃ n,n=(loadD st).behind[k]:=⟨_,rfl⟩
  refine (e6.slR hbh).ix (eqS hw) k rfl (by simpa using hk') ?_
  have en:((loadD st).behind.map fun n:Nat=>(n:Int))[k]'(by simpa using hk')=((n:Nat):Int):=by simp [hn]
  rw [en]
  rw [←hn] at hnk
  refine drw_rule' (Sat R6 [VC.tru]) hw (fun w hw=>Sat.toTru (As:=[]) hw) fun w hw=>?_
  refine ⟨_,b1.at selfS,?_⟩
  refine (name_spec (x:=0) (z:=0) (hp5.ext e6) hnk hw).use ?_
  clear hw
  rintro _ w ⟨rfl,hw⟩
  refine ⟨_,rfl,Sat.toTru (As:=[]) hw,?_⟩
  refine (unlinkF_spec p (segName n) hw).use ?_
  clear hw
  rintro _ w ⟨R7,bw2,bn,e7,rfl,c1,c2,hw⟩
  refine ⟨_,rfl,?_⟩
  have hvs:=hvs.ext e7
  have hvl:=hvs.len
  rw [List.length_take] at hvl
  refine buildF_rule hw fun b w hw=>⟨e7.back (Sat.toTru (As:=[]) hw),?_⟩
  refine push1_in elFn (s:=ss) (xs:=us++mv++vs) hw.swap (((husF.app hmvF).app hvs.fn).one) rfl (by simp only [List.length_append];omega) (by simp only [List.length_append];omega) fun s2 w hw=>⟨e7.back (Sat.toTru (As:=[]) hw),?_⟩
  refine ⟨⟨k + 1,R7,vs++[.func (.func 103) #[] #[.pointer (some ⟨bw2,0,none⟩),.pointer (some ⟨bn,0,none⟩)]],by rw [wrap64 (by omega) (by omega)];omega,by omega,e6.trans e7,?_,?_⟩,by dsimp only;rw [wrap64 (by omega) (by omega)];omega⟩
  ·rw [List.take_add_one,List.getElem?_eq_getElem hk',←hn]
   exact hvs.snoc ⟨bw2,bn,rfl,c1,c2⟩
  ·rw [←List.append_assoc];exact hw
 ·have hkl:k=(loadD st).behind.length:=by omega
  rw [hkl,List.take_length] at hvs
  have hvl:=hvs.len
  have hsgl:sg.len=(loadD st).segs.length:=by
   have h2:Sat R6 (SegO sg (loadD st).segs::Own ss 52 (us++mv++vs)::pts p (wCells d lim base s sg brk)::EntO s ds::DiskAt d st::Hs) w:=hw.arr
   have:=OwnN.len h2;simpa using this
  refine ⟨_,b1.at (eqS hw),NilP.mk rfl ⟨sg,At.own (eqS hw) (by exact ⟨rfl,trivial⟩),Br.e (fun h2=>?_) (fun h2=>?_)⟩⟩
  ·have hsn:(loadD st).segs=[]:=List.length_eq_zero_iff.1 (by omega)
   refine buildF_rule hw fun b w hw=>?_
   refine push1_in elFn (s:=ss) (xs:=us++mv++vs) hw.swap (((husF.app hmvF).app hvs.fn).one) rfl (by simp only [List.length_append];omega) (by simp only [List.length_append];omega) fun s2 w hw=>?_
   refine (fin e6 hvs (by rw [if_pos hsn]) hw).use ?_
   rintro _ w ⟨e,rfl,h⟩
   exact ⟨e,rfl,hK _ _ h⟩
  ·have hsn:(loadD st).segs≠[]:=fun h=>h2 (by rw [hsgl,h];rfl)
   refine (fin (nv:=[]) e6 hvs (by rw [if_neg hsn]) (by rw [List.append_nil];exact hw)).use ?_
   rintro _ w ⟨e,rfl,h⟩
   exact ⟨e,rfl,hK _ _ h⟩
def OpenQ (R:Cx) (Hs:List HP) (d:Nat) (lim:Int) (st:DS) (e:Int) (v:Value) (w:World):Prop:=
 (e≠0∧v=.tuple #[.pointer none,.int .i64 e]∧Sat R (DiskAt d (openD st lim)::Hs) w)∨
 (e=0∧∃ R' p s ds sg,R.Ext R'∧DsR R' ds∧v=.tuple #[.pointer (some ⟨p,0,none⟩),.int .i64 0]∧erE ds=(openedW st).g.l∧0≤(openedW st).g.base∧(openedW st).g.base≤1099511627776∧ds.length≤100000000000∧(openedW st).segs.length≤40001∧
  Sat R' (WS p d lim (openedW st).g.base s sg false ds (openedW st).segs (openD st lim) Hs) w)
theorem open_spec {d:Nat} {st:DS} (lim:Int) (i:Inv st) (hby:ByOk st.fs) (hc:st.fs.length≤40000) (hp:PowR R) (hw:Sat R (DiskAt d st::Hs) w):
  Gets Tryz.prog 13 #[.pointer (some ⟨d,0,none⟩),.int .i64 lim] w (OpenQ R Hs d lim st (openErr st lim)):=by
 apply call13
 refine ⟨fun w=>¬ (lim<32∨lim>65536)∧st.off=false∧Sat R (DiskAt d st::Hs) w,?_,?_⟩
 ·refine Br.f rfl (Br.d (fun h=>?_) (fun h=>Br.d (fun h2=>?_) (fun h2=>?_)))
  ·have h:lim<32∨lim>65536:=.inl h
   refine .inl ⟨by unfold openErr;rw [if_pos h];decide,by unfold openErr;rw [if_pos h],by unfold openD;rw [if_pos h];exact hw⟩
  ·have h:lim<32∨lim>65536:=.inr h2
   refine .inl ⟨by unfold openErr;rw [if_pos h];decide,by unfold openErr;rw [if_pos h],by unfold openD;rw [if_pos h];exact hw⟩
  ·have h:¬ (lim<32∨lim>65536):=by omega
   refine (off_spec hw).use ?_
   clear hw
   rintro _ w ⟨rfl,hw⟩
   refine ⟨_,rfl,?_⟩
   cases ho:st.off with
   |false=>exact Br.f rfl ⟨h,rfl,hw⟩
   |true=>
    refine Br.t rfl (.inl ⟨by unfold openErr;rw [if_neg h,if_pos ho];decide,by unfold openErr;rw [if_neg h,if_pos ho],by unfold openD;rw [if_neg h,if_pos ho];exact hw⟩)
 clear hw
 rintro _ w ⟨h,ho,hw⟩
 have ee:openErr st lim=(recoverD st).2:=by unfold openErr;rw [if_neg h,if_neg (by rw [ho];simp)]
 have ed:openD st lim=(recoverD st).1:=by unfold openD;rw [if_neg h,if_neg (by rw [ho];simp)]
 rw [ee]
 refine new_rule hw fun p w hw=>?_
 have hw:Sat R (WS p d lim 0 ⟨none,0,0⟩ ⟨none,0,0⟩ false [] [] st Hs) w:=by
  have hw:Sat R (pts p (wCells d lim 0 ⟨none,0,0⟩ ⟨none,0,0⟩ false)::DiskAt d st::Hs) w:=hw
  exact hw.cons fun _ h=>OwnN.nil (OwnN.nil h)
 refine (recover_spec i hby hc hp hw).use ?_
 clear hw
 rintro _ w ⟨e,rfl,R1,base,s,ds,sg,segs,e1,hd,rfl,hok,hb0,hb1,hdl,hw⟩
 refine ⟨_,rfl,Br.ne (fun h2=>?_) (fun h2=>?_)⟩
 ·refine .inl ⟨h2,rfl,?_⟩
  rw [ed]
  have hw:Sat R1 (DiskAt d (recoverD st).1::pts p (wCells d lim base s sg false)::EntO s ds::SegO sg segs::Hs) w:=hw.arr
  exact e1.back (hw.cons fun _ h=>h.drop.drop.drop)
 ·obtain ⟨hg,hs,hl⟩:=hok h2
  refine .inr ⟨h2,R1,p,s,ds,sg,e1,hd,rfl,by rw [←hg],by rw [←hg];exact hb0,by rw [←hg];exact hb1,hdl,by rw [←hs];exact hl,?_⟩
  rw [ed,←hg,←hs]
  exact hw
end Go.Proofs.YtkfedbncmfnpnaaGreatDoor
/- A log on a disk: what its operations reckon, plain; the small ones walked. Condition: bounds on lengths; the library's table of powers is laid. -/
namespace Go.Proofs.YtkfedbncmfnpnaaGreatDoor
set_option linter.unusedVariables false
set_option linter.unusedSimpArgs false
open Go Go.VC
structure WSt where
 lim:Int
 g:Lg
 segs:List Sg
 brk:Bool
def tailS (segs:List Sg):Sg:=segs.getD (segs.length - 1) ⟨0,0,0⟩
def growS (segs:List Sg) (n:Nat):List Sg:=setSize segs ((tailS segs).size + n)
def rollW (x:WSt) (st:DS):DS × Int:=if x.lim≤(tailS x.segs).size then thenD (syncD st (segName (tailS x.segs).num)) fun st=>makeD st ((tailS x.segs).num + 1) (x.g.last + 1) else (st,0)
def rollS (x:WSt) (e:Int):List Sg:=if x.lim≤(tailS x.segs).size∧e=0 then x.segs++[⟨(tailS x.segs).num + 1,x.g.last + 1,(headB ((tailS x.segs).num + 1) (x.g.last + 1)).length⟩] else x.segs
def putW (x:WSt) (st:DS) (b:List Int) (g:Lg):(DS × Int) × WSt:=
 if (appendD st (segName (tailS x.segs).num) b).2=0 then (appendD st (segName (tailS x.segs).num) b,{ x with segs:=growS x.segs b.length,g:=g }) else (appendD st (segName (tailS x.segs).num) b,x)
def addW (x:WSt) (st:DS) (e:Ey):(DS × Int) × WSt:=
 if (rollW x st).2≠0 then (rollW x st,x) else putW { x with segs:=rollS x 0 } (rollW x st).1 (recB (entB e)) ⟨x.g.base,x.g.l++[e]⟩
def addsW:WSt→DS→List Ey→(DS × Int) × WSt
 |x,st,[]=>((st,0),x)
 |x,st,e::es=>if (addW x st e).1.2≠0 then addW x st e else addsW (addW x st e).2 (addW x st e).1.1 es
def doesW (r:(DS × Int) × WSt):(DS × Int) × WSt:=(r.1,{ r.2 with brk:=r.1.2 !=0 })
instance (x:Ey):Decidable x.Ok:=decidable_of_iff (1≤x.ix∧x.ix≤1099511627776∧0≤x.tm∧x.tm≤1099511627776∧0≤x.kd∧x.kd≤7∧x.dt.length≤4096)
 ⟨fun ⟨a,b,c,d,e,f,g⟩=>⟨a,b,c,d,e,f,g⟩,fun ⟨a,b,c,d,e,f,g⟩=>⟨a,b,c,d,e,f,g⟩⟩
def Follows (i:Int) (l:List Ey):Prop:=∀ (k:Nat) (h:k<l.length),l[k].ix=i + k
open Classical in
noncomputable def appendW (x:WSt) (st:DS) (l:List Ey):(DS × Int) × WSt:=
 if x.brk then ((st,8),x) else if ¬ (∀ e∈l,e.Ok) then ((st,1),x) else if ¬ Follows (x.g.last + 1) l then ((st,7),x) else doesW (addsW x st l)
def cutW (x:WSt) (st:DS) (i:Int):(DS × Int) × WSt:=
 if x.brk then ((st,8),x) else if i≤x.g.base∨i>x.g.last + 1 then ((st,7),x) else if i=x.g.last + 1 then ((st,0),x) else doesW (putW x st (recB (cutB i)) ⟨x.g.base,x.g.l.take (i - 1 - x.g.base).toNat⟩)
def syncW (x:WSt) (st:DS):(DS × Int) × WSt:=if x.brk then ((st,8),x) else doesW (syncD st (segName (tailS x.segs).num),x)
def firstW (x:WSt):Int:=if x.brk then 0 else x.g.base + 1
def lastW (x:WSt):Int:=if x.brk then 0 else x.g.last
def getW (x:WSt) (from' most:Int):List Ey:=if x.brk∨from'≤x.g.base∨from'>x.g.last∨most<1 then [] else (x.g.l.drop (from' - 1 - x.g.base).toNat).take most.toNat
structure WB (x:WSt):Prop where
 b0:0≤x.g.base
 b1:x.g.base≤1099511627776
 l1:x.g.l.length≤200000000000
 s0:0<x.segs.length
 s1:x.segs.length≤900000
 n1:∀ g∈x.segs,g.num≤99999998∧0≤g.size∧g.size≤1099511627776
structure WB0 (x:WSt):Prop where
 b0:0≤x.g.base
 b1:x.g.base≤1099511627776
 l1:x.g.l.length≤200000000000
theorem WB.w0 {x:WSt} (b:WB x):WB0 x:=⟨b.b0,b.b1,b.l1⟩
variable {R R':Cx} {Hs Rest:List HP} {w:World} {p d:Nat} {x:WSt} {s sg:Sl} {ds:List DE4} {st:DS}
abbrev WX (p d:Nat) (x:WSt) (s sg:Sl) (ds:List DE4) (st:DS) (Hs:List HP):List HP:=WS p d x.lim x.g.base s sg x.brk ds x.segs st Hs
theorem first_spec0 (b:WB0 x) (hw:Sat R (WX p d x s sg ds st Hs) w):Gets Tryz.prog 22 #[.pointer (some ⟨p,0,none⟩)] w fun v w'=>v=.int .i64 (firstW x)∧Sat R (WX p d x s sg ds st Hs) w':=by
 have h0:=b.b0;have h1:=b.b1
 apply call22
 refine NilP.mk rfl ⟨x.brk,At.own (eqS hw) (by exact ⟨rfl,trivial⟩),Br.mk (fun h=>?_) (fun h=>?_)⟩
 ·refine ⟨?_,hw⟩;unfold firstW;rw [if_pos h]
 ·refine NilP.mk rfl ⟨_,At.own (eqS hw) (by exact ⟨rfl,trivial⟩),?_,hw⟩
  rw [wrap64 (by omega) (by omega)];unfold firstW;rw [if_neg (by simp [h])]
theorem first_spec (b:WB x) (hw:Sat R (WX p d x s sg ds st Hs) w):Gets Tryz.prog 22 #[.pointer (some ⟨p,0,none⟩)] w fun v w'=>v=.int .i64 (firstW x)∧Sat R (WX p d x s sg ds st Hs) w':=first_spec0 b.w0 hw
theorem lastG (h:erE ds=x.g.l):x.g.last=x.g.base + (ds.length:Int):=by unfold Lg.last;rw [←h];simp
theorem WX.slen (hw:Sat R (WX p d x s sg ds st Hs) w):s.len=ds.length∧sg.len=x.segs.length:=by
 constructor
 ·have h2:Sat R (EntO s ds::pts p (wCells d x.lim x.g.base s sg x.brk)::SegO sg x.segs::DiskAt d st::Hs) w:=hw.arr
  have:=OwnN.len h2;simpa using this
 ·have h2:Sat R (SegO sg x.segs::pts p (wCells d x.lim x.g.base s sg x.brk)::EntO s ds::DiskAt d st::Hs) w:=hw.arr
  have:=OwnN.len h2;simpa using this
theorem lastX_spec0 (b:WB0 x) (hd:erE ds=x.g.l) (hw:Sat R (WX p d x s sg ds st Hs) w):Gets Tryz.prog 52 #[.pointer (some ⟨p,2,none⟩)] w fun v w'=>v=.int .i64 x.g.last∧Sat R (WX p d x s sg ds st Hs) w':=by
 have hl:=(WX.slen hw).1
 have h1:=b.l1
 rw [←hd] at h1
 simp only [List.length_map] at h1
 refine (last_spec (p:=p) b.b0 (by have:=b.b1;omega) (by omega) hw).mono ?_
 rintro _ w ⟨rfl,hw⟩
 rw [lastG hd,hl]
 exact ⟨rfl,hw⟩
theorem lastW_spec0 (b:WB0 x) (hd:erE ds=x.g.l) (hw:Sat R (WX p d x s sg ds st Hs) w):Gets Tryz.prog 24 #[.pointer (some ⟨p,0,none⟩)] w fun v w'=>v=.int .i64 (lastW x)∧Sat R (WX p d x s sg ds st Hs) w':=by
 apply call24
 refine NilP.mk rfl ⟨x.brk,At.own (eqS hw) (by exact ⟨rfl,trivial⟩),Br.mk (fun h=>?_) (fun h=>?_)⟩
 ·refine ⟨?_,hw⟩;unfold lastW;rw [if_pos h]
 ·refine NilP.mk rfl ((lastX_spec0 b hd hw).use ?_)
  clear hw
  rintro _ w ⟨rfl,hw⟩
  refine ⟨_,rfl,?_,hw⟩
  unfold lastW;rw [if_neg (by simp [h])]
theorem copied_spec {e:DE4} (hs:SlR R.m e.1 (b8 e.2.dt)) (hl:e.2.dt.length≤1099511627776) (hw:Sat R Hs w):Gets Tryz.prog 59 #[eVal e] w fun v w'=>∃ (R':Cx) (t:Sl),R.Ext R'∧v=eVal (t,e.2)∧SlR R'.m t (b8 e.2.dt)∧Sat R' Hs w':=by
 apply call59
 refine new_rule hw fun b w hw=>new_rule hw fun b2 w hw=>?_
 refine ⟨e.1,At.own (eqS hw) (by exact ⟨rfl,trivial⟩),?_⟩
 refine (clone_spec (hs.ro (by rw [List.length_map];omega)) hl hw).use ?_
 clear hw
 rintro _ w ⟨t,rfl,hw⟩
 obtain ⟨R1,e1,ht,hw⟩:=Own.leak hw
 refine ⟨t,rfl,?_⟩
 have hw:Sat R1 (pts b (.cells (eRow e).toArray 55 (0,0))::pts b2 (.cells [.int .i64 0,.int .i64 0,.int .i64 0,.slice none 0 0].toArray 55 (0,0))::Hs) w:=hw.swap
 refine store_rule hw (by kernel_rfl) rfl (by simp [Value.cells,putL_len]) fun w hw=>?_
 have hw:Sat R1 (pts b (.cells (eRow (t,e.2)).toArray 55 (0,0))::pts b2 (.cells [.int .i64 0,.int .i64 0,.int .i64 0,.slice none 0 0].toArray 55 (0,0))::Hs) w:=hw
 refine ⟨e.2.ix,e.2.tm,e.2.kd,t,At.own (eqS hw) (by exact ⟨rfl,rfl,rfl,rfl,trivial⟩),?_⟩
 have hw:=hw.swap
 refine store_rule hw (by kernel_rfl) rfl (by simp [Value.cells,putL_len]) fun w hw=>?_
 have hw:Sat R1 (pts b2 (.cells (eRow (t,e.2)).toArray 55 (0,0))::pts b (.cells (eRow (t,e.2)).toArray 55 (0,0))::Hs) w:=hw
 refine ⟨e.2.ix,e.2.tm,e.2.kd,t,At.own (eqS hw) (by exact ⟨rfl,rfl,rfl,rfl,trivial⟩),?_⟩
 exact ⟨R1,t,e1,rfl,ht,hw.drop.drop⟩
theorem getW_spec0 (b:WB0 x) (from' most:Int) (hf: -9223372036854775808≤from'∧from'<9223372036854775808) (hdl:∀ e∈x.g.l,e.dt.length≤1099511627776) (hd:DsR R ds) (he:erE ds=x.g.l) (hw:Sat R (WX p d x s sg ds st Hs) w):
  Gets Tryz.prog 21 #[.pointer (some ⟨p,0,none⟩),.int .i64 from',.int .i64 most] w fun v w'=>∃ (R':Cx) (t:Sl) (ds':List DE4),R.Ext R'∧v=.slice t.a t.len t.cap∧DsR R' ds'∧erE ds'=getW x from' most∧Sat R' (EntO t ds'::WX p d x s sg ds st Hs) w':=by
 have h0:=b.b0;have h1:=b.b1;have h2:=b.l1
 have hsl:=(WX.slen hw).1
 have hlast:=lastG he
 have hdl2:ds.length=x.g.l.length:=by rw [←he];simp
 apply call21
 suffices H:∀ K:Value→World→Prop,(∀ (R':Cx) (t:Sl) (ds':List DE4) w',R.Ext R'→DsR R' ds'→erE ds'=getW x from' most→Sat R' (EntO t ds'::WX p d x s sg ds st Hs) w'→K (.slice t.a t.len t.cap) w')→B21 (some ⟨p,0,none⟩) from' most K w from H _ fun R' t ds' w' a b c h=>⟨R',t,ds',a,rfl,b,c,h⟩
 intro K hK
 have none:∀ {w},(x.brk=true∨from'≤x.g.base∨from'>x.g.last∨most<1)→Sat R (WX p d x s sg ds st Hs) w→K (.slice none 0 0) w:=fun {w} h hw=>
  hK R ⟨.none,0,0⟩ [] w .refl .nil (by unfold getW;rw [if_pos h];rfl) (OwnN.nil hw)
 refine ⟨fun w=>¬ (x.brk=true∨from'≤x.g.base∨from'>x.g.last∨most<1)∧Sat R (WX p d x s sg ds st Hs) w,?_,?_⟩
 ·refine NilP.mk rfl ⟨x.brk,At.own (eqS hw) (by exact ⟨rfl,trivial⟩),Br.mk (fun h=>none (.inl h) hw) (fun h=>?_)⟩
  refine NilP.mk rfl ⟨_,At.own (eqS hw) (by exact ⟨rfl,trivial⟩),Br.d (fun h3=>none (.inr (.inl h3)) hw) (fun h3=>?_)⟩
  refine NilP.mk rfl ((lastX_spec0 b he hw).use ?_)
  clear hw
  rintro _ w ⟨rfl,hw⟩
  refine ⟨_,rfl,Br.d (fun h4=>none (.inr (.inr (.inl h4))) hw) (fun h4=>Br.d (fun h5=>none (.inr (.inr (.inr h5))) hw) (fun h5=>⟨?_,hw⟩))⟩
  rintro (h6|h6|h6|h6)
  ·rw [h] at h6;cases h6
  ·exact h3 h6
  ·exact h4 h6
  ·exact h5 h6
 clear hw
 rintro _ w ⟨hc,hw⟩
 have hc':=hc
 rw [not_or,not_or,not_or] at hc'
 obtain ⟨c1,c2,c3,c4⟩:=hc'
 have w1:IntKind.i64.wrap (IntKind.i64.wrap (from' - 1) - x.g.base)=((from' - 1 - x.g.base).toNat:Int):=by rw [wrap64 (x:=from' - 1) (by omega) (by omega),wrap64 (by omega) (by omega)];omega
 obtain ⟨o,ho⟩:∃ o,o=(from' - 1 - x.g.base).toNat:=⟨_,rfl⟩
 rw [←ho] at w1
 have hol:o≤ds.length:=by omega
 refine drw_rule hw fun w hw=>?_
 refine NilP.mk rfl ⟨s,At.own selfS (by exact ⟨rfl,trivial⟩),NilP.mk rfl ⟨_,At.own selfS (by exact ⟨rfl,trivial⟩),?_⟩⟩
 rw [w1,Int.toNat_natCast]
 obtain ⟨m,hm⟩:∃ m:Nat,(m:Int)=if ((s.len - o:Nat):Int)<most then ((s.len - o:Nat):Int) else most:=⟨(if ((s.len - o:Nat):Int)<most then ((s.len - o:Nat):Int) else most).toNat,by split<;>omega⟩
 rw [←hm]
 have hcap:s.len≤s.cap:=by
  have h2:Sat R (EntO s ds::pts p (wCells d x.lim x.g.base s sg x.brk)::SegO sg x.segs::DiskAt d st::Hs) w:=hw.arr
  exact OwnN.cap (by omega) h2
 have hml:m≤ds.length - o:=by
  have:(m:Int)≤((s.len - o:Nat):Int):=by rw [hm];split<;>omega
  omega
 have hwant:getW x from' most=((erE ds).drop o).take m:=by
  unfold getW
  rw [if_neg hc,←ho,he]
  by_cases hlt:((s.len - o:Nat):Int)<most
  ·rw [if_pos hlt] at hm
   rw [List.take_of_length_le (by simp;omega),List.take_of_length_le (by simp;omega)]
  ·rw [if_neg hlt] at hm
   congr 1
   omega
 refine ⟨by omega,by omega,by omega,by omega,?_⟩
 rw [Int.toNat_natCast]
 refine ⟨fun o' i w=>∃ (k:Nat) (R2:Cx) (ds':List DE4),i=k∧k≤m∧R.Ext R2∧DsR R2 ds'∧erE ds'=((erE ds).drop o).take k∧Sat R2 (EntO o' ds'::WX p d x s sg ds st Hs) w,fun _ i _=>m - i.toNat,⟨0,R,[],rfl,by omega,.refl,.nil,by simp [erE],OwnN.nil hw⟩,?_⟩
 clear hw
 rintro _ o' _ w ⟨k,R2,ds',rfl,hk,e2,hd',he',hw⟩
 refine Br.d (fun h=>?_) (fun h=>?_)
 ·have hk':k<m:=by omega
  have hok:o + k<ds.length:=by omega
  have hwE:Sat R2 (EntO s ds::EntO o' ds'::pts p (wCells d x.lim x.g.base s sg x.brk)::SegO sg x.segs::DiskAt d st::Hs) w:=hw.arr
  have hwE2:=hwE
  obtain ⟨R3,hr,hx3,hw3,back⟩:=OwnN.lend hwE
  have hsub:=hr.sub (l:=o) (h:=o + m) (m:=s.cap) (by omega) (by rw [List.length_map];omega) (fun h=>by omega)
  have hrows:((ds.map eRow).take (o + m)).drop o=(((ds.drop o).take m).map eRow):=by
   rw [List.map_take,List.map_drop,List.drop_take];congr 1;omega
  rw [hrows,Nat.add_sub_cancel_left] at hsub
  have hrdk:=hsub.reads (S:=fun w'=>w'=w) (eqS hw3)
  have hlk:k<((ds.drop o).take m).length:=by simp;omega
  refine hrdk.rngM hlk fun a _ el=>?_
  have hel:((ds.drop o).take m)[k]=ds[o + k]:=by simp
  rw [hel] at el
  obtain ⟨e,hee⟩:∃ e,e=ds[o + k]:=⟨_,rfl⟩
  rw [←hee] at el
  have hem:e∈ds:=by rw [hee];exact List.getElem_mem _
  refine ⟨e.2.ix,e.2.tm,e.2.kd,e.1,el.z (by exact ⟨rfl,rfl,rfl,rfl,trivial⟩),new_rule hw fun b w hw=>?_⟩
  refine store_rule hw (by kernel_rfl) rfl (by simp [Value.cells,putL_len]) fun w hw=>?_
  have hw:Sat R2 (pts b (.cells (eRow e).toArray 55 (0,0))::EntO o' ds'::WX p d x s sg ds st Hs) w:=hw
  refine ⟨e.2.ix,e.2.tm,e.2.kd,e.1,At.own (eqS hw) (by exact ⟨rfl,rfl,rfl,rfl,trivial⟩),?_⟩
  refine (copied_spec (e:=e) (e2.slR (hd e hem)) (hdl e.2 (by rw [←he];exact List.mem_map_of_mem (f:=(·.2)) hem)) hw.drop).use ?_
  clear hw
  rintro _ w ⟨R4,t,e4,rfl,ht,hw⟩
  refine ⟨_,_,_,t,rfl,new_rule hw fun b w hw=>?_⟩
  have hdl':ds'.length=k:=by have:=congrArg List.length he';simp at this;omega
  refine pushN_in elE (s:=o') (rows:=ds'.map eRow) (x:=eRow (t,e.2)) hw.swap rfl rfl (by rw [List.length_map];omega) (by rw [List.length_map];omega) fun s2 w hw=>?_
  refine ⟨⟨k + 1,R4,ds'++[(t,e.2)],by rw [wrap64 (by omega) (by omega)];omega,by omega,e2.trans e4,(hd'.ext e4).app (.one ht),?_,?_⟩,by dsimp only;rw [wrap64 (by omega) (by omega)];omega⟩
  ·rw [List.take_add_one]
   have:((erE ds).drop o)[k]? =some e.2:=by
    rw [List.getElem?_drop,List.getElem?_map,List.getElem?_eq_getElem hok,←hee];rfl
   rw [this,erE,List.map_append]
   show erE ds'++[e.2]=_
   rw [he'];rfl
  ·unfold EntO;rw [List.map_append];exact hw
 ·have hkm:k=m:=by omega
  exact hK R2 o' ds' w e2 hd' (by rw [he',hkm,hwant]) hw
end Go.Proofs.YtkfedbncmfnpnaaGreatDoor

/- A log on a disk: Append, Cut, Reset, Sync. Condition: bounds on lengths; the library's table of powers is laid. -/
namespace Go.Proofs.YtkfedbncmfnpnaaGreatDoor
set_option linter.unusedVariables false
set_option linter.unusedSimpArgs false
open Go Go.VC
variable {R R':Cx} {Hs Rest:List HP} {w:World} {p d:Nat} {x:WSt} {s sg:Sl} {ds:List DE4} {st:DS}
structure WBk (x:WSt) (k:Nat):Prop where
 b0:0≤x.g.base
 b1:x.g.base≤1099511627776
 l1:x.g.l.length≤100000000000 + k
 s0:0<x.segs.length
 s1:x.segs.length≤40001 + k
 n1:∀ g∈x.segs,g.num≤1 + k∧0≤g.size∧g.size≤1000000000 + 100000 * k
theorem WBk.wb {k:Nat} (b:WBk x k) (hk:k≤800000):WB x:=by
 refine ⟨b.b0,b.b1,by have:=b.l1;omega,b.s0,by have:=b.s1;omega,fun g hg=>?_⟩
 have:=b.n1 g hg
 omega
theorem WBk.mono {k j:Nat} (b:WBk x k) (h:k≤j):WBk x j:=by
 refine ⟨b.b0,b.b1,by have:=b.l1;omega,b.s0,by have:=b.s1;omega,fun g hg=>?_⟩
 have:=b.n1 g hg
 omega
theorem setSize_mem {segs:List Sg} {z:Int} {g:Sg} (h:g∈setSize segs z):g∈segs∨∃ g0∈segs,g=⟨g0.num,g0.next,z⟩:=by
 unfold setSize at h
 split at h
 ·rename_i s hs
  obtain ⟨hlt,rfl⟩:=List.getElem?_eq_some_iff.1 hs
  rcases List.mem_or_eq_of_mem_set h with h|h
  ·exact .inl h
  ·exact .inr ⟨_,List.getElem_mem hlt,h⟩
 ·exact .inl h
theorem setSize_len (segs:List Sg) (z:Int):(setSize segs z).length=segs.length:=by
 unfold setSize
 split
 ·simp
 ·rfl
theorem WBk.tail {k:Nat} (b:WBk x k):(tailS x.segs).num≤1 + k∧0≤(tailS x.segs).size∧(tailS x.segs).size≤1000000000 + 100000 * k:=by
 have h0:=b.s0
 have:tailS x.segs=x.segs[x.segs.length - 1]'(by omega):=by
  unfold tailS
  rw [List.getD_eq_getElem?_getD,List.getElem?_eq_getElem (by omega)]
  rfl
 rw [this]
 exact b.n1 _ (List.getElem_mem _)
theorem WBk.put {k n:Nat} (b:WBk x k) {st:DS} {bs:List Int} {g:Lg} (hb:bs.length≤90000) (hg:0≤g.base∧g.base≤1099511627776∧g.l.length≤100000000000 + n) (hn:k + 1≤n):WBk (putW x st bs g).2 n:=by
 have bn:=b.mono (show k≤n by omega)
 unfold putW
 split
 ·refine ⟨hg.1,hg.2.1,hg.2.2,by simp only [growS,setSize_len];exact b.s0,by simp only [growS,setSize_len];exact bn.s1,fun y hy=>?_⟩
  have ht:=b.tail
  rcases setSize_mem hy with hy|⟨g0,hg0,rfl⟩
  ·exact bn.n1 y hy
  ·have:=bn.n1 g0 hg0
   simp only
   omega
 ·exact bn
theorem WBk.roll {k:Nat} (b:WBk x k) (hl:x.g.last≤1099511627776) (hk:k≤90000000):WBk { x with segs:=rollS x 0 } (k + 1):=by
 have bn:=b.mono (show k≤k + 1 by omega)
 have ht:=b.tail
 refine ⟨b.b0,b.b1,bn.l1,?_,?_,?_⟩
 ·unfold rollS;split
  ·simp
  ·exact b.s0
 ·have:=b.s1
  unfold rollS;split
  ·simp;omega
  ·simp only;omega
 ·unfold rollS;split
  ·intro g hg
   rcases List.mem_append.1 hg with hg|hg
   ·exact bn.n1 g hg
   ·simp at hg;subst hg
    have:=hdB_len (n:=(tailS x.segs).num + 1) (next:=x.g.last + 1) (by omega) (by omega)
    simp only
    unfold headB
    rw [recB_len]
    omega
  ·exact bn.n1
theorem WBk.add {k:Nat} (b:WBk x k) {st:DS} {e:Ey} (hok:e.Ok) (hix:e.ix=x.g.last + 1) (hk:k≤90000000):WBk (addW x st e).2 (k + 2):=by
 have hi:=hok.i1
 have hel:=entB_len hok
 have hd:=hok.d1
 unfold addW
 split
 ·exact b.mono (by omega)
 ·have br:=b.roll (by omega) hk
  refine br.put (by rw [recB_len];omega) ⟨b.b0,b.b1,?_⟩ (by omega)
  have:=b.l1
  simp;omega
theorem addW_inv {e:Ey} (i:Inv st):Inv (addW x st e).1.1:=by
 have ir:Inv (rollW x st).1:=by
  unfold rollW
  split
  ·refine thenD_inv (sync_inv i _) fun st i=>?_
   exact thenD_inv (appendD_inv i _ _) fun st i=>sync_inv i _
  ·exact i
 unfold addW
 split
 ·exact ir
 ·unfold putW
  split<;>exact appendD_inv ir _ _
theorem addW_ok {e:Ey} (h:(addW x st e).1.2=0):(addW x st e).2.g=⟨x.g.base,x.g.l++[e]⟩:=by
 unfold addW at h ⊢
 split
 ·rename_i h2;rw [if_pos h2] at h;exact absurd h h2
 ·rename_i h2
  rw [if_neg h2] at h
  unfold putW at h ⊢
  split
  ·rfl
  ·rename_i h3;rw [if_neg h3] at h;exact absurd h h3
end Go.Proofs.YtkfedbncmfnpnaaGreatDoor
/- A log on a disk: Append, Drop. Condition: bounds on lengths; the library's table of powers is laid. -/
namespace Go.Proofs.YtkfedbncmfnpnaaGreatDoor
set_option linter.unusedVariables false
set_option linter.unusedSimpArgs false
open Go Go.VC
variable {R R':Cx} {Hs Rest:List HP} {w:World} {p d:Nat} {x:WSt} {s sg:Sl} {ds:List DE4} {st:DS}
theorem DsR.len {dl:List DE4} (h:DsR R dl) {e:DE4} (he:e∈dl):e.1.len=e.2.dt.length:=by have:=(h e he).len;simpa using this
end Go.Proofs.YtkfedbncmfnpnaaGreatDoor
/- A log on a disk that only grew: what stands on its disk; plain. No program. Condition: none. -/
namespace Go.Proofs.YtkfedbncmfnpnaaGreatDoor
set_option linter.unusedVariables false
set_option linter.unusedSimpArgs false
open Go Go.VC
def mkC:Nat→Int→List (List Ey)→List Sc
 |_,_,[]=>[]
 |n,i,es::rest=>⟨n,i,es.map entB⟩::mkC (n + 1) (i + es.length) rest
theorem mkC_app:∀ (a:List (List Ey)) (n:Nat) (i:Int) (b:List (List Ey)),mkC n i (a++b)=mkC n i a++mkC (n + a.length) (i + a.flatten.length) b
 |[],n,i,b=>by simp [mkC]
 |es::a,n,i,b=>by
  simp only [List.cons_append,mkC,mkC_app a,List.length_cons,List.flatten_cons,List.length_append]
  rw [show n + 1 + a.length=n + (a.length + 1) by omega,show i + (es.length:Int) + (a.flatten.length:Int)=i + ((es.length + a.flatten.length:Nat):Int) by omega]
theorem mkC_len:∀ (a:List (List Ey)) (n:Nat) (i:Int),(mkC n i a).length=a.length
 |[],_,_=>rfl
 |es::a,n,i=>by simp [mkC,mkC_len a]
structure EsOk (i:Int) (l:List Ey):Prop where
 ok:∀ e∈l,e.Ok∧∀ y∈e.dt,0≤y∧y<256
 fol:Follows i l
theorem EsOk.app {i:Int} {a b:List Ey} (h:EsOk i (a++b)):EsOk i a∧EsOk (i + a.length) b:=by
 refine ⟨⟨fun e he=>h.ok e (List.mem_append_left _ he),fun k hk=>?_⟩,⟨fun e he=>h.ok e (List.mem_append_right _ he),fun k hk=>?_⟩⟩
 ·have:=h.fol k (by simp;omega)
  rwa [List.getElem_append_left hk] at this
 ·have:=h.fol (a.length + k) (by simp;omega)
  rw [List.getElem_append_right (by omega)] at this
  simp only [Nat.add_sub_cancel_left] at this
  rw [this];omega
theorem EsOk.snoc {i:Int} {a:List Ey} {e:Ey} (h:EsOk i a) (ho:e.Ok) (hb:∀ y∈e.dt,0≤y∧y<256) (hi:e.ix=i + a.length):EsOk i (a++[e]):=by
 refine ⟨fun x hx=>?_,fun k hk=>?_⟩
 ·rcases List.mem_append.1 hx with hx|hx
  ·exact h.ok x hx
  ·simp at hx;subst hx;exact ⟨ho,hb⟩
 ·by_cases hk2:k<a.length
  ·rw [List.getElem_append_left hk2];exact h.fol k hk2
  ·have:k=a.length:=by simp at hk;omega
   subst this
   simp [hi]
theorem runs_ents:∀ {l:List Ey} {g:Lg},EsOk (g.last + 1) l→runs g (l.map entB)=some ⟨g.base,g.l++l⟩
 |[],g,_=>by simp [runs]
 |e::l,g,h=>by
  have h0:=h.fol 0 (by simp)
  simp only [List.getElem_cons_zero] at h0
  rw [List.map_cons]
  unfold runs
  rw [change_ent (h.ok e (List.mem_cons_self ..)).1,if_pos (by omega)]
  simp only
  have h2:=(EsOk.app (a:=[e]) (b:=l) h).2
  rw [runs_ents (g:=⟨g.base,g.l++[e]⟩) (by
   have:(⟨g.base,g.l++[e]⟩:Lg).last + 1=g.last + 1 + (([e]:List Ey).length:Int):=by unfold Lg.last;simp;omega
   rw [this];exact h2)]
  simp
theorem mkC_chain:∀ {ess:List (List Ey)} {n:Nat} {g:Lg},EsOk (g.last + 1) ess.flatten→1≤g.last + 1→g.last + 1 + ess.flatten.length≤1099511627777→1≤n→n + 1 + ess.length≤100000000→
  Chain (some n) g (mkC (n + 1) (g.last + 1) ess) ⟨g.base,g.l++ess.flatten⟩
 |[],n,g,_,_,_,_,_=>by simp only [mkC,List.flatten_nil,List.append_nil];exact .nil
 |es::ess,n,g,h,h1,h2,h3,h4=>by
  rw [List.flatten_cons] at h h2
  rw [List.length_append] at h2
  rw [List.length_cons] at h4
  obtain ⟨ha,hb⟩:=h.app
  have hl:(⟨g.base,g.l++es⟩:Lg).last=g.last + es.length:=by unfold Lg.last;simp;omega
  refine .more (g1:=⟨g.base,g.l++es⟩) ⟨by simp,by simp only;omega,h1,by simp only;omega,fun b hb=>?_⟩ rfl rfl (runs_ents ha) ?_
  ·obtain ⟨e,he,rfl⟩:=List.mem_map.1 hb
   exact entB_ok (ha.ok e he).1 (ha.ok e he).2
  ·have:=mkC_chain (ess:=ess) (n:=n + 1) (g:=⟨g.base,g.l++es⟩) (by rw [hl,show g.last + es.length + 1=g.last + 1 + es.length by omega];exact hb) (by omega) (by omega) (by omega) (by omega)
   rw [hl,show g.last + es.length + 1=g.last + 1 + es.length by omega] at this
   rw [List.flatten_cons,←List.append_assoc]
   exact this
theorem mkC_start {ess:List (List Ey)} {n:Nat} {i:Int} (hne:ess≠[]) (h:EsOk i ess.flatten) (h1:1≤i) (h2:i + ess.flatten.length≤1099511627777) (h3:1≤n) (h4:n + ess.length≤100000000):
  Chain none ⟨0,[]⟩ (mkC n i ess) ⟨i - 1,ess.flatten⟩:=by
 obtain ⟨es,ess,rfl⟩:=List.exists_cons_of_ne_nil hne
 rw [List.flatten_cons] at h h2
 rw [List.length_append] at h2
 rw [List.length_cons] at h4
 obtain ⟨ha,hb⟩:=h.app
 have hl0:(⟨i - 1,[]⟩:Lg).last + 1=i:=by unfold Lg.last;simp
 have hl:(⟨i - 1,es⟩:Lg).last + 1=i + es.length:=by unfold Lg.last;simp;omega
 unfold mkC
 refine .first (g1:=⟨i - 1,es⟩) ⟨h3,by simp only;omega,h1,by simp only;omega,fun b hb=>?_⟩ rfl ?_ ?_
 ·obtain ⟨e,he,rfl⟩:=List.mem_map.1 hb
  exact entB_ok (ha.ok e he).1 (ha.ok e he).2
 ·have:=runs_ents (g:=⟨i - 1,[]⟩) (l:=es) (by rw [hl0];exact ha)
  simpa using this
 ·have:=mkC_chain (ess:=ess) (n:=n) (g:=⟨i - 1,es⟩) (by rw [hl];exact hb) (by omega) (by omega) h3 (by omega)
  rw [hl] at this
  rw [List.flatten_cons]
  exact this
theorem perm_of_get {a b:Fs} (ha:Uni a) (hb:Uni b) (h:∀ k,getM k a=getM k b):a.Perm b:=by
 have key:∀ {l:Fs},Uni l→∀ e:ByteArray × Fl,e∈l↔getM e.1 l=some e.2:=fun {l} u e=>⟨fun he=>getM_of_mem u he,fun he=>by
  obtain ⟨x,y,hxy,_⟩:=getM_split he
  rw [hxy];simp⟩
 have nd:∀ {l:Fs},Uni l→l.Nodup:=fun {l} u=>by
  unfold Uni at u
  unfold List.Nodup at u ⊢
  rw [List.pairwise_map] at u
  exact u.imp fun hne he=>hne (by rw [he])
 rw [List.perm_ext_iff_of_nodup (nd ha) (nd hb)]
 intro e
 rw [key ha,key hb,h]
structure Fu (st:DS) (n:Nat) (i:Int) (ess:List (List Ey)):Prop where
 off:st.off=false
 inv:Inv st
 by':ByOk st.fs
 get:∀ c∈mkC n i ess,∃ m,getM (segName c.num) st.fs=some ⟨c.bytes,m⟩
 only:∀ k,getM k st.fs≠none→∃ c∈mkC n i ess,k=segName c.num
 ne:ess≠[]
 ok:EsOk i ess.flatten
 i1:1≤i
 i2:i + ess.flatten.length≤1099511627777
 n1:1≤n
 n2:n + ess.length≤100000000
theorem Fu.chain {st:DS} {n:Nat} {i:Int} {ess:List (List Ey)} (h:Fu st n i ess):Chain none ⟨0,[]⟩ (mkC n i ess) ⟨i - 1,ess.flatten⟩:=mkC_start h.ne h.ok h.i1 h.i2 h.n1 h.n2
def fOf (st:DS) (c:Sc):Fl:=(getM (segName c.num) st.fs).getD ⟨[],0⟩
theorem Fu.perm {st:DS} {n:Nat} {i:Int} {ess:List (List Ey)} (h:Fu st n i ess):st.fs.Perm (segFs (fOf st) (mkC n i ess)):=by
 have hc:=h.chain
 have hu:=segFs_uni (f:=fOf st) hc.nums.2 fun c hm=>(chain_bd hc c hm).2
 refine perm_of_get h.inv.uni hu fun k=>?_
 rcases hg:getM k (segFs (fOf st) (mkC n i ess)) with _|v
 ·rcases hk:getM k st.fs with _|v
  ·rfl
  ·exfalso
   obtain ⟨c,hm,rfl⟩:=h.only k (by rw [hk];simp)
   have:=getM_of_mem hu (List.mem_map_of_mem (f:=fun c=>(segName c.num,fOf st c)) hm)
   rw [hg] at this;cases this
 ·obtain ⟨x,y,hxy,_⟩:=getM_split hg
  have hm:(k,v)∈segFs (fOf st) (mkC n i ess):=by rw [hxy];simp
  obtain ⟨c,hm,he⟩:=List.mem_map.1 hm
  obtain ⟨m,hgm⟩:=h.get c hm
  cases he
  unfold fOf
  rw [hgm];rfl
theorem Fu.f {st:DS} {n:Nat} {i:Int} {ess:List (List Ey)} (h:Fu st n i ess):∀ c∈mkC n i ess,(fOf st c).b=c.bytes:=fun c hc=>by
 obtain ⟨m,hm⟩:=h.get c hc
 unfold fOf;rw [hm];rfl
theorem Fu.load {st:DS} {n:Nat} {i:Int} {ess:List (List Ey)} (h:Fu st n i ess):loadD st=⟨⟨i - 1,ess.flatten⟩,(mkC n i ess).map Sc.sg,none,[]⟩:=loadD_full h.off h.perm h.f h.chain
theorem Fu.scratch {st:DS} {n:Nat} {i:Int} {ess:List (List Ey)} (h:Fu st n i ess):scratchN ∉ namesOf st.fs:=seg_noscratch h.perm h.chain.nums.2 fun c hm=>(chain_bd h.chain c hm).2
def xOf (lim:Int) (n:Nat) (i:Int) (ess:List (List Ey)):WSt:=⟨lim,⟨i - 1,ess.flatten⟩,(mkC n i ess).map Sc.sg,false⟩
theorem Fu.rcv {st:DS} {n:Nat} {i:Int} {ess:List (List Ey)} (h:Fu st n i ess):recoverD st=(st,0):=by
 have hl:=h.load
 unfold recoverD
 simp only [hl,if_neg h.scratch,thenD,if_true,unlinksD]
 rw [if_neg]
 obtain ⟨es,ess,rfl⟩:=List.exists_cons_of_ne_nil h.ne
 simp [mkC]
theorem Fu.open {st:DS} {n:Nat} {i lim:Int} {ess:List (List Ey)} (h:Fu st n i ess) (h1:32≤lim) (h2:lim≤65536):openErr st lim=0∧openD st lim=st∧openedW st=⟨⟨i - 1,ess.flatten⟩,(mkC n i ess).map Sc.sg⟩:=by
 have hc:¬ (lim<32∨lim>65536):=by omega
 unfold openErr openD openedW
 simp only [if_neg hc,h.off,h.rcv,h.load]
 obtain ⟨es,ess,rfl⟩:=List.exists_cons_of_ne_nil h.ne
 simp [mkC]
theorem chg_off {st:DS} {ok:Bool} (h1:(chg st ok).2=0):(chg st ok).1.off=st.off:=by
 unfold chg at h1 ⊢
 split
 ·rfl
 ·split
  ·rfl
  ·split
   ·rename_i h3 h4 h5;rw [if_neg h3,if_neg h4,if_pos h5] at h1;simp at h1
   ·rfl
theorem append_off {st:DS} {k:ByteArray} {xs:List Int} (h:(appendD st k xs).2=0):(appendD st k xs).1.off=st.off:=by
 obtain ⟨h1,h2⟩:=doing_ok (st:=st) h
 have e:appendD st k xs=appendG (chg st (nameOk k)).1 k xs:=h2
 rw [e,←chg_off h1]
 unfold appendG
 split<;>rfl
theorem sync_off {st:DS} {k:ByteArray} (h:(syncD st k).2=0):(syncD st k).1.off=st.off:=by
 obtain ⟨h1,h2⟩:=doing_ok (st:=st) h
 have e:syncD st k=syncG k (chg st (nameOk k)).1:=h2
 rw [e,←chg_off h1]
 unfold syncG
 split<;>rfl
theorem append_more {st:DS} {k:ByteArray} {xs:List Int} {f:Fl} (hk:getM k st.fs=some f) (h:(appendD st k xs).2=0):getM k (appendD st k xs).1.fs=some ⟨f.b++xs,f.sure⟩:=by
 obtain ⟨_,e⟩:=doing_ok h
 have e:appendD st k xs=appendG (chg st (nameOk k)).1 k xs:=e
 rw [e] at h ⊢
 have hf:=(chg_fs st (nameOk k)).1
 generalize (chg st (nameOk k)).1=st' at *
 unfold appendG at h ⊢
 split
 ·rename_i h1;rw [if_pos h1] at h;cases h
 ·show getM k (putB k xs st'.fs)=_
  have he:getM k (ensure k st'.fs)=some f:=by
   unfold ensure
   rw [hf,hk]
   rw [if_pos (by simp)];exact hk
  unfold putB
  rw [getM_upd he]
theorem Fu.put {st:DS} {n:Nat} {i:Int} {a:List (List Ey)} {es:List Ey} {e:Ey} (h:Fu st n i (a++[es])) (ho:e.Ok) (hb:∀ y∈e.dt,0≤y∧y<256) (hi:e.ix=i + (a++[es]).flatten.length) (hi2:e.ix≤1099511627776)
  (hd:(appendD st (segName (n + a.length)) (recB (entB e))).2=0):Fu (appendD st (segName (n + a.length)) (recB (entB e))).1 n i (a++[es++[e]]):=by
 have hfl:(a++[es++[e]]).flatten=(a++[es]).flatten++[e]:=by simp
 have hm:mkC n i (a++[es])=mkC n i a++[⟨n + a.length,i + a.flatten.length,es.map entB⟩]:=by rw [mkC_app];rfl
 have hm2:mkC n i (a++[es++[e]])=mkC n i a++[⟨n + a.length,i + a.flatten.length,(es++[e]).map entB⟩]:=by rw [mkC_app];rfl
 have hlt:∀ c∈mkC n i a,segName c.num≠segName (n + a.length):=fun c hc he=>by
  have hc':=h.chain
  have hnum:=hc'.nums.2
  rw [hm,List.pairwise_append] at hnum
  have:=hnum.2.2 c hc _ (List.mem_singleton.2 rfl)
  simp only at this
  have h1:=(chain_bd hc' c (by rw [hm];exact List.mem_append_left _ hc)).2
  have h2:=h.n2
  simp only [List.length_append,List.length_cons,List.length_nil] at h2
  have:=seg_inj h1 (by omega) he
  omega
 refine ⟨by rw [append_off hd];exact h.off,appendD_inv h.inv _ _,by_append h.by' _ (by have:=recsB_bd (l:=[entB e]) (fun b h=>by rw [List.mem_singleton.1 h];exact entB_ok ho hb);rwa [recsB_one] at this),fun c hc=>?_,fun k hk=>?_,by simp,?_,h.i1,?_,h.n1,by have:=h.n2;simp at this ⊢;omega⟩
 ·rw [hm2] at hc
  rcases List.mem_append.1 hc with hc|hc
  ·rw [append_get (hlt c hc)]
   exact h.get c (by rw [hm];exact List.mem_append_left _ hc)
  ·simp only [List.mem_singleton] at hc
   subst hc
   obtain ⟨m,hg⟩:=h.get ⟨n + a.length,i + a.flatten.length,es.map entB⟩ (by rw [hm];simp)
   refine ⟨m,?_⟩
   rw [append_more hg hd]
   simp only [Sc.bytes,Sc.recs,List.map_append,List.map_cons,List.map_nil]
   rw [←List.cons_append,recsB_app,recsB_one]
 ·by_cases hkk:k=segName (n + a.length)
  ·exact ⟨_,by rw [hm2];exact List.mem_append_right _ (List.mem_singleton.2 rfl),hkk⟩
  ·rw [append_get hkk] at hk
   obtain ⟨c,hc,rfl⟩:=h.only k hk
   rw [hm] at hc
   rcases List.mem_append.1 hc with hc|hc
   ·exact ⟨c,by rw [hm2];exact List.mem_append_left _ hc,rfl⟩
   ·simp only [List.mem_singleton] at hc;subst hc;exact absurd rfl hkk
 ·rw [hfl];exact h.ok.snoc ho hb hi
 ·rw [hfl];simp only [List.length_append,List.length_cons,List.length_nil] at hi ⊢;simp at hi ⊢;omega
theorem Fu.more {st:DS} {n:Nat} {i:Int} {a:List (List Ey)} (h:Fu st n i a) (hn:n + a.length + 1≤100000000)
  (hd:(makeD st (n + a.length) (i + a.flatten.length)).2=0):Fu (makeD st (n + a.length) (i + a.flatten.length)).1 n i (a++[[]]):=by
 have hm:mkC n i (a++[[]])=mkC n i a++[⟨n + a.length,i + a.flatten.length,[]⟩]:=by rw [mkC_app];rfl
 have hc':=h.chain
 have hlt:∀ c∈mkC n i a,segName c.num≠segName (n + a.length):=fun c hc he=>by
  have hx:∀ (a:List (List Ey)) (n:Nat) (i:Int),∀ c∈mkC n i a,c.num<n + a.length:=by
   intro a
   induction a with
   |nil=>intro n i c hc;cases hc
   |cons x a ih=>
    intro n i c hc
    unfold mkC at hc
    rcases List.mem_cons.1 hc with rfl|hc
    ·simp
    ·have:=ih _ _ c hc;simp;omega
  have:=hx a n i c hc
  have:=seg_inj (chain_bd hc' c hc).2 (by omega) he
  omega
 have hnone:getM (segName (n + a.length)) st.fs=none:=by
  rcases hg:getM (segName (n + a.length)) st.fs with _|v
  ·rfl
  ·obtain ⟨c,hc,he⟩:=h.only (segName (n + a.length)) (by rw [hg];simp)
   exact absurd he.symm (hlt c hc)
 have hh:∃ b,b=headB (n + a.length) (i + a.flatten.length):=⟨_,rfl⟩
 obtain ⟨b,hbb⟩:=hh
 have hmk:makeD st (n + a.length) (i + a.flatten.length)=thenD (appendD st (segName (n + a.length)) b) fun st=>syncD st (segName (n + a.length)):=by rw [hbb];rfl
 rw [hmk] at hd ⊢
 have h1:(appendD st (segName (n + a.length)) b).2=0:=by
  rcases Classical.em ((appendD st (segName (n + a.length)) b).2=0) with h0|h0
  ·exact h0
  ·rw [thenD_err h0] at hd;exact hd
 rw [thenD_ok h1] at hd ⊢
 have hbo:∀ x∈b,0≤x∧x<256:=by
  rw [hbb]
  have:=recsB_bd (l:=[hdB (n + a.length) (i + a.flatten.length)]) (fun b hb=>by rw [List.mem_singleton.1 hb];exact hdB_ok (by omega) h.i2)
  rw [recsB_one] at this
  exact this
 have hg2:∀ k,k≠segName (n + a.length)→getM k (syncD (appendD st (segName (n + a.length)) b).1 (segName (n + a.length))).1.fs=getM k st.fs:=fun k hk=>by rw [sync_get hk,append_get hk]
 refine ⟨by rw [sync_off hd,append_off h1];exact h.off,sync_inv (appendD_inv h.inv _ _) _,by_sync (by_append h.by' _ hbo) _,fun c hc=>?_,fun k hk=>?_,by simp,by simpa using h.ok,h.i1,by simpa using h.i2,h.n1,by simp;omega⟩
 ·rw [hm] at hc
  rcases List.mem_append.1 hc with hc|hc
  ·rw [hg2 _ (hlt c hc)];exact h.get c hc
  ·simp only [List.mem_singleton] at hc
   subst hc
   refine ⟨b.length,?_⟩
   rw [sync_done (append_new hnone h1) hd,hbb]
   simp only [Sc.bytes,Sc.recs,recsB_one]
   rfl
 ·by_cases hkk:k=segName (n + a.length)
  ·exact ⟨_,by rw [hm];exact List.mem_append_right _ (List.mem_singleton.2 rfl),hkk⟩
  ·rw [hg2 k hkk] at hk
   obtain ⟨c,hc,rfl⟩:=h.only k hk
   exact ⟨c,by rw [hm];exact List.mem_append_left _ hc,rfl⟩
theorem Fu.sync {st:DS} {n:Nat} {i:Int} {a:List (List Ey)} {k:ByteArray} (h:Fu st n i a) (hk:(getM k st.fs)≠none) (hd:(syncD st k).2=0):Fu (syncD st k).1 n i a:=by
 refine ⟨by rw [sync_off hd];exact h.off,sync_inv h.inv _,by_sync h.by' _,fun c hc=>?_,fun k2 hk2=>?_,h.ne,h.ok,h.i1,h.i2,h.n1,h.n2⟩
 ·obtain ⟨m,hg⟩:=h.get c hc
  by_cases hkk:segName c.num=k
  ·subst hkk;exact ⟨_,sync_done hg hd⟩
  ·exact ⟨m,by rw [sync_get hkk];exact hg⟩
 ·by_cases hkk:k2=k
  ·subst hkk;exact h.only k2 hk
  ·rw [sync_get hkk] at hk2;exact h.only k2 hk2
end Go.Proofs.YtkfedbncmfnpnaaGreatDoor
/- A log on a disk that only grows: Append, Drop; plain. No program. Condition: none. -/
namespace Go.Proofs.YtkfedbncmfnpnaaGreatDoor
set_option linter.unusedVariables false
set_option linter.unusedSimpArgs false
open Go Go.VC
theorem tail_snoc (l:List Sg) (g:Sg):tailS (l++[g])=g:=by unfold tailS;simp
theorem setSize_snoc (l:List Sg) (g:Sg) (z:Int):setSize (l++[g]) z=l++[⟨g.num,g.next,z⟩]:=by
 unfold setSize
 simp
def costE (l:List Ey):Int:=(l.map fun e=>(50 + e.dt.length:Int)).sum
structure Got (st:DS) (z:Int) (st':DS):Prop where
 calm:Calm st'
 tot:total st'.fs≤total st.fs + z
 room:st'.room=st.room
theorem Fu.drop {st:DS} {n:Nat} {i:Int} {es:List Ey} {ess:List (List Ey)} (h:Fu st n i (es::ess)) (hne:ess≠[]) (hd:(unlinkD st (segName n)).2=0):Fu (unlinkD st (segName n)).1 (n + 1) (i + es.length) ess:=by
 have hm:mkC n i (es::ess)=⟨n,i,es.map entB⟩::mkC (n + 1) (i + es.length) ess:=rfl
 have hc:=h.chain
 have hlt:∀ c∈mkC (n + 1) (i + es.length) ess,segName c.num≠segName n:=fun c hcm he=>by
  have hnum:=hc.nums.2
  rw [hm,List.pairwise_cons] at hnum
  have:=hnum.1 c hcm
  simp only at this
  have h1:=(chain_bd hc c (by rw [hm];exact List.mem_cons_of_mem _ hcm)).2
  have:=seg_inj h1 (by omega) he
  omega
 have hok:=h.ok
 have hi2:=h.i2
 rw [List.flatten_cons] at hok hi2
 rw [List.length_append] at hi2
 refine ⟨?_,unlink_inv h.inv _,by_unlink h.by' _,fun c hcm=>?_,fun k hk=>?_,hne,hok.app.2,by have:=h.i1;omega,by omega,by omega,by have:=h.n2;simp at this;omega⟩
 ·have hne2:scratchN≠segName n:=fun he=>seg_ne_scratch n he.symm
  rw [(unlink_read hne2 hd).1];exact h.off
 ·obtain ⟨m,hg⟩:=h.get c (by rw [hm];exact List.mem_cons_of_mem _ hcm)
  exact ⟨m,by rw [unlink_get (hlt c hcm)];exact hg⟩
 ·by_cases hkk:k=segName n
  ·rw [hkk,unlink_done h.inv.uni hd] at hk;exact absurd rfl hk
  ·rw [unlink_get hkk] at hk
   obtain ⟨c,hcm,rfl⟩:=h.only k hk
   rw [hm] at hcm
   rcases List.mem_cons.1 hcm with rfl|hcm
   ·exact absurd rfl hkk
   ·exact ⟨c,hcm,rfl⟩
structure Dr (n0:Nat) (i0:Int) (ess0:List (List Ey)) (before:Int) (n:Nat) (i:Int) (ess:List (List Ey)):Prop where
 le:i0≤i
 be:i=i0∨i≤before
 fl:ess.flatten=ess0.flatten.drop (i - i0).toNat
 len:i + ess.flatten.length=i0 + ess0.flatten.length
 n:n + ess.length=n0 + ess0.length
theorem fresh_full {room lim:Int} (h0:1000≤room) (h1:room≤16777216) (h2:32≤lim) (h3:lim≤65536) (i0:Inv ⟨room,[],-1,-1,false⟩):∃ st,openErr ⟨room,[],-1,-1,false⟩ lim=0∧openD ⟨room,[],-1,-1,false⟩ lim=st∧openedW ⟨room,[],-1,-1,false⟩=⟨⟨0,[]⟩,(mkC 1 1 [[]]).map Sc.sg⟩∧
  Fu st 1 1 [[]]∧Calm st∧total st.fs≤21∧st.room=room:=by
 have hl:loadD ⟨room,[],-1,-1,false⟩=⟨⟨0,[]⟩,[],none,[]⟩:=by
  have hn:namesOf ([]:Fs)=[]:=by unfold namesOf;simp
  unfold loadD
  rw [hn]
  rfl
 have hs:scratchN ∉ namesOf ([]:Fs):=by unfold namesOf;simp [namesOf]
 have hbl:(headB 1 1).length≤21:=by unfold headB;rw [recB_len];have:=hdB_len (n:=1) (next:=1) (by omega) (by omega);omega
 obtain ⟨b,hbb⟩:∃ b,b=headB 1 1:=⟨_,rfl⟩
 have c0:Calm ⟨room,[],-1,-1,false⟩:=⟨rfl,rfl,rfl⟩
 obtain ⟨g1,g2,g3,g4⟩:=append_calm c0 (k:=segName 1) (xs:=b) (seg_nameOk _) (by rw [hbb];show (0:Int) + _≤room;omega)
 have hgs:=append_new (st:=⟨room,[],-1,-1,false⟩) (k:=segName 1) rfl g1
 obtain ⟨j1,j2,j3,j4⟩:=sync_calm g2 (seg_nameOk 1) hgs
 have hmk:makeD ⟨room,[],-1,-1,false⟩ 1 1=syncD (appendD ⟨room,[],-1,-1,false⟩ (segName 1) b).1 (segName 1):=by
  unfold makeD
  rw [←hbb,thenD_ok g1]
 have hrec:recoverD ⟨room,[],-1,-1,false⟩=makeD ⟨room,[],-1,-1,false⟩ 1 1:=by
  unfold recoverD
  simp only [hl,if_neg hs,thenD,if_true,unlinksD]
 have hc:¬ (lim<32∨lim>65536):=by omega
 have hbo:∀ x∈b,0≤x∧x<256:=by
  rw [hbb]
  have:=recsB_bd (l:=[hdB 1 1]) (fun b hb=>by rw [List.mem_singleton.1 hb];exact hdB_ok (by omega) (by omega))
  rw [recsB_one] at this
  exact this
 refine ⟨(syncD (appendD ⟨room,[],-1,-1,false⟩ (segName 1) b).1 (segName 1)).1,?_,?_,?_,?_,j2,?_,by rw [j4,g4]⟩
 ·unfold openErr;rw [if_neg hc,if_neg (by simp),hrec,hmk];exact j1
 ·unfold openD;rw [if_neg hc,if_neg (by simp),hrec,hmk]
 ·unfold openedW;simp only [hl,if_true]
  simp only [mkC,List.map_cons,List.map_nil,Sc.sg,Sc.bytes,Sc.recs,recsB_one]
  rfl
 ·refine ⟨j2.off,sync_inv (appendD_inv i0 _ _) _,by_sync (by_append (fun e he=>by cases he) _ hbo) _,fun c hcm=>?_,fun k hk=>?_,by simp,⟨fun e he=>by simp at he,fun k hk=>by simp at hk⟩,by omega,by simp,by omega,by simp⟩
  ·simp only [mkC,List.mem_singleton] at hcm
   subst hcm
   refine ⟨b.length,?_⟩
   rw [sync_done hgs j1,hbb]
   simp only [Sc.bytes,Sc.recs,List.map_nil,recsB_one]
   rfl
  ·by_cases hkk:k=segName 1
   ·exact ⟨_,List.mem_cons_self ..,hkk⟩
   ·rw [sync_get hkk,append_get hkk] at hk;exact absurd rfl hk
 ·rw [j3,g3,hbb];show (0:Int) + _≤21;omega
end Go.Proofs.YtkfedbncmfnpnaaGreatDoor
/- The formulas of functions of this seat's translation, printed by a program of mine off the translation; each is proved equal to 'fnF' of the function's body, so it is enough for the call. No condition. -/
namespace Go.Proofs.YtkfedbncmfnpnaaGreatDoor
open Go Go.VC
set_option linter.unusedVariables false
set_option maxRecDepth 10000
def B20 (d:Sl) (e:Sl) (K:Value→World→Prop) (w:World):Prop:=
 Br ((↑d.len:Int) !=(↑e.len:Int))
 (K (.bool false) w)
 (∃ (k:Int→World→Prop) (A:Int→World→Nat),(k 0 w)∧∀ (E:Env) (b:Int) (j:World),k b j→
 Br (decide (b<(↑d.len:Int)))
 (Drw j fun c i=>
 Rng b d.len (NilP d.a fun C=>
 ∃ r:Int,(At c (Addr.add (Addr.add C (mulS b.toNat 4)) 0) [.int .i64 r])∧
 Rng b e.len (NilP e.a fun D=>
 ∃ s:Int,(At c (Addr.add (Addr.add D (mulS b.toNat 4)) 0) [.int .i64 s])∧
 Br (r !=s)
 (K (.bool false) i)
 (Rng b d.len (NilP d.a fun l=>
 ∃ t:Int,(At c ⟨(l.add (mulS b.toNat 4)).block,(l.add (mulS b.toNat 4)).off + 1,none⟩ [.int .i64 t])∧
 Rng b e.len (NilP e.a fun m=>
 ∃ u:Int,(At c ⟨(m.add (mulS b.toNat 4)).block,(m.add (mulS b.toNat 4)).off + 1,none⟩ [.int .i64 u])∧
 Br (t !=u)
 (K (.bool false) i)
 (Rng b d.len (NilP d.a fun n=>
 ∃ v:Int,(At c ⟨(n.add (mulS b.toNat 4)).block,(n.add (mulS b.toNat 4)).off + 2,none⟩ [.int .i64 v])∧
 Rng b e.len (NilP e.a fun o=>
 ∃ x:Int,(At c ⟨(o.add (mulS b.toNat 4)).block,(o.add (mulS b.toNat 4)).off + 2,none⟩ [.int .i64 x])∧
 Br (v !=x)
 (K (.bool false) i)
 (Rng b d.len (NilP d.a fun p=>
 ∃ f:Sl,(At c ⟨(p.add (mulS b.toNat 4)).block,(p.add (mulS b.toNat 4)).off + 3,none⟩ [.slice f.a f.len f.cap])∧
 ∃ y:ByteArray,(∀ w',c w'→((convert 53 9 (.slice f.a f.len f.cap))).run Tryz.prog w'=.ok (.string y) w')∧
 Rng b e.len (NilP e.a fun q=>
 ∃ g:Sl,(At c ⟨(q.add (mulS b.toNat 4)).block,(q.add (mulS b.toNat 4)).off + 3,none⟩ [.slice g.a g.len g.cap])∧
 ∃ z:ByteArray,(∀ w',c w'→((convert 53 9 (.slice g.a g.len g.cap))).run Tryz.prog w'=.ok (.string z) w')∧
 Br (!y.toList==z.toList)
 (K (.bool false) i)
 ((k (IntKind.i64.wrap (b + 1)) i)∧A (IntKind.i64.wrap (b + 1)) i<A b j)))))))))))))
 (K (.bool true) j))
def sk20:Sk:=(.seq .leaf (.seq .leaf (.seq (.seq .leaf (.block (.loop [5] [(.int .i64)] [4,5,11,12,13,14,15,16,17,18,19,20,21,22,23,24,25,26,27,28,29,30,31,32,33,34,35,36,37,38,39,40,41,42,43,44,45,46,47,48,49,50,51,52,53,54,55,56,57,58,59,60,61,62,63,64,65,66,67,68] .leaf))) .leaf)))
theorem call20 (b:Sl) (c:Sl) (K:Value→World→Prop) (w:World) (h:B20 b c K w):Gets Tryz.prog 20 #[.slice b.a b.len b.cap,.slice c.a c.len c.cap] w K:=cq (sk:=sk20) Tryz.func20 (by kernel_rfl) (by kernel_rfl) (by kernel_rfl) h
def B8  (K:Value→World→Prop) (w:World):Prop:=
 Calls Tryz.prog 17 #[.int .i64 1000] w fun n e=>
 ∃ c:Option Addr,∃ k:Int,(n=.returned (.tuple #[.pointer c,.int .i64 k]))∧
 ∃ (g:World→Prop),(Br (k !=0)
 (K (.bool false) e)
 (Br c.isNone
 (K (.bool false) e)
 (g  e)))∧
 ∀ (s:Env)  (l:World),g  l→
 Calls Tryz.prog 13 #[.pointer c,.int .i64 100] l fun o f=>
 ∃ d:Option Addr,∃ i:Int,(o=.returned (.tuple #[.pointer d,.int .i64 i]))∧
 Br (i==0)
 (Br (!d.isNone)
 (Calls Tryz.prog 22 #[.pointer d] f fun p m=>
 ∃ j:Int,(p=.returned (.int .i64 j))∧
 Br (j==1)
 (Calls Tryz.prog 33 #[.pointer c] m fun q r=>
 ∃ b:Sl,(q=.returned (.slice b.a b.len b.cap))∧
 K (.bool ((↑b.len:Int)==1)) r)
 (K (.bool false) m))
 (K (.bool false) f))
 (K (.bool false) f)
def sk8:Sk:=(.seq .leaf (.seq .leaf (.cut [] [] [0,9,10,11,12,13,14] .leaf .leaf)))
theorem call8  (K:Value→World→Prop) (w:World) (h:B8  K w):Gets Tryz.prog 8 #[] w K:=cq (sk:=sk8) Tryz.func8 (by kernel_rfl) (by kernel_rfl) (by kernel_rfl) h
def B9 (k:Sl) (g:Sl) (K:Value→World→Prop) (w:World):Prop:=
 ∃ (E:Int→World→Prop),(∃ (C:Int→Int→World→Prop) (X:Int→Int→World→Nat),(C 0 0 w)∧∀ (aa:Env) (l:Int) (d:Int) (r:World),C l d r→
 ∃ (F:World→Prop),(Br (decide (d<(↑k.len:Int)))
 (Br (decide (d<20))
 (F  r)
 (E l r))
 (E l r))∧
 ∀ (ab:Env)  (j:World),F  j→
 Rng d k.len (NilP k.a fun I=>
 ∃ v:Sl,(At (fun c=>c=j) ⟨(I.add (mulS d.toNat 2)).block,(I.add (mulS d.toNat 2)).off + 1,none⟩ [.slice v.a v.len v.cap])∧
 Br (decide ((↑v.len:Int)>30000))
 (K (.bool true) j)
 (Rng d k.len (NilP k.a fun Z=>
 ∃ U:ByteArray,(At (fun c=>c=j) (Addr.add (Addr.add Z (mulS d.toNat 2)) 0) [.string U])∧
 Br (decide ((↑U.size:Int)>1000))
 (K (.bool true) j)
 (Rng d k.len (NilP k.a fun J=>
 ∃ o:Sl,(At (fun c=>c=j) ⟨(J.add (mulS d.toNat 2)).block,(J.add (mulS d.toNat 2)).off + 1,none⟩ [.slice o.a o.len o.cap])∧
 (C (IntKind.i64.wrap (l + (↑o.len:Int))) (IntKind.i64.wrap (d + 1)) j)∧X (IntKind.i64.wrap (l + (↑o.len:Int))) (IntKind.i64.wrap (d + 1)) j<X l d r))))))∧
 ∀ (ac:Env) (T:Int) (V:World),E T V→
 ∃ (u:Int→Int→World→Prop) (A:Int→Int→World→Nat),(u T 0 V)∧∀ (ad:Env) (m:Int) (b:Int) (n:World),u m b n→
 ∃ (G:World→Prop),(Br (decide (b<(↑g.len:Int)))
 (Br (decide (b<100))
 (G  n)
 (K (.bool (decide (m>30000))) n))
 (K (.bool (decide (m>30000))) n))∧
 ∀ (ae:Env)  (s:World),G  s→
 Rng b g.len (NilP g.a fun L=>
 ∃ x:Sl,(At (fun c=>c=s) ⟨(L.add (mulS b.toNat 5)).block,(L.add (mulS b.toNat 5)).off + 3,none⟩ [.slice x.a x.len x.cap])∧
 Br (decide ((↑x.len:Int)>1000))
 (K (.bool true) s)
 (Rng b g.len (NilP g.a fun M=>
 ∃ y:Sl,(At (fun c=>c=s) ⟨(M.add (mulS b.toNat 5)).block,(M.add (mulS b.toNat 5)).off + 3,none⟩ [.slice y.a y.len y.cap])∧
 ∃ (D:Int→Int→World→Prop) (Y:Int→Int→World→Nat),(D (IntKind.i64.wrap (m + IntKind.i64.wrap (30 * (↑y.len:Int)))) 0 s)∧∀ (af:Env) (e:Int) (i:Int) (f:World),D e i f→
 ∃ (H:World→Prop),(Rng b g.len (NilP g.a fun N=>
 ∃ z:Sl,(At (fun c=>c=f) ⟨(N.add (mulS b.toNat 5)).block,(N.add (mulS b.toNat 5)).off + 3,none⟩ [.slice z.a z.len z.cap])∧
 Br (decide (i<(↑z.len:Int)))
 (Br (decide (e<100000))
 (H  f)
 (Br (decide (e>30000))
 (K (.bool true) f)
 ((u e (IntKind.i64.wrap (b + 1)) f)∧A e (IntKind.i64.wrap (b + 1)) f<A m b n)))
 (Br (decide (e>30000))
 (K (.bool true) f)
 ((u e (IntKind.i64.wrap (b + 1)) f)∧A e (IntKind.i64.wrap (b + 1)) f<A m b n))))∧
 ∀ (ag:Env)  (t:World),H  t→
 Rng b g.len (NilP g.a fun O=>
 ∃ p:Sl,(At (fun c=>c=t) ⟨(O.add (mulS b.toNat 5)).block,(O.add (mulS b.toNat 5)).off + 3,none⟩ [.slice p.a p.len p.cap])∧
 Rng i p.len (NilP p.a fun Q=>
 ∃ q:Sl,(At (fun c=>c=t) ⟨(Q.add (mulS i.toNat 4)).block,(Q.add (mulS i.toNat 4)).off + 3,none⟩ [.slice q.a q.len q.cap])∧
 (D (IntKind.i64.wrap (e + (↑q.len:Int))) (IntKind.i64.wrap (i + 1)) t)∧Y (IntKind.i64.wrap (e + (↑q.len:Int))) (IntKind.i64.wrap (i + 1)) t<Y e i f)))))
def sk9:Sk:=(.seq .leaf (.seq .leaf (.cut [5] [(.int .i64)] [4,5,6,9,10,11,12,13,14,15,16,17,18,19,20,21,22,23,24,25,26,27,28,29,30,31,32,33,34,35,36,37,38,39,40,41,42] (.seq .leaf (.block (.loop [5,6] [(.int .i64),(.int .i64)] [4,5,6,9,10,11,12,13,14,15,16,17,18,19,20,21,22,23,24,25,26,27,28,29,30,31,32,33,34,35,36,37,38,39,40,41,42] (.cut [] [] [9,10,11,12,13,14,15,16] .leaf .leaf)))) (.seq (.seq .leaf (.block (.loop [5,7] [(.int .i64),(.int .i64)] [4,5,7,8,43,44,45,46,47,48,49,50,51,52,53,54,55,56,57,58,59,60,61,62,63,64,65,66,67,68,69,70,71,72,73,74,75,76,77,78,79,80,81,82,83,84,85,86,87,88,89,90,91,92,93,94,95,96] (.cut [] [] [43,44,45,46,47,48,49,50] .leaf (.seq (.block (.seq .leaf (.seq .leaf (.seq (.seq .leaf (.block (.loop [5,8] [(.int .i64),(.int .i64)] [5,8,69,70,71,72,73,74,75,76,77,78,79,80,81,82,83,84,85,86,87,88,89,90,91,92,93,94] (.cut [] [] [69,70,71,72,73,74,75,76,77,78,79,80] .leaf .leaf)))) .leaf)))) .leaf))))) .leaf))))
theorem call9 (b:Sl) (c:Sl) (K:Value→World→Prop) (w:World) (h:B9 b c K w):Gets Tryz.prog 9 #[.slice b.a b.len b.cap,.slice c.a c.len c.cap] w K:=cq (sk:=sk9) Tryz.func9 (by kernel_rfl) (by kernel_rfl) (by kernel_rfl) h
end Go.Proofs.YtkfedbncmfnpnaaGreatDoor
/- A log on a disk: lists compared, how much is handed, awake. Condition: the library's table of powers is laid. -/
namespace Go.Proofs.YtkfedbncmfnpnaaGreatDoor
set_option linter.unusedVariables false
set_option linter.unusedSimpArgs false
open Go Go.VC
variable {R R':Cx} {Hs Rest:List HP} {w:World} {p d:Nat} {x:WSt} {s sg:Sl} {ds:List DE4} {st:DS}
theorem same06_spec {a b:Sl} {xs ys:List DE4} (ha:RoN 4 R a (xs.map eRow)) (hb:RoN 4 R b (ys.map eRow)) (hx:DsR R xs) (hy:DsR R ys) (he:erE xs=erE ys) (hl:xs.length≤1000000) (hm:∀ e∈xs,e.2.dt.length≤9223372036854775807) (hw:Sat R Hs w):
  Gets Tryz.prog 20 #[.slice a.a a.len a.cap,.slice b.a b.len b.cap] w fun v w'=>v=.bool true∧Sat R Hs w':=by
 have h1:a.len=xs.length:=by have:=ha.len;simpa using this
 have h2:b.len=ys.length:=by have:=hb.len;simpa using this
 have h3:xs.length=ys.length:=by have:=congrArg List.length he;simpa using this
 apply call20
 refine Br.ne (fun h=>absurd (by omega) h) (fun _=>?_)
 refine ⟨fun i w=>∃ k:Nat,i=k∧k≤xs.length∧Sat R Hs w,fun i _=>xs.length - i.toNat,⟨0,rfl,Nat.zero_le _,hw⟩,?_⟩
 clear hw
 rintro _ _ w ⟨k,rfl,hk,hw⟩
 refine Br.d (fun h=>?_) (fun h=>⟨rfl,hw⟩)
 have hkx:k<xs.length:=by omega
 have hky:k<ys.length:=by omega
 have hek:xs[k].2=ys[k].2:=by
  have h4:(erE xs)[k]'(by simpa using hkx)=(erE ys)[k]'(by simpa using hky):=by congr 1
  simpa using h4
 refine drw_rule hw fun w hw=>?_
 have r1:ReadsN 4 a (xs.map eRow) (Sat R Hs):=ha.reads fun w h=>h
 have r2:ReadsN 4 b (ys.map eRow) (Sat R Hs):=hb.reads fun w h=>h
 refine r1.rngM hkx fun _ _ el=>⟨xs[k].2.ix,el.zz (by exact ⟨rfl,trivial⟩),?_⟩
 refine r2.rngM hky fun _ _ fl=>⟨ys[k].2.ix,fl.zz (by exact ⟨rfl,trivial⟩),?_⟩
 refine Br.ne (fun h=>absurd (by rw [hek]) h) (fun _=>?_)
 refine r1.rngM hkx fun _ _ el=>⟨xs[k].2.tm,el.f 1 (by exact ⟨rfl,trivial⟩),?_⟩
 refine r2.rngM hky fun _ _ fl=>⟨ys[k].2.tm,fl.f 1 (by exact ⟨rfl,trivial⟩),?_⟩
 refine Br.ne (fun h=>absurd (by rw [hek]) h) (fun _=>?_)
 refine r1.rngM hkx fun _ _ el=>⟨xs[k].2.kd,el.f 2 (by exact ⟨rfl,trivial⟩),?_⟩
 refine r2.rngM hky fun _ _ fl=>⟨ys[k].2.kd,fl.f 2 (by exact ⟨rfl,trivial⟩),?_⟩
 refine Br.ne (fun h=>absurd (by rw [hek]) h) (fun _=>?_)
 have hd1:=hm _ (List.getElem_mem hkx)
 have hd2:ys[k].2.dt.length≤9223372036854775807:=by rw [←hek];exact hd1
 refine r1.rngM hkx fun _ _ el=>⟨xs[k].1,el.f 3 (by exact ⟨rfl,trivial⟩),VC.strOf xs[k].2.dt,fun w' h'=>convS_ro Tryz.underlying53 Tryz.underlying5 Tryz.underlying9 h' ((hx _ (List.getElem_mem hkx)).ro (by simpa using hd1)),?_⟩
 refine r2.rngM hky fun _ _ fl=>⟨ys[k].1,fl.f 3 (by exact ⟨rfl,trivial⟩),VC.strOf ys[k].2.dt,fun w' h'=>convS_ro Tryz.underlying53 Tryz.underlying5 Tryz.underlying9 h' ((hy _ (List.getElem_mem hky)).ro (by simpa using hd2)),?_⟩
 refine Br.sne (fun h=>absurd (by rw [hek]) h) (fun _=>?_)
 rw [wrap64 (by omega) (by omega)]
 exact ⟨⟨k + 1,by omega,by omega,hw⟩,by dsimp only;omega⟩
def sumD (l:List Ey):Int:=(l.map fun e=>(e.dt.length:Int)).sum
theorem costE_eq (l:List Ey):costE l=50 * l.length + sumD l:=by
 unfold costE sumD
 induction l with
 |nil=>simp
 |cons e l ih=>simp only [List.map_cons,List.sum_cons,List.length_cons];omega
theorem sumD_nn (l:List Ey):0≤sumD l:=by
 unfold sumD
 induction l with
 |nil=>simp
 |cons e l ih=>simp only [List.map_cons,List.sum_cons];omega
theorem xOf_wbk {n:Nat} {i lim:Int} {ess:List (List Ey)} {st:DS} (h:Fu st n i ess) (h2:ess.length≤40000) (hn:n≤40000) (h3:ess.flatten.length≤100000):WBk (xOf lim n i ess) 80000:=by
 have hi1:=h.i1;have hi2:=h.i2
 have hmn:∀ (a:List (List Ey)) (n:Nat) (i:Int),∀ c∈mkC n i a,c.num<n + a.length:=by
  intro a
  induction a with
  |nil=>intro n i c hc;cases hc
  |cons x a ih=>
   intro n i c hc
   unfold mkC at hc
   rcases List.mem_cons.1 hc with rfl|hc
   ·simp
   ·have:=ih _ _ c hc;simp;omega
 refine ⟨by show 0≤i - 1;omega,by show i - 1≤_;omega,?_,?_,?_,fun g hg=>?_⟩
 ·show ess.flatten.length≤_
  omega
 ·show 0<((mkC n i ess).map Sc.sg).length
  rw [List.length_map,mkC_len]
  exact List.length_pos_iff.2 h.ne
 ·show ((mkC n i ess).map Sc.sg).length≤_
  rw [List.length_map,mkC_len];omega
 ·obtain ⟨c,hc,rfl⟩:=List.mem_map.1 hg
  have:=hmn _ _ _ c hc
  obtain ⟨m,hm⟩:=h.get c hc
  have hrd:=readD_le h.inv (segName c.num)
  rw [read_get h.off (seg_nameOk _) hm] at hrd
  simp only at hrd
  refine ⟨by show c.num≤_;omega,by show (0:Int)≤c.bytes.length;omega,by show (c.bytes.length:Int)≤_;omega⟩
theorem new_open {d:Nat} {room lim:Int} (h0:1000≤room) (h1:room≤16777216) (h2:32≤lim) (h3:lim≤65536) (hp:PowR R) (hw:Sat R (DiskAt d ⟨room,[],-1,-1,false⟩::Hs) w):
  Gets Tryz.prog 13 #[.pointer (some ⟨d,0,none⟩),.int .i64 lim] w fun v w'=>∃ (R':Cx) (p:Nat) (s:Sl) (ds:List DE4) (sg:Sl) (st:DS),R.Ext R'∧v=.tuple #[.pointer (some ⟨p,0,none⟩),.int .i64 0]∧DsR R' ds∧erE ds=(xOf lim 1 1 [[]]).g.l∧
   Fu st 1 1 [[]]∧Calm st∧total st.fs≤21∧st.room=room∧Sat R' (WX p d (xOf lim 1 1 [[]]) s sg ds st Hs) w':=by
 have i0:Inv ⟨room,[],-1,-1,false⟩:=inv_new (by omega) h1
 obtain ⟨st,e1,e2,e3,f,c,t,r⟩:=fresh_full h0 h1 h2 h3 i0
 refine (open_spec lim i0 (fun e he=>by cases he) (by simp) hp hw).mono fun v w' h=>?_
 rw [e1] at h
 rcases h with ⟨h,_⟩|⟨_,R',p,s,ds,sg,g1,g2,g3,g4,_,_,_,_,g9⟩
 ·exact absurd rfl h
 ·rw [e3] at g4 g9
  rw [e2] at g9
  exact ⟨R',p,s,ds,sg,st,g1,g3,g2,g4,f,c,t,r,g9⟩
theorem awake_spec (hp:PowR R) (hw:Sat R Hs w):Gets Tryz.prog 8 #[] w fun v w'=>∃ R',R.Ext R'∧v=.bool true∧Sat R' Hs w':=by
 apply call8
 refine (new_ok (room:=1000) (by omega) (by omega) hw).use ?_
 clear hw
 rintro _ w ⟨d,rfl,hw⟩
 refine ⟨_,_,rfl,fun w=>Sat R (DiskAt d ⟨1000,[],-1,-1,false⟩::Hs) w,Br.ne (fun h=>absurd rfl h) (fun _=>Br.f rfl hw),?_⟩
 clear hw
 rintro _ w hw
 refine (new_open (lim:=100) (by omega) (by omega) (by omega) (by omega) hp hw).use ?_
 clear hw
 rintro _ w ⟨R1,p,s,ds,sg,st,e1,rfl,hd,he,f,c,t,r,hw⟩
 refine ⟨_,_,rfl,Br.e (fun _=>?_) (fun h=>absurd rfl h)⟩
 refine Br.t rfl ?_
 have b:=(xOf_wbk (lim:=100) f (by simp) (by omega) (by simp)).wb (by omega)
 refine (first_spec b hw).use ?_
 clear hw
 rintro _ w ⟨rfl,hw⟩
 refine ⟨_,rfl,Br.e (fun _=>?_) (fun h=>absurd (by decide) h)⟩
 obtain ⟨x,hx⟩:∃ x,x=xOf 100 1 1 [[]]:=⟨_,rfl⟩
 rw [←hx] at hw
 have hw:Sat R1 (DiskAt d st::pts p (wCells d x.lim x.g.base s sg x.brk)::EntO s ds::SegO sg x.segs::Hs) w:=hw.arr
 have hl:st.fs.length=1:=by rw [f.perm.length_eq];simp [mkC]
 refine (names_spec f.inv (by omega) hw).use ?_
 clear hw
 rintro _ w ⟨t,rfl,hw⟩
 have htl:=Own.len hw
 rw [List.length_map,seg_names f.perm f.chain.nums.2 fun c hc=>(chain_bd f.chain c hc).2] at htl
 have htl:t.len=1:=htl
 refine ⟨_,rfl,R1,e1,?_,hw.drop.drop.drop.drop.drop⟩
 rw [htl]
 rfl
end Go.Proofs.YtkfedbncmfnpnaaGreatDoor

/- ROW: from a reading of an argument to what the contracts ask; from a walk's end to 'Below'. No condition. -/
namespace Go.VC
set_option linter.unusedVariables false
set_option linter.unusedSimpArgs false
open Go.ChangeShapes Go.WideShapes Go.ChangeAt Go.RowKit
theorem below_of {W W':World} {Hs:List HP} (h:Sat (Cx.of W) Hs W'):Below W.heap.size W W':=by
 obtain ⟨h1,h2,h3⟩:=h.streams
 have hb:∀ k,k<W.heap.size→W'.heap[k]? =W.heap[k]?:=fun k hk=>by
  have:(Cx.of W).m k=some W.heap[k]:=by simp [Cx.of,hk]
  rw [h.of_ro this];simp [hk]
 refine ⟨h1,h2,h3,?_,hb⟩
 rcases Nat.lt_or_ge W'.heap.size W.heap.size with hl|hl
 ·have:=hb W'.heap.size hl
  rw [Array.getElem?_eq_none (Nat.le_refl _)] at this
  simp [hl] at this
 ·exact hl
theorem block_of_cell {w:World} {a:Addr} {v:Value} (h:w.cell? a=some v):a.spot=none∧∃ l T fr,w.heap[a.block]? =some (.cells l T fr)∧l[a.off]? =some v:=by
 unfold World.cell? at h
 split at h
 ·rename_i c T fr hb
  split at h
  ·cases h
  ·rename_i hs
   exact ⟨by simpa using hs,c,T,fr,hb,h⟩
 ·cases h
section
variable {H:Type} {enc:TypeId × Value→H} {P:Program} {W:World} {base:Nat} {spare:Nat→Bool} {held:Bool}
end
end Go.VC

/- ROW, part 3: arguments of any plain type (integers, bools, floats, strings, slices, structs, arrays of such), read as trees. No condition. -/
namespace Go.VC
set_option linter.unusedVariables false
set_option linter.unusedSimpArgs false
open Go.ChangeShapes Go.WideShapes Go.ChangeAt Go.RowKit
inductive Tr where
 |int (k:IntKind) (n:Int)|bool (b:Bool)|flt (n:Nat)|str (s:ByteArray)|sl (s:Sl) (xs:List Tr)|st (xs:List Tr)
mutual
def Tr.cells:Tr→List Value
 | .int k n=>[.int k n]
 | .bool b=>[.bool b]
 | .flt n=>[.float .f64 n]
 | .str s=>[.string s]
 | .sl s _=>[.slice s.a s.len s.cap]
 | .st xs=>Tr.cellsL xs
def Tr.cellsL:List Tr→List Value
 |[]=>[]
 |x::xs=>x.cells++Tr.cellsL xs
end
inductive U where
 |int (k:IntKind)|bool|flt|str|sl (u:U)|st (us:List U)
mutual
def U.size:U→Nat
 | .st us=>U.sizeL us
 |_=>1
def U.sizeL:List U→Nat
 |[]=>0
 |u::us=>u.size + U.sizeL us
end
mutual
def Tr.Ok (R:Cx):U→Tr→Prop
 | .int k,.int k' n=>k'=k∧(Lit.int k n).wf=true
 | .bool,.bool _=>True
 | .flt,.flt n=>(Lit.float .f64 n).wf=true
 | .str,.str s=>s.size≤maxLen
 | .sl u,.sl s xs=>(RoN u.size R s (xs.map Tr.cells)∧s.len≤s.cap)∧xs.length≤maxLen∧Tr.OkA R u xs
 | .st us,.st xs=>Tr.OkL R us xs
 |_,_=>False
def Tr.OkA (R:Cx) (u:U):List Tr→Prop
 |[]=>True
 |x::xs=>Tr.Ok R u x∧Tr.OkA R u xs
def Tr.OkL (R:Cx):List U→List Tr→Prop
 |[],[]=>True
 |u::us,x::xs=>Tr.Ok R u x∧Tr.OkL R us xs
 |_,_=>False
end
theorem Tr.okA {R:Cx} {u:U}:∀ {xs:List Tr},Tr.OkA R u xs→∀ x∈xs,Tr.Ok R u x
 |[],_,x,hx=>by cases hx
 |y::ys,h,x,hx=>by
  unfold Tr.OkA at h
  rcases List.mem_cons.1 hx with rfl|hx
  ·exact h.1
  ·exact Tr.okA h.2 x hx
theorem Tr.okA_mk {R:Cx} {u:U}:∀ {xs:List Tr},(∀ x∈xs,Tr.Ok R u x)→Tr.OkA R u xs
 |[],_=>by unfold Tr.OkA;trivial
 |y::ys,h=>by
  unfold Tr.OkA
  exact ⟨h y List.mem_cons_self,Tr.okA_mk fun x hx=>h x (List.mem_cons_of_mem _ hx)⟩
def fieldsU (P:Program) (f:TypeId→Option U):Nat→List Field→Option (List U)
 |_,[]=>some []
 |off,x::xs=>match Nat.beq x.offset off with
  |false=>none
  |true=>match f x.type with
   |none=>none
   |some u=>match Nat.beq (P.cellsOf x.type) u.size with
    |false=>none
    |true=>match fieldsU P f (off + u.size) xs with
     |none=>none
     |some us=>some (u::us)
def uOf (P:Program):Nat→TypeId→Option U
 |0,_=>none
 |d + 1,t=>match P.underlying t with
  |some (.int k)=>some (.int k)
  |some .bool=>some .bool
  |some (.float .f64)=>some .flt
  |some .string=>some .str
  |some (.slice e)=>match uOf P d e with
   |some u=>(match Nat.beq (P.cellsOf e) u.size && Nat.blt 0 u.size with|true=>some (.sl u)|false=>none)
   |none=>none
  |some (.struct fs)=>match fieldsU P (uOf P d) 0 fs.toList with
   |some us=>(match Nat.beq (P.cellsOf t) (U.sizeL us) with|true=>some (.st us)|false=>none)
   |none=>none
  |some (.array n e)=>match uOf P d e with
   |some u=>(match Nat.beq (P.cellsOf e) u.size && Nat.beq (P.cellsOf t) (n * u.size) with|true=>some (.st (List.replicate n u))|false=>none)
   |none=>none
  |_=>none
section
variable {H:Type} {enc:TypeId × Value→H} {P:Program} {W:World} {base:Nat} {spare:Nat→Bool} {held:Bool}
def IsTr (R:Cx) (u:U) (cs:List Value):Prop:=∃ x:Tr,x.cells=cs∧x.Ok R u
theorem cells?_cell {w:World} {base:Nat} {a:Addr} {n:Nat} {cs:List Value} (h:w.cells? base a n=some cs):cs.length=n∧∀ i,i<n→w.cell? (a.add i)=cs[i]?:=by
 unfold World.cells? at h
 split at h
 ·refine ⟨by have:=mapM_some_length h;simpa using this,fun i hi=>mapM_some_get h i i (by simp [hi])⟩
 ·cases h
theorem add_add (a:Addr) (i j:Nat) (hs:a.spot=none):(a.add i).add j=⟨a.block,a.off + (i + j),none⟩:=by
 obtain ⟨b,o,s⟩:=a
 simp only at hs
 subst hs
 rw [add_off,add_off,Nat.add_assoc]
theorem fields_read {d:Nat} (ih:∀ {fuel:Nat} {t:TypeId} {cs:List Value} {y:DataW H × List MemPlace} {u:U},uOf P d t=some u→DataW.trod enc P W base spare held fuel t cs=some y→IsTr (Cx.of W) u cs) {n:Nat} {cs:List Value} {xs:List (DataW H × List MemPlace)}:
  ∀ (fs:List Field) (off:Nat) (us:List U),fieldsU P (uOf P d) off fs=some us→(∀ (i:Nat) (f:Field),fs[i]? =some f→∃ y,DataW.trod enc P W base spare held n f.type ((cs.drop f.offset).take (P.cellsOf f.type))=some y)→
   off + U.sizeL us≤cs.length→∃ ts:List Tr,Tr.cellsL ts=(cs.drop off).take (U.sizeL us)∧Tr.OkL (Cx.of W) us ts
 |[],off,us,h,_,_=>by
  simp only [fieldsU,Option.some.injEq] at h
  subst h
  exact ⟨[],by simp [Tr.cellsL,U.sizeL],by unfold Tr.OkL;trivial⟩
 |f::fs,off,us,h,hf,hl=>by
  unfold fieldsU at h
  split at h
  ·cases h
  rename_i hoff
  have hoff:=Nat.eq_of_beq_eq_true hoff
  split at h
  ·cases h
  rename_i u hu
  split at h
  ·cases h
  rename_i hc
  have hc:=Nat.eq_of_beq_eq_true hc
  split at h
  ·cases h
  rename_i us' hus
  cases h
  simp only [U.sizeL] at hl ⊢
  obtain ⟨y,hy⟩:=hf 0 f rfl
  obtain ⟨x,hx,hxo⟩:=ih hu hy
  obtain ⟨ts,hts,htso⟩:=fields_read ih (n:=n) (xs:=xs) fs (off + u.size) us' hus (fun i g hg=>hf (i + 1) g (by simpa using hg)) (by omega)
  refine ⟨x::ts,?_,by unfold Tr.OkL;exact ⟨hxo,htso⟩⟩
  simp only [Tr.cellsL]
  rw [hx,hts,hoff,hc,List.take_add,List.drop_drop]
theorem reps_read {u:U} {n s:Nat}:∀ {m:Nat} {cs:List Value},cs.length=m * s→u.size=s→(∀ i,i<m→IsTr (Cx.of W) u ((cs.drop (i * s)).take s))→∃ ts:List Tr,Tr.cellsL ts=cs∧Tr.OkL (Cx.of W) (List.replicate m u) ts
 |0,cs,hl,_,_=>by
  have:cs=[]:=List.length_eq_zero_iff.1 (by simpa using hl)
  subst this
  exact ⟨[],rfl,by unfold Tr.OkL;trivial⟩
 |m + 1,cs,hl,hs,h=>by
  obtain ⟨x,hx,hxo⟩:=h 0 (by omega)
  obtain ⟨ts,hts,htso⟩:=reps_read (n:=n) (m:=m) (cs:=cs.drop s) (by rw [List.length_drop,hl,Nat.add_mul];omega) hs (fun i hi=>by
   have:=h (i + 1) (by omega)
   rw [Nat.add_mul,Nat.one_mul,Nat.add_comm,←List.drop_drop] at this
   exact this)
  refine ⟨x::ts,?_,by rw [List.replicate_succ];unfold Tr.OkL;exact ⟨hxo,htso⟩⟩
  simp only [Tr.cellsL]
  rw [hx,hts]
  simp
theorem choose_list {α β:Type} {p:Nat→α→Prop}:∀ {n:Nat},(∀ i,i<n→∃ x:α,p i x)→∃ xs:List α,xs.length=n∧∀ i (hi:i<xs.length),p i xs[i]
 |0,_=>⟨[],rfl,fun i hi=>by simp at hi⟩
 |n + 1,h=>by
  obtain ⟨xs,hl,hp⟩:=choose_list (β:=β) (n:=n) fun i hi=>h i (by omega)
  obtain ⟨x,hx⟩:=h n (by omega)
  refine ⟨xs++[x],by simp [hl],fun i hi=>?_⟩
  by_cases h2:i<xs.length
  ·rw [List.getElem_append_left h2];exact hp i h2
  ·have:i=n:=by simp at hi;omega
   subst this
   rw [List.getElem_append_right (by omega)]
   simpa using hx
theorem trod_f64 {fuel:Nat} {t:TypeId} {cs:List Value} {x:DataW H × List MemPlace} (ht:P.underlying t=some (.float .f64)) (h:DataW.trod enc P W base spare held fuel t cs=some x):∃ n,cs=[.float .f64 n]∧(Lit.float .f64 n).wf=true:=by
 cases fuel with
 |zero=>simp [DataW.trod] at h
 |succ n=>
  unfold DataW.trod at h
  rw [ht] at h
  split at h<;>simp_all
theorem tr_read:∀ {d fuel:Nat} {t:TypeId} {cs:List Value} {y:DataW H × List MemPlace} {u:U},uOf P d t=some u→DataW.trod enc P W base spare held fuel t cs=some y→IsTr (Cx.of W) u cs
 |0,_,_,_,_,_,h,_=>by cases h
 |d + 1,fuel,t,cs,y,u,h,hy=>by
  unfold uOf at h
  split at h
  ·rename_i k ht
   cases h
   obtain ⟨n,rfl,_,hw⟩:=DataW.trod_int ht hy
   exact ⟨.int k n,rfl,rfl,hw⟩
  ·rename_i ht
   cases h
   obtain ⟨b,rfl,_⟩:=DataW.trod_bool ht hy
   exact ⟨.bool b,rfl,by unfold Tr.Ok;trivial⟩
  ·rename_i ht
   cases h
   obtain ⟨n,rfl,hn⟩:=trod_f64 ht hy
   exact ⟨.flt n,rfl,by unfold Tr.Ok;exact hn⟩
  ·rename_i ht
   cases h
   obtain ⟨s,rfl,_,hs⟩:=DataW.trod_string ht hy
   exact ⟨.str s,rfl,hs⟩
  ·rename_i e ht
   split at h
   case h_2=>cases h
   rename_i ue hue
   split at h
   case h_2=>cases h
   rename_i hc
   simp only [Bool.and_eq_true] at hc
   have hpos:0<ue.size:=Nat.blt_eq.mp hc.2
   have hc:=Nat.eq_of_beq_eq_true hc.1
   cases h
   rcases DataW.trod_slice ht hy with ⟨rfl,_⟩|⟨a,len,cap,elems,rest,n,_,rfl,_,_,hlc,hcm,hel,helem,_,_⟩
   ·refine ⟨.sl ⟨none,0,0⟩ [],rfl,?_⟩
    unfold Tr.Ok
    exact ⟨⟨⟨Wid.nil,rfl,fun h=>absurd rfl h⟩,Nat.le_refl _⟩,Nat.zero_le _,by unfold Tr.OkA;trivial⟩
   ·obtain ⟨xs,hxl,hxs⟩:=choose_list (β:=Unit) (p:=fun i (x:Tr)=>W.cells? base (a.add (i * P.cellsOf e)) (P.cellsOf e)=some x.cells∧x.Ok (Cx.of W) ue) (n:=len) fun i hi=>by
     have h1:=helem i hi
     rw [List.getElem?_eq_getElem (by omega)] at h1
     obtain ⟨ce,hce,hte⟩:=Option.bind_eq_some_iff.1 h1
     obtain ⟨x,rfl,hx⟩:=tr_read hue hte
     exact ⟨x,hce,hx⟩
    refine ⟨.sl ⟨some a,len,cap⟩ xs,rfl,?_⟩
    unfold Tr.Ok
    have hwid:Wid ue.size (xs.map Tr.cells):=fun r hr=>by
     obtain ⟨x,hx,rfl⟩:=List.mem_map.1 hr
     obtain ⟨i,hi,rfl⟩:=List.getElem_of_mem hx
     have:=(cells?_cell (hxs i hi).1).1
     rw [this,hc]
    refine ⟨⟨⟨hwid,by simp [hxl],fun hne=>?_⟩,hlc⟩,by omega,Tr.okA_mk fun x hx=>by obtain ⟨i,hi,rfl⟩:=List.getElem_of_mem hx;exact (hxs i hi).2⟩
    -- the block
    have h0:0<xs.length:=by
     have:0<(xs.map Tr.cells).length:=List.length_pos_iff.2 hne
     simpa using this
    have hcell:∀ i (hi:i<xs.length) j,j<ue.size→W.cell? ((a.add (i * ue.size)).add j)=(xs[i].cells)[j]?:=fun i hi j hj=>by
     have:=(cells?_cell (hxs i hi).1).2 j (by rw [hc];exact hj)
     rw [hc] at this;exact this
    have hxl0:∀ i (hi:i<xs.length),(xs[i].cells).length=ue.size:=fun i hi=>by rw [(cells?_cell (hxs i hi).1).1,hc]
    have hc0:=hcell 0 h0 0 (by omega)
    rw [List.getElem?_eq_getElem (by rw [hxl0 0 h0];omega)] at hc0
    have hz0:(a.add (0 * ue.size)).add 0=a:=by rw [Nat.zero_mul];simp [Addr.add]
    rw [hz0] at hc0
    obtain ⟨hs,l,T,fr,hl,_⟩:=block_of_cell hc0
    refine ⟨a.block,a.off,l,T,fr,by cases a;simp_all,hl,fun i v hv=>?_⟩
    -- which row, which place
    have hlen:=hwid.len
    rw [List.length_map] at hlen
    have hi:i<(xs.map Tr.cells).flatten.length:=(List.getElem?_eq_some_iff.1 hv).1
    have hq:i / ue.size<xs.length:=by
     rw [hlen] at hi;exact Nat.div_lt_of_lt_mul (by rwa [Nat.mul_comm])
    have hm:i % ue.size<ue.size:=Nat.mod_lt _ (by omega)
    have hcc:=hcell (i / ue.size) hq (i % ue.size) hm
    rw [add_add a _ _ hs,show i / ue.size * ue.size + i % ue.size=i by rw [Nat.mul_comm];exact Nat.div_add_mod _ _] at hcc
    have e1:(xs.map Tr.cells).flatten[i]? =(xs[i / ue.size].cells)[i % ue.size]?:=by
     have h1:i=i / ue.size * ue.size + i % ue.size:=by rw [Nat.mul_comm];exact (Nat.div_add_mod _ _).symm
     conv=>lhs;rw [h1]
     rw [←List.getElem?_drop,hwid.drop_flat,List.drop_eq_getElem_cons (by simpa using hq),List.flatten_cons,List.getElem?_append_left (by rw [List.getElem_map,hxl0 _ hq];exact hm),List.getElem_map]
    rw [←e1,hv] at hcc
    simp only [World.cell?,hl,Option.isSome_none,Bool.false_eq_true,if_false] at hcc
    exact hcc
  ·rename_i fs ht
   split at h
   case h_2=>cases h
   rename_i us hus
   split at h
   case h_2=>cases h
   rename_i hc
   have hc:=Nat.eq_of_beq_eq_true hc
   cases h
   obtain ⟨xs,n,_,_,hl,hxl,hf⟩:=DataW.trod_struct ht hy
   obtain ⟨ts,hts,hto⟩:=fields_read (d:=d) (fun h h2=>tr_read h h2) (n:=n) (cs:=cs) (xs:=xs) fs.toList 0 us hus (fun i f hfi=>by
    have hfi2:fs[i]? =some f:=by simpa using hfi
    have hlt:i<xs.length:=by rw [hxl];exact (Array.getElem?_eq_some_iff.1 hfi2).1
    exact ⟨xs[i],by rw [hf i f hfi2];exact List.getElem?_eq_getElem hlt⟩) (by omega)
   refine ⟨.st ts,?_,by unfold Tr.Ok;exact hto⟩
   unfold Tr.cells
   rw [hts,List.drop_zero,List.take_of_length_le (by omega)]
  ·rename_i m e ht
   split at h
   case h_2=>cases h
   rename_i ue hue
   split at h
   case h_2=>cases h
   rename_i hc
   simp only [Bool.and_eq_true] at hc
   have hc1:=Nat.eq_of_beq_eq_true hc.1
   have hc2:=Nat.eq_of_beq_eq_true hc.2
   cases h
   obtain ⟨xs,n,_,_,hl,hxl,hf⟩:=DataW.trod_array ht hy
   obtain ⟨ts,hts,hto⟩:=reps_read (n:=n) (u:=ue) (s:=ue.size) (m:=m) (cs:=cs) (by rw [hl,hc2]) rfl (fun i hi=>by
    have:=hf i hi
    rw [hc1,List.getElem?_eq_getElem (by omega)] at this
    exact tr_read hue this)
   exact ⟨.st ts,by unfold Tr.cells;exact hts,by unfold Tr.Ok;exact hto⟩
  ·cases h
theorem tr_arg {d:Nat} {t:TypeId} {v:Value} {dt:DataW H} {p:List MemPlace} {u:U} (hu:uOf P d t=some u) (h:DataW.Trod enc P W base spare held t v dt p):IsTr (Cx.of W) u v.cells.toList:=by
 obtain ⟨fuel,hf⟩:=h
 exact tr_read hu hf
theorem sl_form {α:Type} {R:Cx} {u:U} {s:Sl} {xs:List Tr} (g:α→List Value) (Q:α→Prop) (ho:Tr.Ok R (.sl u) (.sl s xs)) (h:∀ x:Tr,x.Ok R u→∃ e:α,x.cells=g e∧Q e):
  ∃ es:List α,RoN u.size R s (es.map g)∧es.length≤maxLen∧∀ e∈es,Q e:=by
 unfold Tr.Ok at ho
 obtain ⟨⟨h1,_⟩,h2,h3⟩:=ho
 have key:∀ l:List Tr,(∀ x∈l,x.Ok R u)→∃ es:List α,l.map Tr.cells=es.map g∧es.length=l.length∧∀ e∈es,Q e:=fun l=>by
  induction l with
  |nil=>exact fun _=>⟨[],rfl,rfl,fun _ h=>by cases h⟩
  |cons x l ih=>
   intro hl
   obtain ⟨es,h1,h2,h3⟩:=ih fun y hy=>hl y (List.mem_cons_of_mem _ hy)
   obtain ⟨e,he,hq⟩:=h x (hl x List.mem_cons_self)
   exact ⟨e::es,by rw [List.map_cons,List.map_cons,he,h1],by simp [h2],fun y hy=>by
    rcases List.mem_cons.1 hy with rfl|hy
    ·exact hq
    ·exact h3 y hy⟩
 obtain ⟨es,e1,e2,e3⟩:=key xs (Tr.okA h3)
 rw [e1] at h1
 exact ⟨es,h1,by omega,e3⟩
theorem sl_cap {R:Cx} {u:U} {s:Sl} {xs:List Tr} (ho:Tr.Ok R (.sl u) (.sl s xs)):s.len≤s.cap:=by
 unfold Tr.Ok at ho
 exact ho.1.2
theorem RoN.one {R:Cx} {s:Sl} {vs:List Value} (h:RoN 1 R s (vs.map fun v=>[v])) (hb:vs.length≤maxLen):Ro R s vs:=by
 refine ⟨by have:=h.len;simpa using this,by unfold maxLen at hb;omega,fun hne=>?_⟩
 obtain ⟨b,off,l,T,fr,h1,h2,h3⟩:=h.mem (by simpa using hne)
 refine ⟨b,off,l,T,fr,h1,h2,fun i v hv=>h3 i v ?_⟩
 have:(vs.map fun v=>[v]).flatten=vs:=by
  clear h3 h hb hne hv
  induction vs with
  |nil=>rfl
  |cons v vs ih=>simp [ih]
 rw [this];exact hv
theorem ints_form {R:Cx} {k:IntKind} {s:Sl} {xs:List Tr} (ho:Tr.Ok R (.sl (.int k)) (.sl s xs)):∃ zs:List Int,Ro R s (zs.map (Value.int k))∧zs.length≤maxLen∧∀ z∈zs,(Lit.int k z).wf=true:=by
 obtain ⟨zs,h1,h2,h3⟩:=sl_form (fun z:Int=>[Value.int k z]) (fun z=>(Lit.int k z).wf=true) ho fun x hx=>by
  cases x<;>simp only [Tr.Ok] at hx
  rename_i k' z
  obtain ⟨rfl,hw⟩:=hx
  exact ⟨z,rfl,hw⟩
 refine ⟨zs,RoN.one ?_ (by simpa using h2),h2,h3⟩
 rw [List.map_map]
 exact h1
end
end Go.VC

/- The arguments that are lists of entries; the table that is laid. No condition. -/
namespace Go.Proofs.YtkfedbncmfnpnaaGreatDoor
set_option linter.unusedVariables false
set_option linter.unusedSimpArgs false
open Go Go.VC Go.ChangeShapes Go.WideShapes Go.ChangeAt Go.RowKit
variable {H:Type} {enc:TypeId × Value→H} {P:Program} {W:World} {r:Reach} {b0:Nat} {v:Value} {d:DataW H} {p:List MemPlace} {spare:Nat→Bool} {held:Bool}
structure EsR (R:Cx) (s:Sl) (dl:List DE4):Prop where
 rows:RoN 4 R s (dl.map eRow)
 each:DsR R dl
 by':∀ e∈erE dl,∀ y∈e.dt,0≤y∧y<256
 cap:s.len≤s.cap
theorem powR_of (W : World) (h : Lib.TabIs Tryz.prog W "internal/strconv.uint64pow10" .u64 Lib.pow10Tab) : PowR (Cx.of W) := fun Hs w hw => by
 have key:∀ {Hs:List HP} {R:Cx},Sat R Hs w→∀ b o,R.m b=some o→w.heap[b]? =some o:=fun {Hs}=>by
  induction Hs with
  |nil=>exact fun h=>h.1
  |cons H Hs ih=>
   intro R h b o hb
   obtain ⟨g,_,_,h⟩:=h
   refine ih h b o ?_
   simp only [Cx.add,Heap.add,hb]
 unfold Lib.TabIs World.var? at h ⊢
 rw [Option.bind_eq_some_iff] at h
 obtain ⟨g,hg,h⟩:=h
 rw [hg,Option.bind_some]
 split at h
 ·rename_i cs T fr hh
  have:=key hw g _ (show (Cx.of W).m g=_ from hh)
  rw [this]
  exact h
 ·cases h
theorem pow_laid {l1 l2 : String × DataW Unit} {rest : List (String × DataW Unit)} (h : laidMet Tryz.prog (l1 :: l2 :: ("internal/strconv.uint64pow10", Lib.tabData .u64 Lib.pow10Tab) :: rest) W) : PowR (Cx.of W) :=
 powR_of W (Lib.tabIs_of_head (g:=0) (t:=250) (e:=148) (n:=20) (by kernel_rfl) (by kernel_rfl) (by kernel_rfl) (by kernel_rfl) (by kernel_rfl) (by kernel_rfl) h.tail.tail)
theorem wf_bd {n:Int} (h:(Lit.int .i64 n).wf=true): -9223372036854775808≤n∧n<9223372036854775808:=by
 simp [Lit.wf,IntKind.min,IntKind.max,IntKind.bits,IntKind.signed] at h
 omega
end Go.Proofs.YtkfedbncmfnpnaaGreatDoor
/- A log on a disk that only grew, behind a crash: what is found; plain. No program. Condition: none. -/
namespace Go.Proofs.YtkfedbncmfnpnaaGreatDoor
set_option linter.unusedVariables false
set_option linter.unusedSimpArgs false
open Go Go.VC
theorem updM_get_ne {β:Type} {k k2:ByteArray} {g:β→β} (h:k2≠k) {l:List (ByteArray × β)}:getM k (updM k2 g l)=getM k l:=getM_upd_ne h.symm
theorem crashL_one {k:ByteArray}:∀ (ks:List ByteArray) (keep:List Int) {fs:Fs} {f:Fl},getM k fs=some f→f.sure≤f.b.length→∃ m,f.sure≤m∧m≤f.b.length∧(getM k (crashL ks keep fs)=some ⟨f.b.take m,m⟩∨getM k (crashL ks keep fs)=some f)
 |[],keep,fs,f,h,hs=>⟨f.b.length,hs,Nat.le_refl _,.inr h⟩
 |k2::ks,keep,fs,f,h,hs=>by
  rw [crashL]
  by_cases hk:k2=k
  ·subst hk
   have hst:=stay_le keep.head? f hs
   obtain ⟨m,h1,h2,h3⟩:=crashL_one ks keep.tail (getM_upd (g:=cutF keep.head?) h) (by unfold cutF;simp only [List.length_take];omega)
   unfold cutF at h1 h2 h3
   simp only [List.length_take] at h1 h2
   refine ⟨m,by omega,by omega,?_⟩
   have hm:m=f.sure + stay keep.head? f:=by omega
   left
   rw [hm]
   rcases h3 with h3|h3
   ·refine h3.trans ?_
    rw [hm];simp [List.take_take]
   ·exact h3
  ·exact crashL_one ks keep.tail (by rw [updM_get_ne hk];exact h) hs
theorem getM_keys {fs fs':Fs} (h:fs'.map (·.1)=fs.map (·.1)) {k:ByteArray} (hk:getM k fs'≠none):getM k fs≠none:=fun hn=>by
 obtain ⟨v,hv⟩:=Option.ne_none_iff_exists'.1 hk
 obtain ⟨a,b,hab,_⟩:=getM_split hv
 have:k∈fs.map (·.1):=by rw [←h,hab];simp
 exact notin_of_getM hn this
end Go.Proofs.YtkfedbncmfnpnaaGreatDoor

/- A log on a disk, behind a crash: segments of any records; plain. No program. Condition: none. -/
namespace Go.Proofs.YtkfedbncmfnpnaaGreatDoor
set_option linter.unusedVariables false
set_option linter.unusedSimpArgs false
open Go Go.VC
structure OnD (st:DS) (av:List Sc) (c:Sc) (k:Nat):Prop where
 inv:Inv st
 old:∀ s∈av,getM (segName s.num) st.fs=some ⟨s.bytes,s.bytes.length⟩
 last:getM (segName c.num) st.fs=some ⟨c.bytes,k⟩
 only:∀ q,getM q st.fs≠none→∃ s∈av++[c],q=segName s.num
theorem OnD.kl {st:DS} {av:List Sc} {c:Sc} {k:Nat} (o:OnD st av c k):k≤c.bytes.length:=by
 obtain ⟨a,b,hab,_⟩:=getM_split o.last
 exact o.inv.sure (segName c.num,⟨c.bytes,k⟩) (by rw [hab];simp)
theorem OnD.fs {st st':DS} {av:List Sc} {c:Sc} {k:Nat} (o:OnD st av c k) (i:Inv st') (h:st'.fs=st.fs):OnD st' av c k:=
 ⟨i,by rw [h];exact o.old,by rw [h];exact o.last,by rw [h];exact o.only⟩
theorem chain_det:∀ {cs:List Sc} {p:Option Nat} {g a b:Lg},Chain p g cs a→Chain p g cs b→a=b
 |[],p,g,a,b,h1,h2=>by cases h1;cases h2;rfl
 |c::cs,p,g,a,b,h1,h2=>by
  cases h1 with
  |first ho hl hr hc=>
   cases h2 with
   |first _ _ hr2 hc2=>
    rw [hr] at hr2
    cases hr2
    exact chain_det hc hc2
  |more ho hn hx hr hc=>
   cases h2 with
   |more _ _ _ hr2 hc2=>
    rw [hr] at hr2
    cases hr2
    exact chain_det hc hc2
theorem unlink_calm {st:DS} (c:Calm st) {k:ByteArray} {f:Fl} (hk:nameOk k=true) (hf:getM k st.fs=some f):(unlinkD st k).2=0:=by
 unfold unlinkD
 rw [hk,doing_calm c]
 unfold unlinkG
 rw [hf,if_pos (show (some f).isSome=true from rfl)]
structure OnC (st:DS) (av:List Sc) (c:Sc) (k m:Nat):Prop where
 inv:Inv st
 calm:Calm st
 old:∀ s∈av,readD st (segName s.num)=(s.bytes,0)
 last:∃ s,getM (segName c.num) st.fs=some ⟨c.bytes.take m,s⟩
 km:k≤m
 mc:m≤c.bytes.length
 nums:numsOf (namesOf st.fs)=av.map (·.num)++[c.num]
 scr:scratchN ∉ namesOf st.fs
theorem OnD.crash {st:DS} {av:List Sc} {c:Sc} {k:Nat} {g:Lg} (o:OnD st av c k) (hc:Chain none ⟨0,[]⟩ (av++[c]) g) (keep:List Int):∃ m,OnC (crashD st keep) av c k m:=by
 obtain ⟨st4,hst4⟩:∃ s,s=crashD st keep:=⟨_,rfl⟩
 have hkeys:st4.fs.map (·.1)=st.fs.map (·.1):=by rw [hst4];exact crashL_keys _ _ _
 have hold4:∀ c∈av,getM (segName c.num) st4.fs=some ⟨c.bytes,c.bytes.length⟩:=fun c hc=>by rw [hst4];exact crashL_get _ _ (o.old c hc)
 obtain ⟨m,s4,hm1,hm2,hlast4⟩:∃ m s,k≤m∧m≤c.bytes.length∧getM (segName c.num) st4.fs=some ⟨c.bytes.take m,s⟩:=by
  obtain ⟨m,h1,h2,h3⟩:=crashL_one (namesOf st.fs) keep o.last o.kl
  simp only at h1 h2 h3
  rcases h3 with h3|h3
  ·exact ⟨m,m,h1,h2,by rw [hst4];exact h3⟩
  ·exact ⟨_,_,o.kl,Nat.le_refl _,by rw [hst4,List.take_length];exact h3⟩
 have i4:Inv st4:=by rw [hst4];exact crash_inv o.inv keep
 have c4:Calm st4:=by rw [hst4];exact crash_calm _ _
 rw [←hst4]
 have hperm:st4.fs.Perm (segFs (fOf st4) (av++[c])):=by
  have hu:=segFs_uni (f:=fOf st4) hc.nums.2 fun c hm=>(chain_bd hc c hm).2
  refine perm_of_get i4.uni hu fun q=>?_
  rcases hg:getM q (segFs (fOf st4) (av++[c])) with _|v
  ·rcases hk:getM q st4.fs with _|v
   ·rfl
   ·exfalso
    obtain ⟨c',hm,rfl⟩:=o.only q (getM_keys hkeys (by rw [hk];simp))
    have:=getM_of_mem hu (List.mem_map_of_mem (f:=fun c=>(segName c.num,fOf st4 c)) hm)
    rw [hg] at this;cases this
  ·obtain ⟨x,y,hxy,_⟩:=getM_split hg
   have hm:(q,v)∈segFs (fOf st4) (av++[c]):=by rw [hxy];simp
   obtain ⟨c',hmc,he⟩:=List.mem_map.1 hm
   cases he
   unfold fOf
   rcases List.mem_append.1 hmc with hmc|hmc
   ·rw [hold4 c' hmc];rfl
   ·rw [List.mem_singleton.1 hmc,hlast4];rfl
 have hnums:=seg_nums hperm hc.nums.2 (chain_bd hc)
 rw [List.map_append] at hnums
 exact ⟨m,i4,c4,fun s hs=>by rw [read_get c4.off (seg_nameOk _) (hold4 s hs)],⟨s4,hlast4⟩,hm1,hm2,hnums,seg_noscratch hperm hc.nums.2 fun c hm=>(chain_bd hc c hm).2⟩
structure FoundL (st:DS) (lim:Int) (g:Lg) (segs:List Sg):Prop where
 err:openErr st lim=0
 got:openedW st=⟨g,segs⟩
theorem crash_load {st st4:DS} {av:List Sc} {c:Sc} {k m:Nat} {g:Lg} {lim:Int} (o:OnC st4 av c k m) (hc:Chain none ⟨0,[]⟩ (av++[c]) g) (hk:(headB c.num c.next).length≤k) (h2:32≤lim) (h3:lim≤65536) (hr:2 * total st4.fs≤st4.room):
  ∃ j g3,j≤c.bs.length∧(∀ i,i≤c.bs.length→scanLen (hdB c.num c.next::c.bs.take i)≤k→i≤j)∧Chain none ⟨0,[]⟩ (av++[⟨c.num,c.next,c.bs.take j⟩]) g3∧FoundL st4 lim g3 (List.map Sc.sg (av++[⟨c.num,c.next,c.bs.take j⟩])):=by
 obtain ⟨g1,hca,hcl⟩:=hc.split
 obtain ⟨s4,hlast4⟩:=o.last
 have hrd1:∀ c∈av,(readD st4 (segName c.num)).1=c.bytes:=fun c hc=>by rw [o.old c hc]
 have hrd2:(readD st4 (segName c.num)).1=c.bytes.take m:=by rw [read_get o.calm.off (seg_nameOk _) hlast4]
 have hl1:=load_chain (rd:=fun n=>(readD st4 (segName n)).1) (segs:=[]) (rest:=[c.num]) hca hrd1
 have hld:loadD st4=loadL (fun n=>(readD st4 (segName n)).1) (lastNum none av) g1 (av.map Sc.sg) [c.num]:=by
  unfold loadD
  rw [o.nums]
  simpa using hl1
 have hoC:c.Ok:=hc.ok c (by simp)
 obtain ⟨g1',hp',hx',hg',hrun,hre⟩:∃ g1':Lg,(lastNum none av=none∨(lastNum none av).map (· + 1)=some c.num)∧(lastNum none av≠none→c.next=g1.last + 1)∧
   (if lastNum none av=none then (⟨c.next - 1,g1.l⟩:Lg) else g1)=g1'∧runs g1' c.bs=some g∧∀ (j:Nat) (g3:Lg),runs g1' (c.bs.take j)=some g3→Chain (lastNum none av) g1 [⟨c.num,c.next,c.bs.take j⟩] g3:=by
  have hoj:∀ j,(⟨c.num,c.next,c.bs.take j⟩:Sc).Ok:=fun j=>⟨hoC.n0,hoC.n1,hoC.x0,hoC.x1,fun b hb=>hoC.bs b (List.mem_of_mem_take hb)⟩
  generalize lastNum none av=p at hcl ⊢
  cases hcl with
  |first ho hl hr hc=>cases hc;exact ⟨_,.inl rfl,fun h=>absurd rfl h,by rw [if_pos rfl,hl],hr,fun j g3 h=>.first (hoj j) hl h .nil⟩
  |more ho hn hx hr hc=>cases hc;exact ⟨_,.inr (by simp only [Option.map_some];rw [←hn]),fun _=>hx,if_neg (by simp),hr,fun j g3 h=>.more (hoj j) hn hx h .nil⟩
 have hcut:=load_cut (rd:=fun n=>(readD st4 (segName n)).1) (segs:=av.map Sc.sg) (k:=m) hoC hp' hx' hg' hrun hrd2
 have ho:¬ (lim<32∨lim>65536):=by omega
 have hkm:=o.km
 rcases hcut with ⟨_,hk'⟩|⟨j,g3,hj,hr3,hmax,hle,hcase⟩
 ·exfalso;omega
 ·refine ⟨j,g3,hj,fun i hi hs=>hmax i hi (by omega),hca.app (hre j g3 hr3),?_⟩
  obtain ⟨c',hc'⟩:∃ c':Sc,c'=⟨c.num,c.next,c.bs.take j⟩:=⟨_,rfl⟩
  have hsl3:scanLen (hdB c.num c.next::c.bs.take j)=c'.bytes.length:=by rw [hc'];exact (recsB_len _).symm
  have hsegs:(av++[c']).map Sc.sg=av.map Sc.sg++[⟨c.num,c.next,c'.bytes.length⟩]:=by rw [List.map_append,hc'];rfl
  rw [←hc',hsegs]
  rw [hsl3] at hcase hle
  rcases hcase with ⟨e1,_,e3⟩|e3
  ·have hl4:loadD st4=⟨g3,av.map Sc.sg++[⟨c.num,c.next,c'.bytes.length⟩],none,[]⟩:=by
    rw [hld]
    rw [←e1] at e3
    exact e3
   have hrec:recoverD st4=(st4,0):=by
    unfold recoverD
    simp only [hl4,if_neg o.scr,thenD,if_true,unlinksD]
    rw [if_neg (by simp)]
   refine ⟨?_,?_⟩
   ·unfold openErr
    rw [if_neg ho,o.calm.off,hrec];rfl
   ·unfold openedW
    simp only [hl4]
    rw [if_neg (by simp)]
  ·have hl4:loadD st4=⟨g3,av.map Sc.sg++[⟨c.num,c.next,((readD st4 (segName c.num)).1.length:Int)⟩],some ⟨c.num,c.next,c'.bytes.length⟩,[]⟩:=by
    rw [hld]
    exact e3
   have hin:inSegs (av.map Sc.sg++[⟨c.num,c.next,((readD st4 (segName c.num)).1.length:Int)⟩]) c.num=true:=by unfold inSegs;simp
   have hrd0:(readD st4 (segName c.num)).2=0:=by rw [read_get o.calm.off (seg_nameOk _) hlast4]
   have hx0:=hoC.x0
   have hcond:¬ (c.next=0∨inSegs (av.map Sc.sg++[⟨c.num,c.next,((readD st4 (segName c.num)).1.length:Int)⟩]) c.num=false):=fun h=>h.elim (fun h=>by omega) (fun h=>by rw [hin] at h;cases h)
   obtain ⟨bb,hbb⟩:∃ bb,bb=(readD st4 (segName c.num)).1.take (c'.bytes.length:Int).toNat:=⟨_,rfl⟩
   have hbt:(bb.length:Int)≤total st4.fs:=by
    have:=total_le hlast4
    rw [hbb,hrd2]
    simp only [List.length_take] at this ⊢
    omega
   obtain ⟨g1,g2,g3',g4⟩:=append_calm o.calm (k:=scratchN) (xs:=bb) scratch_nameOk (by omega)
   have hgs:=append_new (notin_names.1 o.scr) g1
   obtain ⟨j1,j2,j3,j4⟩:=sync_calm g2 scratch_nameOk hgs
   have hne:scratchN≠segName c.num:=fun he=>seg_ne_scratch _ he.symm
   obtain ⟨l1,_,_,_⟩:=rename_calm j2 (sync_inv (appendD_inv o.inv _ _) _).uni hne scratch_nameOk (seg_nameOk c.num) (sync_done hgs j1)
   have hmend:(mendD st4 (av.map Sc.sg++[⟨c.num,c.next,((readD st4 (segName c.num)).1.length:Int)⟩]) ⟨c.num,c.next,c'.bytes.length⟩).2=0:=by
    unfold mendD
    simp only
    rw [if_neg hcond,if_neg (by rw [hrd0];simp),←hbb,thenD_ok g1,thenD_ok j1]
    exact l1
   have hrec:(recoverD st4).2=0:=by
    unfold recoverD
    simp only [hl4,if_neg o.scr]
    rw [thenD_ok (x:=(st4,0)) rfl,thenD_ok hmend]
    simp only [unlinksD]
    rw [thenD_ok rfl,if_neg (by simp)]
   refine ⟨?_,?_⟩
   ·unfold openErr
    rw [if_neg ho,o.calm.off]
    exact hrec
   ·unfold openedW
    simp only [hl4]
    rw [if_neg (by simp)]
    unfold mendSegs
    simp only
    rw [if_neg hcond,setSize_snoc]
theorem crash_torn {st4:DS} {av:List Sc} {c:Sc} {m:Nat} {g:Lg} {lim:Int} (o:OnC st4 av c 0 m) (hc:Chain none ⟨0,[]⟩ (av++[c]) g) (hca:Chain none ⟨0,[]⟩ av g) (hb:c.bs=[]) (hne:av≠[]) (h2:32≤lim) (h3:lim≤65536) (hr:2 * total st4.fs≤st4.room):
  ∃ cs,(cs=av∨cs=av++[c])∧FoundL st4 lim g (cs.map Sc.sg):=by
 by_cases hm:m=c.bytes.length
 ·have o2:OnC st4 av c c.bytes.length m:=⟨o.inv,o.calm,o.old,o.last,by omega,o.mc,o.nums,o.scr⟩
  have hcl:c.bytes=headB c.num c.next:=by unfold Sc.bytes Sc.recs;rw [hb,recsB_one];rfl
  obtain ⟨j,g3,hj,_,hch,hf⟩:=crash_load (st:=st4) o2 hc (by rw [hcl];omega) h2 h3 hr
  have hcc:(⟨c.num,c.next,c.bs.take j⟩:Sc)=c:=by rw [hb,List.take_nil,←hb]
  rw [hcc] at hch hf
  exact ⟨_,.inr rfl,by rw [chain_det hch hc] at hf;exact hf⟩
 ·have hmc:=o.mc
  obtain ⟨s4,hlast4⟩:=o.last
  have hrd1:∀ c∈av,(readD st4 (segName c.num)).1=c.bytes:=fun c hc=>by rw [o.old c hc]
  have hrd2:(readD st4 (segName c.num)).1=c.bytes.take m:=by rw [read_get o.calm.off (seg_nameOk _) hlast4]
  have hl1:=load_chain (rd:=fun n=>(readD st4 (segName n)).1) (segs:=[]) (rest:=[c.num]) hca hrd1
  have hld:loadD st4=loadL (fun n=>(readD st4 (segName n)).1) (lastNum none av) g (av.map Sc.sg) [c.num]:=by
   unfold loadD
   rw [o.nums]
   simpa using hl1
  have hoC:c.Ok:=hc.ok c (by simp)
  have hcl:c.bytes=recB (hdB c.num c.next):=by unfold Sc.bytes Sc.recs;rw [hb,recsB_one]
  have hsc:scan ((fun n=>(readD st4 (segName n)).1) c.num)=[]:=by
   simp only
   rw [hrd2,hcl]
   have:=first_cut (b:=hdB c.num c.next) (hoC.recs _ (by unfold Sc.recs;simp)).1 (m:=m) (by rw [←hcl];omega)
   exact scan_none this
  have hl4:loadD st4=⟨g,av.map Sc.sg,some ⟨c.num,0,0⟩,[]⟩:=by
   rw [hld]
   have hnx:nxt (fun n=>(readD st4 (segName n)).1) (lastNum none av) c.num=0:=by unfold nxt nextOfSeg;rw [hsc]
   rw [loadL_amiss (.inl hnx),hnx]
  have ho:¬ (lim<32∨lim>65536):=by omega
  have hmend:(mendD st4 (av.map Sc.sg) ⟨c.num,0,0⟩).2=0:=by
   unfold mendD
   rw [if_pos (.inl rfl)]
   exact (unlink_calm o.calm (seg_nameOk _) hlast4)
  have hrec:(recoverD st4).2=0:=by
   unfold recoverD
   simp only [hl4,if_neg o.scr]
   rw [thenD_ok (x:=(st4,0)) rfl,thenD_ok hmend]
   simp only [unlinksD]
   rw [thenD_ok rfl,if_neg (by simpa using hne)]
  refine ⟨av,.inl rfl,?_,?_⟩
  ·unfold openErr
   rw [if_neg ho,o.calm.off]
   exact hrec
  ·unfold openedW
   simp only [hl4]
   rw [if_neg (by simpa using hne)]
   unfold mendSegs
   rw [if_pos (.inl rfl)]
end Go.Proofs.YtkfedbncmfnpnaaGreatDoor
/- A log on a disk: what may be found behind a crash, while it is written; plain. No program. Condition: none. -/
namespace Go.Proofs.YtkfedbncmfnpnaaGreatDoor
set_option linter.unusedVariables false
set_option linter.unusedSimpArgs false
open Go Go.VC
def FoundM (st:DS) (M:Lg→Prop):Prop:=∀ (keep:List Int) (lim:Int),32≤lim→lim≤65536→2 * total st.fs≤st.room→∃ g cs,M g∧Chain none ⟨0,[]⟩ cs g∧cs≠[]∧(∀ c∈cs,(c.bytes.length:Int)≤st.room)∧FoundL (crashD st keep) lim g (cs.map Sc.sg)
theorem FoundM.fs {st st':DS} {M:Lg→Prop} (h:FoundM st M) (e:st'.fs=st.fs) (r:st'.room=st.room):FoundM st' M:=fun keep lim h2 h3 hr=>by
 have ec:crashD st' keep=crashD st keep:=by unfold crashD;rw [e,r]
 rw [ec]
 rw [e,r] at hr
 rw [r]
 exact h keep lim h2 h3 hr
theorem FoundM.mono {st:DS} {M N:Lg→Prop} (h:FoundM st M) (hs:∀ g,M g→N g):FoundM st N:=fun keep lim h2 h3 hr=>by
 obtain ⟨g,cs,h,hr⟩:=h keep lim h2 h3 hr
 exact ⟨g,cs,hs g h,hr⟩
structure FineA (x:WSt) (st:DS) (M:Lg→Prop) (av:List Sc) (c:Sc) (k:Nat):Prop where
 o:OnD st av c k
 ch:Chain none ⟨0,[]⟩ (av++[c]) x.g
 sg:x.segs=List.map Sc.sg (av++[c])
 hk:(headB c.num c.next).length≤k
 mem:∀ (j:Nat) (g3:Lg),j≤c.bs.length→(∀ i,i≤c.bs.length→scanLen (hdB c.num c.next::c.bs.take i)≤k→i≤j)→Chain none ⟨0,[]⟩ (av++[⟨c.num,c.next,c.bs.take j⟩]) g3→M g3
theorem FineA.ne {x:WSt} {st:DS} {M:Lg→Prop} {av:List Sc} {c:Sc} {k:Nat} (f:FineA x st M av c k):∀ s∈av,segName s.num≠segName c.num:=fun s hs he=>by
 have hn:=f.ch.nums.2
 rw [List.pairwise_append] at hn
 have h1:=hn.2.2 s hs c (List.mem_singleton.2 rfl)
 have:=seg_inj (chain_bd f.ch s (List.mem_append_left _ hs)).2 (chain_bd f.ch c (by simp)).2 he
 omega
theorem FineA.sizes {x:WSt} {st:DS} {M:Lg→Prop} {av:List Sc} {c:Sc} {k:Nat} (f:FineA x st M av c k):∀ s∈av++[c],(s.bytes.length:Int)≤st.room:=fun s hs=>by
 have hfull:=f.o.inv.full
 rcases List.mem_append.1 hs with hs|hs
 ·have:=total_le (f.o.old s hs);simp only at this;omega
 ·rw [List.mem_singleton.1 hs]
  have:=total_le f.o.last;simp only at this;omega
theorem cut_sz (c:Sc) (j:Nat):(⟨c.num,c.next,c.bs.take j⟩:Sc).bytes.length≤c.bytes.length:=by
 have e:c.bytes=(⟨c.num,c.next,c.bs.take j⟩:Sc).bytes++recsB (c.bs.drop j):=by
  unfold Sc.bytes Sc.recs
  rw [←recsB_app,List.cons_append,List.take_append_drop]
 rw [e,List.length_append]
 exact Nat.le_add_right _ _
theorem FineA.found {x:WSt} {st:DS} {M:Lg→Prop} {av:List Sc} {c:Sc} {k:Nat} (f:FineA x st M av c k):FoundM st M:=fun keep lim h2 h3 hr=>by
 obtain ⟨m,oc⟩:=f.o.crash f.ch keep
 have ht:total (crashD st keep).fs≤total st.fs:=crashL_total _ _ _
 obtain ⟨j,g3,hj,hmax,hch,hf⟩:=crash_load (st:=st) oc f.ch f.hk h2 h3 (by show 2 * total (crashD st keep).fs≤st.room;omega)
 refine ⟨g3,_,f.mem j g3 hj hmax hch,hch,by simp,fun s hs=>?_,hf⟩
 rcases List.mem_append.1 hs with hs|hs
 ·exact f.sizes s (List.mem_append_left _ hs)
 ·rw [List.mem_singleton.1 hs]
  have:=f.sizes c (by simp)
  have:=cut_sz c j
  omega
theorem FineA.tail {x:WSt} {st:DS} {M:Lg→Prop} {av:List Sc} {c:Sc} {k:Nat} (f:FineA x st M av c k):tailS x.segs=c.sg:=by
 rw [f.sg,List.map_append];exact tail_snoc _ _
theorem FineA.self {x:WSt} {st:DS} {M:Lg→Prop} {av:List Sc} {c:Sc} {k:Nat} (f:FineA x st M av c k):M x.g:=by
 refine f.mem c.bs.length x.g (Nat.le_refl _) (fun i h _=>h) ?_
 rw [List.take_length];exact f.ch
theorem FineA.mono {x:WSt} {st:DS} {M N:Lg→Prop} {av:List Sc} {c:Sc} {k:Nat} (f:FineA x st M av c k) (h:∀ g,M g→N g):FineA x st N av c k:=⟨f.o,f.ch,f.sg,f.hk,fun j g3 a b d=>h _ (f.mem j g3 a b d)⟩
theorem append_room (st:DS) (k:ByteArray) (xs:List Int):(appendD st k xs).1.room=st.room:=by
 unfold appendD doing
 have hc:(chg st (nameOk k)).1.room=st.room:=by
  unfold chg
  split
  ·rfl
  ·split
   ·rfl
   ·split<;>rfl
 split
 ·unfold appendG
  dsimp only
  split<;>exact hc
 ·exact hc
theorem sync_room (st:DS) (k:ByteArray):(syncD st k).1.room=st.room:=by
 unfold syncD doing
 have hc:(chg st (nameOk k)).1.room=st.room:=by
  unfold chg
  split
  ·rfl
  ·split
   ·rfl
   ·split<;>rfl
 split
 ·unfold syncG
  split<;>exact hc
 ·exact hc
theorem FineA.put {x:WSt} {st:DS} {M:Lg→Prop} {av:List Sc} {c:Sc} {k:Nat} {b:List Int} {g:Lg} (f:FineA x st M av c k) (hb:BodyOk b) (hg:changeL x.g b=some g) (hM:M g):
  ((putW x st (recB b) g).1.2=0→FineA (putW x st (recB b) g).2 (putW x st (recB b) g).1.1 M av ⟨c.num,c.next,c.bs++[b]⟩ k)∧((putW x st (recB b) g).1.2≠0→FoundM (putW x st (recB b) g).1.1 M)∧(putW x st (recB b) g).1.1.room=st.room:=by
 have hn:(tailS x.segs).num=c.num:=by rw [f.tail];rfl
 unfold putW
 rw [hn]
 by_cases hd:(appendD st (segName c.num) (recB b)).2=0
 ·rw [if_pos hd]
  refine ⟨fun _=>?_,fun h=>absurd hd h,append_room _ _ _⟩
  obtain ⟨c',hc'⟩:∃ c':Sc,c'=⟨c.num,c.next,c.bs++[b]⟩:=⟨_,rfl⟩
  have hcb:c'.bytes=c.bytes++recB b:=by rw [hc'];unfold Sc.bytes Sc.recs;rw [←List.cons_append,recsB_app,recsB_one]
  have hoC:=f.ch.ok c (by simp)
  have hoC':c'.Ok:=by
   rw [hc']
   exact ⟨hoC.n0,hoC.n1,hoC.x0,hoC.x1,fun y hy=>by
    rcases List.mem_append.1 hy with hy|hy
    ·exact hoC.bs y hy
    ·rw [List.mem_singleton.1 hy];exact hb⟩
  have hch':Chain none ⟨0,[]⟩ (av++[c']) g:=by
   obtain ⟨g1,hca,hcl⟩:=f.ch.split
   refine hca.app ?_
   have hrs:∀ {g1:Lg},runs g1 c.bs=some x.g→runs g1 c'.bs=some g:=fun {g1} h=>by
    rw [hc',runs_app,h]
    simp only [Option.bind_some]
    unfold runs
    rw [hg]
    rfl
   generalize lastNum none av=p at hcl ⊢
   cases hcl with
   |first ho hl hr hc=>cases hc;exact .first hoC' hl (by rw [hc'] at hrs ⊢;exact hrs hr) .nil
   |more ho hn hx hr hc=>cases hc;exact .more hoC' (by rw [hc'];exact hn) (by rw [hc'];exact hx) (hrs hr) .nil
  rw [←hc']
  refine ⟨⟨appendD_inv f.o.inv _ _,fun s hs=>by rw [append_get (f.ne s hs)];exact f.o.old s hs,?_,fun q hq=>?_⟩,hch',?_,by rw [hc'];exact f.hk,fun j g3 hj hmax hch=>?_⟩
  ·have:=append_more f.o.last hd
   rw [hcb,hc'];exact this
  ·by_cases hqk:q=segName c.num
   ·exact ⟨c',by simp,by rw [hc'];exact hqk⟩
   ·rw [append_get hqk] at hq
    obtain ⟨s,hs,rfl⟩:=f.o.only q hq
    rcases List.mem_append.1 hs with hs|hs
    ·exact ⟨s,List.mem_append_left _ hs,rfl⟩
    ·rw [List.mem_singleton.1 hs] at hqk;exact absurd rfl hqk
  ·show growS x.segs (recB b).length=_
   unfold growS
   rw [f.tail,f.sg,List.map_append,List.map_append]
   show setSize (av.map Sc.sg++[c.sg]) _=_
   rw [setSize_snoc]
   simp only [List.map_cons,List.map_nil,Sc.sg,hcb,List.length_append]
   rw [hc']
   push_cast
   rfl
  ·rw [hc'] at hj hmax hch
   simp only [List.length_append,List.length_cons,List.length_nil] at hj hmax hch
   by_cases hjl:j≤c.bs.length
   ·rw [List.take_append_of_le_length hjl] at hch
    refine f.mem j g3 hjl (fun i hi hs=>hmax i (by omega) ?_) hch
    rw [List.take_append_of_le_length hi];exact hs
   ·have:j=c.bs.length + 1:=by omega
    rw [List.take_of_length_le (by simp;omega)] at hch
    rw [←hc'] at hch
    rw [chain_det hch hch'];exact hM
 ·rw [if_neg hd]
  exact ⟨fun h=>absurd h hd,fun _=>f.found.fs (append_err hd) (append_room _ _ _),append_room _ _ _⟩
theorem FineA.sync {x:WSt} {st:DS} {M:Lg→Prop} {av:List Sc} {c:Sc} {k:Nat} (f:FineA x st M av c k):
  ((syncD st (segName c.num)).2=0→FineA x (syncD st (segName c.num)).1 (fun g=>g=x.g) av c c.bytes.length)∧((syncD st (segName c.num)).2≠0→FoundM (syncD st (segName c.num)).1 M):=by
 refine ⟨fun hd=>⟨⟨sync_inv f.o.inv _,fun s hs=>by rw [sync_get (f.ne s hs)];exact f.o.old s hs,sync_done f.o.last hd,fun q hq=>?_⟩,f.ch,f.sg,by have:=f.o.kl;have:=f.hk;omega,fun j g3 hj hmax hch=>?_⟩,fun hd=>f.found.fs (sync_err hd) (sync_room _ _)⟩
 ·by_cases hqk:q=segName c.num
  ·exact ⟨c,by simp,hqk⟩
  ·rw [sync_get hqk] at hq;exact f.o.only q hq
 ·have hjl:=hmax c.bs.length (Nat.le_refl _) (by rw [List.take_length];unfold Sc.bytes Sc.recs;rw [recsB_len];exact Nat.le_refl _)
  rw [List.take_of_length_le hjl] at hch
  exact chain_det hch f.ch
end Go.Proofs.YtkfedbncmfnpnaaGreatDoor
/- A log on a disk: what may be found behind a crash, where a segment is begun, where entries are put behind; plain. No program. Condition: none. -/
namespace Go.Proofs.YtkfedbncmfnpnaaGreatDoor
set_option linter.unusedVariables false
set_option linter.unusedSimpArgs false
open Go Go.VC
theorem lastNum_snoc (c:Sc):∀ (l:List Sc) (p:Option Nat),lastNum p (l++[c])=some c.num
 |[],_=>rfl
 |_::l,_=>by rw [List.cons_append];exact lastNum_snoc c l _
theorem make_room (st:DS) (n:Nat) (next:Int):(makeD st n next).1.room=st.room:=by
 unfold makeD
 by_cases h:(appendD st (segName n) (headB n next)).2=0
 ·rw [thenD_ok h,sync_room,append_room]
 ·rw [thenD_err h,append_room]
theorem FineA.roll {x:WSt} {st:DS} {M:Lg→Prop} {av:List Sc} {c:Sc} {k:Nat} (f:FineA x st M av c k) (hn:c.num + 1≤99999999) (h0:0≤x.g.last) (h1:x.g.last≤1099511627776):
  ((rollW x st).2=0→∃ av' c' k',FineA { x with segs:=rollS x 0 } (rollW x st).1 M av' c' k'∧c'.num≤c.num + 1)∧((rollW x st).2≠0→FoundM (rollW x st).1 M)∧(rollW x st).1.room=st.room:=by
 have ht:=f.tail
 have hnum:c.sg.num=c.num:=rfl
 by_cases hroll:¬ x.lim≤(tailS x.segs).size
 ·have hrw:rollW x st=(st,0):=by unfold rollW;rw [if_neg hroll]
  have hx:rollS x 0=x.segs:=by unfold rollS;rw [if_neg fun h=>hroll h.1]
  rw [hrw,hx]
  exact ⟨fun _=>⟨av,c,k,⟨f.o,f.ch,f.sg,f.hk,f.mem⟩,by omega⟩,fun h=>absurd rfl h,rfl⟩
 have hroll:x.lim≤(tailS x.segs).size:=Classical.not_not.1 hroll
 have hrw:rollW x st=thenD (syncD st (segName c.num)) fun st=>makeD st (c.num + 1) (x.g.last + 1):=by
  unfold rollW
  rw [if_pos hroll,ht];rfl
 have hrs:rollS x 0=x.segs++[⟨c.num + 1,x.g.last + 1,(headB (c.num + 1) (x.g.last + 1)).length⟩]:=by
  unfold rollS
  rw [if_pos ⟨hroll,rfl⟩,ht];rfl
 rw [hrw,hrs]
 obtain ⟨fs1,fs2⟩:=f.sync
 by_cases hs:¬ (syncD st (segName c.num)).2=0
 ·rw [thenD_err hs]
  exact ⟨fun h=>absurd h hs,fun _=>fs2 hs,sync_room _ _⟩
 have hs:=Classical.not_not.1 hs
 rw [thenD_ok hs]
 have f1:=fs1 hs
 have hsr:=sync_room st (segName c.num)
 obtain ⟨st1,hst1⟩:∃ s,s=(syncD st (segName c.num)).1:=⟨_,rfl⟩
 rw [←hst1] at f1 hsr ⊢
 obtain ⟨c2,hc2⟩:∃ c2:Sc,c2=⟨c.num + 1,x.g.last + 1,[]⟩:=⟨_,rfl⟩
 have hc2b:c2.bytes=headB (c.num + 1) (x.g.last + 1):=by rw [hc2];unfold Sc.bytes Sc.recs;rw [recsB_one];rfl
 have hoc2:c2.Ok:=by rw [hc2];exact ⟨by simp,by simp only;omega,by simp only;omega,by simp only;omega,fun b hb=>by cases hb⟩
 have hch2:Chain none ⟨0,[]⟩ ((av++[c])++[c2]) x.g:=by
  refine f1.ch.app ?_
  rw [lastNum_snoc]
  exact .more hoc2 (by rw [hc2]) (by rw [hc2]) (by rw [hc2];rfl) .nil
 have hne2:∀ s∈av++[c],segName s.num≠segName (c.num + 1):=fun s hs he=>by
  have hnn:=hch2.nums.2
  rw [List.pairwise_append] at hnn
  have h1:=hnn.2.2 s hs c2 (List.mem_singleton.2 rfl)
  rw [hc2] at h1
  simp only at h1
  have:=seg_inj (chain_bd f.ch s hs).2 (by omega) he
  omega
 have hnone:getM (segName (c.num + 1)) st1.fs=none:=by
  rcases hg:getM (segName (c.num + 1)) st1.fs with _|v
  ·rfl
  ·obtain ⟨s,hs,he⟩:=f1.o.only (segName (c.num + 1)) (by rw [hg];simp)
   exact absurd he.symm (hne2 s hs)
 have hself:M x.g:=f.self
 have hmono:∀ g,(fun g=>g=x.g) g→M g:=fun g h=>by rw [show g=x.g from h];exact hself
 obtain ⟨b,hb⟩:∃ b,b=headB (c.num + 1) (x.g.last + 1):=⟨_,rfl⟩
 have hmk:makeD st1 (c.num + 1) (x.g.last + 1)=thenD (appendD st1 (segName (c.num + 1)) b) fun st=>syncD st (segName (c.num + 1)):=by rw [hb];rfl
 have hmr:=make_room st1 (c.num + 1) (x.g.last + 1)
 rw [hmk] at hmr ⊢
 by_cases ha:¬ (appendD st1 (segName (c.num + 1)) b).2=0
 ·rw [thenD_err ha] at hmr ⊢
  exact ⟨fun h=>absurd h ha,fun _=>(f1.found.fs (append_err ha) (append_room _ _ _)).mono hmono,by rw [hmr,hsr]⟩
 have ha:=Classical.not_not.1 ha
 rw [thenD_ok ha] at hmr ⊢
 have hga:=append_new hnone ha
 have har:=append_room st1 (segName (c.num + 1)) b
 have hia:=appendD_inv f1.o.inv (segName (c.num + 1)) b
 have hoa:∀ s∈av++[c],getM (segName s.num) (appendD st1 (segName (c.num + 1)) b).1.fs=some ⟨s.bytes,s.bytes.length⟩:=fun s hs=>by
  rw [append_get (hne2 s hs)]
  rcases List.mem_append.1 hs with hs|hs
  ·exact f1.o.old s hs
  ·rw [List.mem_singleton.1 hs];exact f1.o.last
 have hony:∀ q,getM q (appendD st1 (segName (c.num + 1)) b).1.fs≠none→∃ s∈(av++[c])++[c2],q=segName s.num:=fun q hq=>by
  by_cases hqk:q=segName (c.num + 1)
  ·exact ⟨c2,by simp,by rw [hc2];exact hqk⟩
  ·rw [append_get hqk] at hq
   obtain ⟨s,hs,rfl⟩:=f1.o.only q hq
   exact ⟨s,List.mem_append_left _ hs,rfl⟩
 obtain ⟨st2,hst2⟩:∃ s,s=(appendD st1 (segName (c.num + 1)) b).1:=⟨_,rfl⟩
 rw [←hst2] at hga har hia hoa hony hmr ⊢
 have hon:OnD st2 (av++[c]) c2 0:=⟨hia,hoa,by rw [hc2b,←hb,hc2];exact hga,hony⟩
 have hn2:segName c2.num=segName (c.num + 1):=by rw [hc2]
 by_cases hss:¬ (syncD st2 (segName (c.num + 1))).2=0
 ·refine ⟨fun h=>absurd h hss,fun _=>?_,by rw [hmr,hsr]⟩
  refine FoundM.fs (st:=st2) (fun keep lim h2 h3 hr=>?_) (sync_err hss) (sync_room _ _)
  obtain ⟨m,oc⟩:=hon.crash hch2 keep
  have htc:total (crashD st2 keep).fs≤total st2.fs:=crashL_total _ _ _
  obtain ⟨cs,hcs,hf⟩:=crash_torn oc hch2 f1.ch (by rw [hc2]) (by simp) h2 h3 (by show 2 * total (crashD st2 keep).fs≤st2.room;omega)
  have hsz:=f1.sizes
  have hc2sz:(c2.bytes.length:Int)≤st2.room:=by have h1:=total_le hon.last;have h2:=hon.inv.full;simp only at h1;omega
  rcases hcs with rfl|rfl
  ·exact ⟨x.g,_,hself,f1.ch,by simp,fun s hs=>by rw [har];exact hsz s hs,hf⟩
  ·refine ⟨x.g,_,hself,hch2,by simp,fun s hs=>?_,hf⟩
   rcases List.mem_append.1 hs with hs|hs
   ·rw [har];exact hsz s hs
   ·rw [List.mem_singleton.1 hs];exact hc2sz
 have hss:=Classical.not_not.1 hss
 refine ⟨fun _=>⟨av++[c],c2,c2.bytes.length,⟨⟨sync_inv hia _,fun s hs=>by rw [sync_get (hne2 s hs)];exact hoa s hs,?_,fun q hq=>?_⟩,hch2,?_,by rw [hc2b,hc2];exact Nat.le_refl _,fun j g3 hj hmax hch=>?_⟩,by rw [hc2];exact Nat.le_refl _⟩,fun h=>absurd hss h,by rw [hmr,hsr]⟩
 ·rw [hn2,sync_done hga hss,hc2b,hb]
 ·by_cases hqk:q=segName (c.num + 1)
  ·exact ⟨c2,by simp,by rw [hc2];exact hqk⟩
  ·rw [sync_get hqk] at hq;exact hony q hq
 ·show x.segs++_=_
  rw [f.sg,List.map_append (l₁:=av++[c])]
  simp only [List.map_cons,List.map_nil,Sc.sg,hc2b]
  rw [hc2]
 ·have hcc:(⟨c2.num,c2.next,c2.bs.take j⟩:Sc)=c2:=by rw [hc2];simp
  rw [hcc] at hch
  rw [chain_det hch hch2];exact hself
end Go.Proofs.YtkfedbncmfnpnaaGreatDoor
/- A log on a disk: what may be found behind a crash, where entries are put behind; how many bytes there are; plain. No program. Condition: none. -/
namespace Go.Proofs.YtkfedbncmfnpnaaGreatDoor
set_option linter.unusedVariables false
set_option linter.unusedSimpArgs false
open Go Go.VC
theorem doing_tot {st:DS} {ok:Bool} {g:DS→DS × Int} {z:Int} (hz:0≤z) (h:∀ st',total (g st').1.fs≤total st'.fs + z):total (doing st ok g).1.fs≤total st.fs + z:=by
 unfold doing
 have hf:=(chg_fs st ok).1
 split
 ·have:=h (chg st ok).1;rw [hf] at this;exact this
 ·rw [hf];omega
theorem append_tot (st:DS) (k:ByteArray) (xs:List Int):total (appendD st k xs).1.fs≤total st.fs + xs.length:=by
 refine doing_tot (by omega) fun st'=>?_
 unfold appendG
 split
 ·simp only;omega
 ·have:=putB_total k xs st'.fs;simp only;omega
theorem sync_tot (st:DS) (k:ByteArray):total (syncD st k).1.fs≤total st.fs:=by
 have:=doing_tot (st:=st) (ok:=nameOk k) (g:=syncG k) (z:=0) (by omega) fun st'=>by
  unfold syncG
  split
  ·have:=updM_total (k:=k) (g:=fun f:Fl=>{ f with sure:=f.b.length }) (fun _=>rfl) st'.fs
   simp only
   omega
  ·simp only;omega
 have e:syncD st k=doing st (nameOk k) (syncG k):=rfl
 rw [e]
 omega
theorem make_tot (st:DS) (n:Nat) (next:Int) (hn:n≤99999999) (h1:next≤1099511627777):total (makeD st n next).1.fs≤total st.fs + 21:=by
 have hbl:(headB n next).length≤21:=by unfold headB;rw [recB_len];have:=hdB_len hn h1;omega
 have ha:=append_tot st (segName n) (headB n next)
 unfold makeD
 by_cases h:(appendD st (segName n) (headB n next)).2=0
 ·rw [thenD_ok h];have:=sync_tot (appendD st (segName n) (headB n next)).1 (segName n);omega
 ·rw [thenD_err h];omega
theorem roll_tot (x:WSt) (st:DS) (hn:(tailS x.segs).num + 1≤99999999) (h1:x.g.last≤1099511627776):total (rollW x st).1.fs≤total st.fs + 21:=by
 unfold rollW
 split
 ·have hs:=sync_tot st (segName (tailS x.segs).num)
  by_cases h:(syncD st (segName (tailS x.segs).num)).2=0
  ·rw [thenD_ok h];have:=make_tot (syncD st (segName (tailS x.segs).num)).1 ((tailS x.segs).num + 1) (x.g.last + 1) hn (by omega);omega
  ·rw [thenD_err h];omega
 ·simp only;omega
theorem put_tot (x:WSt) (st:DS) (b:List Int) (g:Lg):total (putW x st b g).1.1.fs≤total st.fs + b.length:=by
 unfold putW
 split<;>exact append_tot _ _ _
theorem roll_g (x:WSt):({ x with segs:=rollS x 0 }:WSt).g=x.g:=rfl
theorem put_g {x:WSt} {st:DS} {b:List Int} {g:Lg} (h:(putW x st b g).1.2=0):(putW x st b g).2.g=g:=by
 unfold putW at h ⊢
 split
 ·rfl
 ·rename_i hd;rw [if_neg hd] at h;exact absurd h hd
theorem FineA.add {x:WSt} {st:DS} {M:Lg→Prop} {av:List Sc} {c:Sc} {k:Nat} {e:Ey} (f:FineA x st M av c k) (hn:c.num + 1≤99999999) (h0:0≤x.g.last) (ho:e.Ok) (hb:∀ y∈e.dt,0≤y∧y<256) (hi:e.ix=x.g.last + 1) (hM:M ⟨x.g.base,x.g.l++[e]⟩):
  ((addW x st e).1.2=0→∃ av' c' k',FineA (addW x st e).2 (addW x st e).1.1 M av' c' k'∧c'.num≤c.num + 1)∧((addW x st e).1.2≠0→FoundM (addW x st e).1.1 M)∧(addW x st e).1.1.room=st.room∧total (addW x st e).1.1.fs≤total st.fs + (50 + e.dt.length):=by
 have hi1:=ho.i1
 have hle:=entB_len ho
 obtain ⟨r1,r2,r3⟩:=f.roll hn h0 (by omega)
 have hnum:(tailS x.segs).num=c.num:=by rw [f.tail];rfl
 have rt:=roll_tot x st (by omega) (by omega)
 unfold addW
 by_cases h:(rollW x st).2≠0
 ·rw [if_pos h];exact ⟨fun h2=>absurd h2 h,fun _=>r2 h,r3,by simp only;omega⟩
 ·rw [if_neg h]
  obtain ⟨av',c',k',f',hc'⟩:=r1 (Classical.not_not.1 h)
  obtain ⟨p1,p2,p3⟩:=f'.put (b:=entB e) (g:=⟨x.g.base,x.g.l++[e]⟩) (entB_ok ho hb) (by rw [roll_g,change_ent ho,if_pos hi]) hM
  have pt:=put_tot { x with segs:=rollS x 0 } (rollW x st).1 (recB (entB e)) ⟨x.g.base,x.g.l++[e]⟩
  rw [recB_len] at pt
  exact ⟨fun h2=>⟨_,_,_,p1 h2,hc'⟩,p2,by rw [p3,r3],by omega⟩
theorem adds_fine {M:Lg→Prop}:∀ {l:List Ey} {x:WSt} {st:DS} {av:List Sc} {c:Sc} {k:Nat},FineA x st M av c k→c.num + l.length≤99999998→0≤x.g.last→EsOk (x.g.last + 1) l→(∀ i,i≤l.length→M ⟨x.g.base,x.g.l++l.take i⟩)→
  ((addsW x st l).1.2=0→∃ av' c' k',FineA (addsW x st l).2 (addsW x st l).1.1 M av' c' k'∧c'.num≤c.num + l.length∧(addsW x st l).2.g=⟨x.g.base,x.g.l++l⟩)∧((addsW x st l).1.2≠0→FoundM (addsW x st l).1.1 M)∧(addsW x st l).1.1.room=st.room∧total (addsW x st l).1.1.fs≤total st.fs + costE l
 |[],x,st,av,c,k,f,_,_,_,_=>⟨fun _=>⟨av,c,k,f,by simp,by simp [addsW]⟩,fun h=>absurd rfl h,rfl,by simp [addsW,costE]⟩
 |e::l,x,st,av,c,k,f,hn,h0,hl,hM=>by
  simp only [List.length_cons] at hn
  have hce:costE (e::l)=50 + e.dt.length + costE l:=by simp [costE]
  have hcn:0≤costE l:=by rw [costE_eq];have:=sumD_nn l;omega
  have hek:=hl.ok e (List.mem_cons_self ..)
  have h1:=hl.fol 0 (by simp)
  simp only [List.getElem_cons_zero] at h1
  obtain ⟨a1,a2,a3,a4⟩:=f.add (by omega) h0 hek.1 hek.2 (by omega) (by simpa using hM 1 (by simp))
  unfold addsW
  by_cases h:(addW x st e).1.2≠0
  ·rw [if_pos h];exact ⟨fun h2=>absurd h2 h,fun _=>a2 h,a3,by omega⟩
  ·rw [if_neg h]
   have h:=Classical.not_not.1 h
   obtain ⟨av',c',k',f',hc'⟩:=a1 h
   have hg:=addW_ok h
   have hl2:=(EsOk.app (a:=[e]) (b:=l) hl).2
   have hlast:(addW x st e).2.g.last=x.g.last + 1:=by rw [hg];unfold Lg.last;simp;omega
   obtain ⟨b1,b2,b3,b4⟩:=adds_fine (l:=l) f' (by omega) (by omega) (by rw [hlast];simpa using hl2) (fun i hi=>by
    have:=hM (i + 1) (by simp;omega)
    rw [hg]
    simpa using this)
   refine ⟨fun h2=>?_,b2,by rw [b3,a3],by omega⟩
   obtain ⟨av2,c2,k2,f2,hc2,hg2⟩:=b1 h2
   refine ⟨av2,c2,k2,f2,by simp;omega,?_⟩
   rw [hg2,hg]
   simp
end Go.Proofs.YtkfedbncmfnpnaaGreatDoor
/- A log on a disk: the logs that steps ask for, and that one of them is found behind a crash; plain. No program. Condition: none. -/
namespace Go.Proofs.YtkfedbncmfnpnaaGreatDoor
set_option linter.unusedVariables false
set_option linter.unusedSimpArgs false
open Go Go.VC
open Classical
noncomputable def laterApp:Lg→List Ey→List Lg
 |_,[]=>[]
 |g,e::l=>if e.Ok∧e.ix=g.last + 1 then ⟨g.base,g.l++[e]⟩::laterApp ⟨g.base,g.l++[e]⟩ l else []
def laterCut (g:Lg) (n:Int):List Lg:=if g.base<n∧n≤g.last then [⟨g.base,g.l.take (n - 1 - g.base).toNat⟩] else []
theorem later_mem:∀ {l:List Ey} {g:Lg},EsOk (g.last + 1) l→∀ i,i<l.length→(⟨g.base,g.l++l.take (i + 1)⟩:Lg)∈laterApp g l
 |e::l,g,h,i,hi=>by
  have hek:=h.ok e (List.mem_cons_self ..)
  have h1:=h.fol 0 (by simp)
  simp only [List.getElem_cons_zero] at h1
  unfold laterApp
  rw [if_pos ⟨hek.1,by omega⟩]
  cases i with
  |zero=>simp
  |succ i=>
   have hl2:=(EsOk.app (a:=[e]) (b:=l) h).2
   have hlast:(⟨g.base,g.l++[e]⟩:Lg).last=g.last + 1:=by unfold Lg.last;simp;omega
   have:=later_mem (l:=l) (g:=⟨g.base,g.l++[e]⟩) (by rw [hlast];simpa using hl2) i (by simpa using hi)
   refine List.mem_cons_of_mem _ ?_
   simpa using this
theorem later_last:∀ {l:List Ey} {g:Lg} {m:List Lg},EsOk (g.last + 1) l→m.getLast? =some g→(m++laterApp g l).getLast? =some ⟨g.base,g.l++l⟩
 |[],g,m,_,hm=>by simp [laterApp,hm]
 |e::l,g,m,h,hm=>by
  have hek:=h.ok e (List.mem_cons_self ..)
  have h1:=h.fol 0 (by simp)
  simp only [List.getElem_cons_zero] at h1
  unfold laterApp
  rw [if_pos ⟨hek.1,by omega⟩]
  have hl2:=(EsOk.app (a:=[e]) (b:=l) h).2
  have hlast:(⟨g.base,g.l++[e]⟩:Lg).last=g.last + 1:=by unfold Lg.last;simp;omega
  have:=later_last (l:=l) (g:=⟨g.base,g.l++[e]⟩) (m:=m++[⟨g.base,g.l++[e]⟩]) (by rw [hlast];simpa using hl2) (by simp)
  simpa using this
def LW (x:WSt) (st:DS) (may:List Lg) (B:Nat):Prop:=
 (x.brk=false∧(∃ av c k,FineA x st (·∈may) av c k∧c.num≤B)∧may.getLast? =some x.g)∨(x.brk=true∧FoundM st (·∈may))
theorem LW.found {x:WSt} {st:DS} {may:List Lg} {B:Nat} (h:LW x st may B):FoundM st (·∈may):=by
 rcases h with ⟨_,⟨av,c,k,f,_⟩,_⟩|⟨_,h⟩
 ·exact f.found
 ·exact h
theorem LW.le {x:WSt} {st:DS} {may:List Lg} {B C:Nat} (h:LW x st may B) (hb:B≤C):LW x st may C:=by
 rcases h with ⟨h1,⟨av,c,k,f,hc⟩,h2⟩|h
 ·exact .inl ⟨h1,⟨av,c,k,f,by omega⟩,h2⟩
 ·exact .inr h
theorem LW.fs {x:WSt} {st st':DS} {may:List Lg} {B:Nat} (h:LW x st may B) (i:Inv st') (e:st'.fs=st.fs) (r:st'.room=st.room):LW x st' may B:=by
 rcases h with ⟨h1,⟨av,c,k,f,hc⟩,h2⟩|⟨h1,h2⟩
 ·exact .inl ⟨h1,⟨av,c,k,⟨f.o.fs i e,f.ch,f.sg,f.hk,f.mem⟩,hc⟩,h2⟩
 ·exact .inr ⟨h1,h2.fs e r⟩
theorem LW.append {x:WSt} {st:DS} {may:List Lg} {B:Nat} {l:List Ey} (h:LW x st may B) (hby:∀ e∈l,∀ y∈e.dt,0≤y∧y<256) (hn:B + l.length≤99999998) (h0:0≤x.g.last):
  (((appendW x st l).1.2=1∨(appendW x st l).1.2=7∨(appendW x st l).1.2=8)∧(appendW x st l).1.1=st∧(appendW x st l).2=x)∨
  (x.brk=false∧may.getLast? =some x.g∧LW (appendW x st l).2 (appendW x st l).1.1 (may++laterApp x.g l) (B + l.length)∧(appendW x st l).1.1.room=st.room∧total (appendW x st l).1.1.fs≤total st.fs + costE l):=by
 unfold appendW
 by_cases hb:x.brk=true
 ·rw [if_pos hb];exact .inl ⟨.inr (.inr rfl),rfl,rfl⟩
 ·rw [if_neg hb]
  by_cases h1:¬ ∀ e∈l,e.Ok
  ·rw [if_pos h1];exact .inl ⟨.inl rfl,rfl,rfl⟩
  ·rw [if_neg h1]
   by_cases h2:¬ Follows (x.g.last + 1) l
   ·rw [if_pos h2];exact .inl ⟨.inr (.inl rfl),rfl,rfl⟩
   ·rw [if_neg h2]
    have hok:EsOk (x.g.last + 1) l:=⟨fun e he=>⟨Classical.not_not.1 h1 e he,hby e he⟩,Classical.not_not.1 h2⟩
    rcases h with ⟨hbf,⟨av,c,k,f,hc⟩,hl⟩|⟨hbt,_⟩
    ·right
     have hg:x.g∈may:=f.self
     have f':FineA x st (·∈may++laterApp x.g l) av c k:=f.mono fun g h=>List.mem_append_left _ h
     obtain ⟨a1,a2,a3,a4⟩:=adds_fine (l:=l) f' (by omega) h0 hok (fun i hi=>by
      cases i with
      |zero=>simp only [List.take_zero,List.append_nil];exact List.mem_append_left _ hg
      |succ i=>exact List.mem_append_right _ (later_mem hok i (by omega)))
     refine ⟨hbf,hl,?_,a3,a4⟩
     unfold doesW
     by_cases hz:(addsW x st l).1.2=0
     ·obtain ⟨av',c',k',f2,hc2,hg2⟩:=a1 hz
      refine .inl ⟨by simp [hz],⟨av',c',k',⟨f2.o,f2.ch,f2.sg,f2.hk,f2.mem⟩,by omega⟩,?_⟩
      show _=some (addsW x st l).2.g
      rw [hg2]
      exact later_last hok hl
     ·exact .inr ⟨by simp [hz],a2 hz⟩
    ·exact absurd hbt hb
theorem LW.put {x:WSt} {st:DS} {may:List Lg} {B:Nat} {b:List Int} {g:Lg} (h:LW x st may B) (hbf:x.brk=false) (hb:BodyOk b) (hg:changeL x.g b=some g):
  LW (doesW (putW x st (recB b) g)).2 (doesW (putW x st (recB b) g)).1.1 (may++[g]) B∧(doesW (putW x st (recB b) g)).1.1.room=st.room∧total (doesW (putW x st (recB b) g)).1.1.fs≤total st.fs + (recB b).length:=by
 rcases h with ⟨_,⟨av,c,k,f,hc⟩,hl⟩|⟨hbt,_⟩
 ·have f':FineA x st (·∈may++[g]) av c k:=f.mono fun g h=>List.mem_append_left _ h
  obtain ⟨a1,a2,a3⟩:=f'.put hb hg (by simp)
  refine ⟨?_,a3,put_tot _ _ _ _⟩
  unfold doesW
  by_cases hz:(putW x st (recB b) g).1.2=0
  ·refine .inl ⟨by simp [hz],⟨av,_,k,⟨(a1 hz).o,(a1 hz).ch,(a1 hz).sg,(a1 hz).hk,(a1 hz).mem⟩,hc⟩,?_⟩
   show _=some (putW x st (recB b) g).2.g
   rw [put_g hz]
   simp
  ·exact .inr ⟨by simp [hz],a2 hz⟩
 ·rw [hbf] at hbt;cases hbt
theorem LW.sync {x:WSt} {st:DS} {may:List Lg} {B:Nat} (h:LW x st may B):
  ((syncW x st).1.2=0→LW (syncW x st).2 (syncW x st).1.1 [x.g] B∧may.getLast? =some x.g)∧((syncW x st).1.2≠0→LW (syncW x st).2 (syncW x st).1.1 may B)∧(syncW x st).1.1.room=st.room∧total (syncW x st).1.1.fs≤total st.fs:=by
 unfold syncW
 rcases h with ⟨hbf,⟨av,c,k,f,hc⟩,hl⟩|⟨hbt,hf⟩
 ·rw [if_neg (by simp [hbf])]
  have hn:(tailS x.segs).num=c.num:=by rw [f.tail];rfl
  rw [hn]
  obtain ⟨a1,a2⟩:=f.sync
  unfold doesW
  refine ⟨fun hz=>⟨.inl ⟨by simp only at hz ⊢;simp [hz],⟨av,c,_,⟨(a1 hz).o,(a1 hz).ch,(a1 hz).sg,(a1 hz).hk,fun j g3 p q r=>by simpa using (a1 hz).mem j g3 p q r⟩,hc⟩,rfl⟩,hl⟩,fun hz=>.inr ⟨by simp only at hz ⊢;simp [hz],a2 hz⟩,sync_room _ _,sync_tot _ _⟩
 ·rw [if_pos hbt]
  exact ⟨fun h=>absurd h (by show ¬ (8:Int)=0;decide),fun _=>.inr ⟨hbt,hf⟩,rfl,Int.le_refl _⟩
end Go.Proofs.YtkfedbncmfnpnaaGreatDoor
/- A log on a disk: lists of steps, only read; how much is handed. Condition: none. -/
namespace Go.Proofs.YtkfedbncmfnpnaaGreatDoor
set_option linter.unusedVariables false
set_option linter.unusedSimpArgs false
open Go Go.VC
variable {R R':Cx} {Hs Rest:List HP} {w:World}
structure StE where
 d:Int
 n:Int
 most:Int
 sl:Sl
 sk:Sl
 dl:List DE4
 keep:List Int
abbrev stV (e:StE):List Value:=[.int .i64 e.d,.int .i64 e.n,.int .i64 e.most,.slice e.sl.a e.sl.len e.sl.cap,.slice e.sk.a e.sk.len e.sk.cap]
structure StR (R:Cx) (s:Sl) (es:List StE):Prop where
 rows:RoN 5 R s (es.map stV)
 ents:∀ e∈es,EsR R e.sl e.dl
 keeps:∀ e∈es,RoI R e.sk e.keep
 light:∀ e∈es,∀ q∈e.dl,q.2.dt.length≤140737488351232
end Go.Proofs.YtkfedbncmfnpnaaGreatDoor
/- A log on a disk: lists of entries compared; Cut and Reset, told by the logs asked for. Condition: none. -/
namespace Go.Proofs.YtkfedbncmfnpnaaGreatDoor
set_option linter.unusedVariables false
set_option linter.unusedSimpArgs false
open Go Go.VC
variable {R R':Cx} {Hs Rest:List HP} {w:World}
theorem LW.cut {x:WSt} {st:DS} {may:List Lg} {B:Nat} (h:LW x st may B) (n:Int) (h0:0≤x.g.base) (h1:x.g.last≤1099511627776):
  (((cutW x st n).1.2=1∨(cutW x st n).1.2=7∨(cutW x st n).1.2=8)∧(cutW x st n).1.1=st∧(cutW x st n).2=x)∨
  (x.brk=false∧may.getLast? =some x.g∧LW (cutW x st n).2 (cutW x st n).1.1 (may++laterCut x.g n) B∧(cutW x st n).1.1.room=st.room∧total (cutW x st n).1.1.fs≤total st.fs + 17):=by
 unfold cutW
 by_cases hb:x.brk=true
 ·rw [if_pos hb];exact .inl ⟨.inr (.inr rfl),rfl,rfl⟩
 ·rw [if_neg hb]
  have hbf:x.brk=false:=by simpa using hb
  have hl:may.getLast? =some x.g:=by
   rcases h with ⟨_,_,hl⟩|⟨ht,_⟩
   ·exact hl
   ·exact absurd ht hb
  by_cases h2:n≤x.g.base∨n>x.g.last + 1
  ·rw [if_pos h2];exact .inl ⟨.inr (.inl rfl),rfl,rfl⟩
  ·rw [if_neg h2]
   by_cases h3:n=x.g.last + 1
   ·rw [if_pos h3]
    refine .inr ⟨hbf,hl,?_,rfl,by simp only;omega⟩
    unfold laterCut
    rw [if_neg (by omega),List.append_nil]
    exact h
   ·rw [if_neg h3]
    have hg:changeL x.g (cutB n)=some ⟨x.g.base,x.g.l.take (n - 1 - x.g.base).toNat⟩:=by
     rw [change_cut (by omega) (by omega)]
     unfold cutTo
     rw [if_neg (by omega),if_pos (by omega)]
    obtain ⟨p1,p2,p3⟩:=h.put hbf (cutB_ok (by omega)) hg
    have hcl:=cutB_len (i:=n) (by omega)
    refine .inr ⟨hbf,hl,?_,p2,by rw [recB_len] at p3;omega⟩
    unfold laterCut
    rw [if_pos (by omega)]
    exact p1
end Go.Proofs.YtkfedbncmfnpnaaGreatDoor
/- The arguments that are lists of steps. No condition. -/
namespace Go.Proofs.YtkfedbncmfnpnaaGreatDoor
set_option linter.unusedVariables false
set_option linter.unusedSimpArgs false
open Go Go.VC Go.ChangeShapes Go.WideShapes Go.ChangeAt Go.RowKit
variable {H:Type} {enc:TypeId × Value→H} {P:Program} {W:World} {r:Reach} {b0:Nat} {v:Value} {d:DataW H} {p:List MemPlace} {spare:Nat→Bool} {held:Bool}
structure StQ (R:Cx) (e:StE):Prop where
 ents:EsR R e.sl e.dl
 keeps:RoI R e.sk e.keep
 n: -9223372036854775808≤e.n∧e.n<9223372036854775808
end Go.Proofs.YtkfedbncmfnpnaaGreatDoor
/- The formulas of functions of this seat's translation, printed by a program of mine off the translation; each is proved equal to 'fnF' of the function's body, so it is enough for the call. No condition. -/
namespace Go.Proofs.YtkfedbncmfnpnaaGreatDoor
open Go Go.VC
set_option linter.unusedVariables false
set_option maxRecDepth 10000
def B30 (i:Int) (c:Sl) (K:Value→World→Prop) (w:World):Prop:=
 New (.cells #[.int .i64 i,.slice c.a c.len c.cap] 59 (0,0)) (fun f e=>
 ∃ g:Int,(At (fun d=>d=e) ⟨f,0,none⟩ [.int .i64 g])∧
 ∃ b:Sl,(At (fun d=>d=e) ⟨f,0 + 1,none⟩ [.slice b.a b.len b.cap])∧
 K (.int .i64 (IntKind.i64.wrap (g + (↑b.len:Int)))) e) w
theorem call30 (c:Int) (b:Sl) (K:Value→World→Prop) (w:World) (h:B30 c b K w):Gets Tryz.prog 30 #[.agg #[.int .i64 c,.slice b.a b.len b.cap]] w K:=cq (sk:=.leaf) Tryz.func30 (by kernel_rfl) (by kernel_rfl) (by kernel_rfl) h
end Go.Proofs.YtkfedbncmfnpnaaGreatDoor


/- Reference 06: Copy. Condition: bounds on lengths. -/
namespace Go.Proofs.YtkfedbncmfnpnaaGreatDoor
set_option linter.unusedVariables false
set_option linter.unusedSimpArgs false
open Go Go.VC
variable {R R':Cx} {Hs Rest:List HP} {w:World}
theorem allTruA {Hs:List HP}:∀ {R:Cx},Sat R Hs w→Sat R [VC.tru] w:=by
 induction Hs with
 |nil=>exact fun h=>h.tru
 |cons A Hs ih=>exact fun h=>Sat.absorb (h.cons fun _ h=>ih h)
end Go.Proofs.YtkfedbncmfnpnaaGreatDoor
/- Later logs: Cut, Reset (Append: not done). Condition: bounds on lengths. -/
namespace Go.Proofs.YtkfedbncmfnpnaaGreatDoor
set_option linter.unusedVariables false
set_option linter.unusedSimpArgs false
open Go Go.VC
open Classical
variable {R R':Cx} {Hs Rest:List HP} {w:World}
abbrev LgE:=Int × Sl × List DE4
def LgR (R:Cx) (e:LgE):Prop:=RoN 4 R e.2.1 (e.2.2.map eRow)∧DsR R e.2.2∧e.2.1.len≤e.2.1.cap
theorem LgR.ext {e:LgE} (h:LgR R e) (x:R.Ext R'):LgR R' e:=⟨x.roN h.1,h.2.1.ext x,h.2.2⟩
end Go.Proofs.YtkfedbncmfnpnaaGreatDoor


/- A log on a disk: bounds behind steps; plain. No program. Condition: none. -/
namespace Go.Proofs.YtkfedbncmfnpnaaGreatDoor
set_option linter.unusedVariables false
set_option linter.unusedSimpArgs false
open Go Go.VC
variable {x:WSt} {st:DS} {k:Nat}
structure LB (x:WSt) (st:DS) (k:Nat):Prop where
 wbk:WBk x k
 inv:Inv st
 by':ByOk st.fs
 files:st.fs.length≤1 + k
 last:x.g.last≤1099511627776
theorem LB.mono {j:Nat} (b:LB x st k) (h:k≤j):LB x st j:=⟨b.wbk.mono h,b.inv,b.by',by have:=b.files;omega,b.last⟩
theorem byt_rec {b:List Int} (h:BodyOk b):Byt (recB b):=recB_bd h.2
theorem by_then {x:DS × Int} {f:DS→DS × Int} (hx:ByOk x.1.fs) (hf:∀ st,ByOk st.fs→ByOk (f st).1.fs):ByOk (thenD x f).1.fs:=by
 unfold thenD;split
 ·exact hf _ hx
 ·exact hx
theorem by_make {st:DS} (h:ByOk st.fs) {n:Nat} {next:Int} (hn:n≤99999999) (h1:next≤1099511627777):ByOk (makeD st n next).1.fs:=
 by_then (by_append h _ (byt_rec (hdB_ok hn h1))) fun _ h=>by_sync h _
theorem make_len (st:DS) (n:Nat) (next:Int):(makeD st n next).1.fs.length≤st.fs.length + 1:=by
 have ha:=append_len st (segName n) (headB n next)
 unfold makeD
 by_cases h:(appendD st (segName n) (headB n next)).2=0
 ·rw [thenD_ok h];have:=sync_len (appendD st (segName n) (headB n next)).1 (segName n);omega
 ·rw [thenD_err h];omega
theorem roll_by (b:LB x st k) (hk:k≤90000000):ByOk (rollW x st).1.fs:=by
 have ht:=b.wbk.tail
 have hl:=b.last
 unfold rollW
 split
 ·exact by_then (by_sync b.by' _) fun st h=>by_make h (by omega) (by omega)
 ·exact b.by'
theorem roll_len (x:WSt) (st:DS):(rollW x st).1.fs.length≤st.fs.length + 1:=by
 unfold rollW
 split
 ·have hs:=sync_len st (segName (tailS x.segs).num)
  by_cases h:(syncD st (segName (tailS x.segs).num)).2=0
  ·rw [thenD_ok h];have:=make_len (syncD st (segName (tailS x.segs).num)).1 ((tailS x.segs).num + 1) (x.g.last + 1);omega
  ·rw [thenD_err h];omega
 ·simp only;omega
theorem put_by {st:DS} (h:ByOk st.fs) (x:WSt) {b:List Int} (hb:Byt b) (g:Lg):ByOk (putW x st b g).1.1.fs:=by
 unfold putW
 split<;>exact by_append h _ hb
theorem put_len (x:WSt) (st:DS) (b:List Int) (g:Lg):(putW x st b g).1.1.fs.length≤st.fs.length + 1:=by
 unfold putW
 split<;>exact append_len _ _ _
theorem put_inv {st:DS} (i:Inv st) (x:WSt) (b:List Int) (g:Lg):Inv (putW x st b g).1.1:=by
 unfold putW
 split<;>exact appendD_inv i _ _
theorem put_g2 (x:WSt) (st:DS) (b:List Int) (g:Lg):(putW x st b g).2.g=g∨(putW x st b g).2.g=x.g:=by
 unfold putW
 split
 ·exact .inl rfl
 ·exact .inr rfl
theorem add_g2 (x:WSt) (st:DS) (e:Ey):(addW x st e).2.g=⟨x.g.base,x.g.l++[e]⟩∨(addW x st e).2.g=x.g:=by
 unfold addW
 split
 ·exact .inr rfl
 ·exact put_g2 _ _ _ _
theorem LB.add (b:LB x st k) {e:Ey} (hok:e.Ok) (hb:∀ y∈e.dt,0≤y∧y<256) (hix:e.ix=x.g.last + 1) (hk:k≤90000000):LB (addW x st e).2 (addW x st e).1.1 (k + 2):=by
 have hi:=hok.i1
 have hl:=b.last
 have hf:=b.files
 refine ⟨b.wbk.add hok hix hk,addW_inv b.inv,?_,?_,?_⟩
 ·unfold addW
  split
  ·exact roll_by b hk
  ·exact put_by (roll_by b hk) _ (byt_rec (entB_ok hok hb)) _
 ·have h1:=roll_len x st
  unfold addW
  split
  ·simp only;omega
  ·have h2:=put_len { x with segs:=rollS x 0 } (rollW x st).1 (recB (entB e)) ⟨x.g.base,x.g.l++[e]⟩
   omega
 ·rcases add_g2 x st e with h|h
  ·rw [h]
   unfold Lg.last at *
   simp only [List.length_append,List.length_cons,List.length_nil]
   omega
  ·rw [h];exact hl
theorem LB.adds:∀ {l:List Ey} {x:WSt} {st:DS} {k:Nat},LB x st k→EsOk (x.g.last + 1) l→k + 2 * l.length≤90000000→LB (addsW x st l).2 (addsW x st l).1.1 (k + 2 * l.length)
 |[],x,st,k,b,_,_=>b
 |e::l,x,st,k,b,hl,hk=>by
  simp only [List.length_cons] at hk ⊢
  have hek:=hl.ok e (List.mem_cons_self ..)
  have h1:=hl.fol 0 (by simp)
  simp only [List.getElem_cons_zero] at h1
  have b1:=b.add hek.1 hek.2 (by omega) (by omega)
  unfold addsW
  by_cases h:(addW x st e).1.2≠0
  ·rw [if_pos h];exact b1.mono (by omega)
  ·rw [if_neg h]
   have hg:=addW_ok (Classical.not_not.1 h)
   have hl2:=(EsOk.app (a:=[e]) (b:=l) hl).2
   have hlast:(addW x st e).2.g.last=x.g.last + 1:=by rw [hg];unfold Lg.last;simp;omega
   exact (LB.adds b1 (by rw [hlast];simpa using hl2) (by omega)).mono (by omega)
theorem LB.does {r:(DS × Int) × WSt} (b:LB r.2 r.1.1 k):LB (doesW r).2 (doesW r).1.1 k:=
 ⟨⟨b.wbk.b0,b.wbk.b1,b.wbk.l1,b.wbk.s0,b.wbk.s1,b.wbk.n1⟩,b.inv,b.by',b.files,b.last⟩
theorem LB.append (b:LB x st k) {l:List Ey} (hby:∀ e∈l,∀ y∈e.dt,0≤y∧y<256) (hk:k + 2 * l.length≤90000000):LB (appendW x st l).2 (appendW x st l).1.1 (k + 2 * l.length):=by
 unfold appendW
 split
 ·exact b.mono (by omega)
 split
 ·exact b.mono (by omega)
 split
 ·exact b.mono (by omega)
 rename_i h1 h2
 exact LB.does (b.adds ⟨fun e he=>⟨Classical.not_not.1 h1 e he,hby e he⟩,Classical.not_not.1 h2⟩ hk)
theorem LB.put1 (b:LB x st k) {bs:List Int} {g:Lg} (hb:BodyOk bs) (hg:0≤g.base∧g.base≤1099511627776∧g.l.length≤100000000000 + (k + 1)) (hl:g.last≤1099511627776):
  LB (putW x st (recB bs) g).2 (putW x st (recB bs) g).1.1 (k + 1):=by
 have h1:=b.last
 have hf:=b.files
 refine ⟨b.wbk.put (by rw [recB_len];have:=hb.1;omega) hg (by omega),put_inv b.inv _ _ _,put_by b.by' _ (byt_rec hb) _,by have:=put_len x st (recB bs) g;omega,?_⟩
 rcases put_g2 x st (recB bs) g with h|h<;>rw [h]<;>assumption
theorem LB.cut (b:LB x st k) (n:Int):LB (cutW x st n).2 (cutW x st n).1.1 (k + 1):=by
 have hl:=b.last
 have h1:=b.wbk.l1
 have h0:=b.wbk.b0
 unfold cutW
 split
 ·exact b.mono (by omega)
 split
 ·exact b.mono (by omega)
 split
 ·exact b.mono (by omega)
 rename_i h2 h3
 refine LB.does (b.put1 (cutB_ok (by omega)) ⟨b.wbk.b0,b.wbk.b1,by simp only [List.length_take];omega⟩ ?_)
 unfold Lg.last at *
 simp only [List.length_take]
 omega
theorem LB.sync (b:LB x st k):LB (syncW x st).2 (syncW x st).1.1 k:=by
 unfold syncW
 split
 ·exact b
 ·exact LB.does (r:=(syncD st (segName (tailS x.segs).num),x)) ⟨b.wbk,sync_inv b.inv _,by_sync b.by' _,by have:=b.files;have:=sync_len st (segName (tailS x.segs).num);simp only;omega,b.last⟩
end Go.Proofs.YtkfedbncmfnpnaaGreatDoor
/- The logs asked for: what they have; a list of logs, its last one. Condition: none. -/
namespace Go.Proofs.YtkfedbncmfnpnaaGreatDoor
set_option linter.unusedVariables false
set_option linter.unusedSimpArgs false
open Go Go.VC
open Classical
variable {R R':Cx} {Hs Rest:List HP} {w:World}
structure LgG (q:LgE) (N:Nat):Prop where
 b:0≤q.1∧q.1≤1099511627776
 len:q.2.2.length≤N
 ents:∀ e∈erE q.2.2,e.dt.length≤4096∧∀ y∈e.dt,0≤y∧y<256
theorem LgG.mono {q:LgE} {N M:Nat} (h:LgG q N) (hm:N≤M):LgG q M:=⟨h.b,by have:=h.len;omega,h.ents⟩
end Go.Proofs.YtkfedbncmfnpnaaGreatDoor
/- The law WalLasts: what the codes of the operations tell; where its loop stands. Condition: none. -/
namespace Go.Proofs.YtkfedbncmfnpnaaGreatDoor
set_option linter.unusedVariables false
set_option linter.unusedSimpArgs false
open Go Go.VC
open Classical
variable {R R':Cx} {Hs Rest:List HP} {w:World}
def Cd (e:Int):Prop:=e≠1∧e≠7∧e≠8
theorem Cd.of {e:Int} (n:Int) (h:e=n) (hn:n≠1∧n≠7∧n≠8):Cd e:=h ▸ hn
def Odd (e:Int):Prop:=e=1∨e=7∨e=8
theorem Cd.no {e:Int} (h:Cd e) (o:Odd e):False:=by
 obtain ⟨h1,h7,h8⟩:=h
 rcases o with o|o|o
 ·exact h1 o
 ·exact h7 o
 ·exact h8 o
structure WlP (x:WSt) (st:DS) (may:List Lg) (k m:Nat) (c:Int):Prop where
 lb:LB x st (1 + 2 * m + k)
 lw:LW x st may (1 + m)
 room:st.room=200000
 tot:total st.fs≤21 + 2 * c + 20 * k
theorem WlP.mono {x:WSt} {st:DS} {may:List Lg} {k m m':Nat} {c c':Int} (h:WlP x st may k m c) (hm:m≤m') (hc:c≤c'):WlP x st may (k + 1) m' c':=
 ⟨h.lb.mono (by omega),h.lw.le (by omega),h.room,by have:=h.tot;omega⟩
structure StepP (x':WSt) (st':DS) (may more:List Lg) (odd:Prop) (k m:Nat) (c:Int):Prop where
 no:odd→WlP x' st' may k m c
 yes:¬ odd→WlP x' st' (may++more) k m c
variable {x:WSt} {st:DS} {may:List Lg} {k m:Nat} {c:Int}
end Go.Proofs.YtkfedbncmfnpnaaGreatDoor
/- The law WalLasts. Condition: the library's table of powers is laid. -/
namespace Go.Proofs.YtkfedbncmfnpnaaGreatDoor
set_option linter.unusedVariables false
set_option linter.unusedSimpArgs false
open Go Go.VC
open Classical
variable {R R':Cx} {Hs Rest:List HP} {w:World}
theorem EsR.ext {s:Sl} {dl:List DE4} (h:EsR R s dl) (x:R.Ext R'):EsR R' s dl:=⟨x.roN h.rows,h.each.ext x,h.by',h.cap⟩
theorem StR.ext {s:Sl} {es:List StE} (h:StR R s es) (x:R.Ext R'):StR R' s es:=⟨x.roN h.rows,fun e he=>(h.ents e he).ext x,fun e he=>x.ro (h.keeps e he),h.light⟩
theorem StepP.or {x':WSt} {st':DS} {may more:List Lg} {o:Prop} {k m:Nat} {c:Int} {d:Int} (h:StepP x' st' may more o k m c) (hd:¬ d>2):StepP x' st' may more (d>2∨o) k m c:=
 ⟨fun h'=>h.no (h'.resolve_left hd),fun h'=>h.yes fun o=>h' (.inr o)⟩
end Go.Proofs.YtkfedbncmfnpnaaGreatDoor
