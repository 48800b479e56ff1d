/- A node of a group: it sends to all; it advances. Condition: bounds on numbers. -/
import Derived.Test.YthpmfnffkjjlnaaGreatB3
import Derived.Laws.StructEq
import Derived.ChangeKeysEq
import Derived.Test.YthpmfnffkjjlnaaGreatB1
import Derived.ProofKit
import Derived.OpenShut
import Derived.ShutString
import Derived.ChangeOld
import Derived.Below
import Derived.Lib.SmallJoins
import Derived.Test.YthpmfnffkjjlnaaGreatB2
namespace Go.Proofs.YthpmfnffkjjlnaaGreat
set_option linter.unusedVariables false
set_option linter.unusedSimpArgs false
open Go Go.VC
open Go.Rf (Ey Lg LgOk)
variable {R R' R1 R2:Cx} {Hs Rest Rest2:List HP} {w:World} {p:Nat} {n m:Rn}
theorem Snd.sends:∀ (l:List Int) (n:Rn),Snd n (l.foldl Rn.send n) (66 * l.length)
 |[],n=>.refl
 |q::l,n=>by
  have:=(Snd.send q (n:=n)).trans (Snd.sends l (n.send q))
  exact ⟨this.eq,this.keys,by have:=this.len;rw [List.length_cons];show ((l.foldl Rn.send (n.send q)).rms.length≤_);omega,this.pe⟩
theorem mem_same {k:Nat} (h:Snd n m k):m.mem=n.mem:=by
 unfold Rn.mem
 have:=h.keys
 cases hn:n.ps with
 |none=>rw [hn] at this;cases hm:m.ps with
  |none=>rfl
  |some l=>rw [hm] at this;cases this
 |some l=>rw [hn] at this;cases hm:m.ps with
  |none=>rw [hm] at this;cases this
  |some l'=>
   rw [hm] at this
   simp only [Option.map_some,Option.some.injEq] at this
   simp only [Option.getD_some]
   rw [this]
theorem all_spec {l:List (Int × Pe)} (g:RnG n) (hsn:rightSn n.sn=true) (hlast:n.log.last≤1099511627775) (hpe:AllPe n) (hp:n.ps=some l) (hk:PKeys n.id l) (hl:n.rms.length≤999990000) (hw:Sat R (NAt R p n::Hs) w):
  Gets Tryz.prog 94 #[.pointer (some ⟨p,0,none⟩)] w fun v w'=>v=.tuple #[]∧∃ R',R.Ext R'∧Sat R' (NAt R' p n.all::Hs) w':=by
 apply call94
 refine (members_spec hp hk hw).use ?_
 clear hw
 rintro _ w ⟨s,rfl,hw⟩
 have h15:=mem_len hp hk
 have hsl:=Own.len hw
 rw [List.length_map] at hsl
 refine ⟨s,rfl,?_⟩
 refine ⟨fun i w=>∃ (k:Nat) (R':Cx),i=k∧k≤n.mem.length∧R.Ext R'∧Sat R' (Own s 3 (ints n.mem)::NAt R' p ((n.mem.take k).foldl Rn.send n)::Hs) w,fun i _=>n.mem.length - i.toNat,⟨0,R,rfl,Nat.zero_le _,.refl,hw⟩,?_⟩
 clear hw
 rintro _ _ w ⟨k,R1,rfl,hk',e1,hw⟩
 refine Br.d (fun h=>?_) (fun h=>?_)
 ·have hkl:k<n.mem.length:=by omega
  refine Own.idx hw (eqS hw) hkl ?_
  obtain ⟨m,hm⟩:∃ m,m=(n.mem.take k).foldl Rn.send n:=⟨_,rfl⟩
  have hs:Snd n m (66 * (n.mem.take k).length):=by rw [hm];exact .sends _ n
  obtain ⟨l',hp',hk2⟩:=hs.pkeys hp hk
  have hlen:=hs.len
  rw [List.length_take] at hlen
  have emem:=mem_same hs
  obtain ⟨x,hx⟩:=mem_keys hp' n.mem[k] (by rw [emem];exact List.getElem_mem hkl)
  rw [←hm] at hw
  refine (send_spec (hs.rng g) (by rw [hs.eq];exact hsn) (by rw [hs.eq];exact hlast) (hs.pe hpe) hp' hx (by omega) hw.swap).use ?_
  clear hw
  rintro _ w ⟨rfl,R2,e2,hw⟩
  rw [wrap64 (by omega) (by omega)]
  refine ⟨rfl,⟨k + 1,R2,by omega,hkl,e1.trans e2,?_⟩,by dsimp only;omega⟩
  rw [foldl_snoc Rn.send n hkl,←hm]
  exact hw.swap
 ·have:k=n.mem.length:=by omega
  subst this
  rw [List.take_length] at hw
  exact ⟨rfl,R1,e1,hw.drop⟩
theorem Star.focus {α:Type} (f:α→HP) {l:List α} {t:α} (ht:t∈l) (hw:Sat R (Star (l.map f)::Hs) w):∃ rest:List HP,Sat R (f t::Star rest::Hs) w∧∀ {R':Cx} {Hs':List HP} {w':World},Sat R' (f t::Star rest::Hs') w'→Sat R' (Star (l.map f)::Hs') w':=by
 obtain ⟨a,c,rfl⟩:=List.append_of_mem ht
 have e:(a++t::c).map f=a.map f++f t::c.map f:=by rw [List.map_append];rfl
 refine ⟨a.map f++c.map f,?_,fun {R' Hs' w'} h=>?_⟩
 ·have h:=Sat.star.1 hw
  rw [e] at h
  have h2:Sat R (f t::((a.map f++c.map f)++Hs)) w:=h.perm (by
   rw [List.append_assoc,List.append_assoc]
   exact List.perm_middle)
  exact h2.cons fun _ h=>Sat.star.2 h
 ·have h2:Sat R' (f t::((a.map f++c.map f)++Hs')) w':=h.cons fun _ h=>Sat.star.1 h
  refine Sat.star.2 (h2.perm ?_)
  rw [e,List.append_assoc,List.append_assoc]
  exact List.perm_middle.symm
theorem ats_len:n.ats.length=16:=by unfold Rn.ats;rw [List.length_map,List.length_range]
theorem ats_get {k:Nat} (hk:k<n.ats.length):n.ats[k]=match n.peer k with|some x=>x.mt|none=>if (k:Int)==n.id then n.log.last else 0:=by
 simp only [Rn.ats,List.getElem_map,List.getElem_range]
 rfl
structure AtsSt (n:Rn) (pl:PL) (left:List (Int × Value)) (A:List Int):Prop where
 len:A.length=16
 sub:∀ e∈left,e∈pl.map pEn
 done:∀ t∈pl,pEn t∈left∨A.getD t.1.toNat 0=t.2.2.mt
 base:∀ k:Nat,k<16→(k:Int) ∉ pl.map (·.1)→A.getD k 0=if (k:Int)==n.id then n.log.last else 0
theorem AtsSt.end {pl:PL} {A:List Int} (h:AtsSt n pl [] A) (hps:n.ps=some (pl.map pOf)):A=n.ats:=by
 refine List.ext_getElem (by rw [h.len,ats_len]) fun k h1 h2=>?_
 rw [ats_get]
 have e:A.getD k 0=A[k]:=by rw [List.getD_eq_getElem?_getD,List.getElem?_eq_getElem h1];rfl
 rw [←e]
 have hpk:n.peer k=(getM (k:Int) pl).map (·.2):=by unfold Rn.peer;rw [hps,Option.getD_some,pOf_get]
 rw [hpk]
 cases hg:getM (k:Int) pl with
 |none=>
  refine h.base k (by rw [←h.len];exact h1) fun hm=>?_
  obtain ⟨v,hv⟩:=getM_key hm
  rw [hv] at hg;cases hg
 |some t=>
  have:=h.done _ (getM_mem hg)
  rcases this with h3|h3
  ·cases h3
  ·simpa using h3
theorem AtsSt.step {pl:PL} {A:List Int} {a b:List (Int × Value)} {t:Int × Nat × Pe} (h:AtsSt n pl (a++pEn t::b) A) (ht:t∈pl) (hnd:(pl.map (·.1)).Nodup) (hr:1≤t.1∧t.1≤15):AtsSt n pl (a++b) (A.set t.1.toNat t.2.2.mt):=by
 have hlen:=h.len
 have uniq:∀ t'∈pl,t'.1=t.1→t'=t:=by
  clear h
  induction pl with
  |nil=>cases ht
  |cons x pl ih=>
   rw [List.map_cons,List.nodup_cons] at hnd
   intro t' ht' e
   rcases List.mem_cons.1 ht with h1|h1
   ·rcases List.mem_cons.1 ht' with h2|h2
    ·rw [h1,h2]
    ·exact absurd (by rw [←h1,←e];exact List.mem_map_of_mem h2) hnd.1
   ·rcases List.mem_cons.1 ht' with h2|h2
    ·exact absurd (by rw [←h2,e];exact List.mem_map_of_mem h1) hnd.1
    ·exact ih h1 hnd.2 t' h2 e
 refine ⟨by rw [List.length_set,hlen],fun e he=>h.sub e ?_,fun t' ht'=>?_,fun k hk hn=>?_⟩
 ·rcases List.mem_append.1 he with he|he
  ·exact List.mem_append.2 (.inl he)
  ·exact List.mem_append.2 (.inr (List.mem_cons_of_mem _ he))
 ·by_cases e:t'.1=t.1
  ·have:=uniq t' ht' e
   subst this
   right
   rw [List.getD_eq_getElem?_getD,List.getElem?_set_self (by omega)];rfl
  ·rcases h.done t' ht' with h1|h1
   ·left
    rcases List.mem_append.1 h1 with h1|h1
    ·exact List.mem_append.2 (.inl h1)
    ·rcases List.mem_cons.1 h1 with h1|h1
     ·exact absurd (congrArg Prod.fst h1) e
     ·exact List.mem_append.2 (.inr h1)
   ·by_cases e2:t'.1.toNat=t.1.toNat
    ·-- an odd key: it stands for no place of its own
     by_cases h0:0≤t'.1
     ·exact absurd (by omega) e
     ·by_cases e3:t'.1.toNat=0
      ·omega
      ·omega
    ·right
     rw [List.getD_eq_getElem?_getD,List.getElem?_set_ne (fun h=>e2 h.symm),←List.getD_eq_getElem?_getD]
     exact h1
 ·rw [List.getD_eq_getElem?_getD,List.getElem?_set_ne (fun h=>hn ?_),←List.getD_eq_getElem?_getD]
  ·exact h.base k hk hn
  ·have:(k:Int)=t.1:=by omega
   rw [this];exact List.mem_map_of_mem ht
theorem advance_spec {l:List (Int × Pe)} (g:RnG n) (hid:1≤n.id∧n.id≤15) (hp:n.ps=some l) (hk:PKeys n.id l) (hl:n.rms.length≤999990000) (hw:Sat R (NAt R p n::Hs) w):
  Gets Tryz.prog 93 #[.pointer (some ⟨p,0,none⟩)] w fun v w'=>v=.tuple #[]∧Sat R (NAt R p n.advance::Hs) w':=by
 obtain ⟨L,hn,hw⟩:=NAt.iff.1 hw
 apply call93
 refine new_rule hw fun b w hw=>?_
 refine drw_rule' (Sat R [pts p (nCells n L),VC.tru]) hw (fun w hw=>hw.k1) fun w hw=>NilP.mk rfl ⟨n.id,At.own selfS (by exact ⟨rfl,trivial⟩),NilP.mk rfl ⟨_,At.own selfS (by exact ⟨rfl,trivial⟩),?_⟩⟩
 refine (llast_spec g.lg (hw.take (LgAt R L.lp n.log))).use ?_
 clear hw
 rintro _ w ⟨rfl,hw⟩
 refine ⟨_,rfl,hw.k1,Rng.mk (by omega) (by omega) ?_⟩
 obtain ⟨i,hi⟩:∃ i:Nat,n.id=i:=⟨n.id.toNat,by omega⟩
 rw [hi]
 have hw:=(hw.take (pts b (.cells [Value.int .i64 0,Value.int .i64 0,Value.int .i64 0,Value.int .i64 0,Value.int .i64 0,Value.int .i64 0,Value.int .i64 0,Value.int .i64 0,Value.int .i64 0,Value.int .i64 0,Value.int .i64 0,Value.int .i64 0,Value.int .i64 0,Value.int .i64 0,Value.int .i64 0,Value.int .i64 0].toArray 194 (0,0)))).re (pts b (.cells ((List.replicate 16 (0:Int)).map (Value.int .i64)).toArray 194 (0,0)))
 refine storeI_rule (by kernel_rfl) hw (i:=i) (by rw [List.length_replicate];omega) fun w hw=>NilP.mk rfl ⟨L.pm,At.own (eqS hw) (by exact ⟨rfl,trivial⟩),?_⟩
 have hw:=hw.take (PsAt L.pm n.ps)
 cases hpm:L.pm with
 |none=>
  rw [hpm] at hw
  have:=(PsAt.none'.1 hw).1
  rw [hp] at this;cases this
 |some mm=>
 rw [hpm] at hw
 obtain ⟨pl,hpl,hw⟩:=PsAt.some'.1 hw
 have epl:l=pl.map pOf:=by rw [hp] at hpl;exact Option.some.inj hpl
 have ekeys:l.map (·.1)=pl.map (·.1):=by rw [epl,List.map_map];rfl
 have hnd:(pl.map (·.1)).Nodup:=by rw [←ekeys];exact hk.nd
 have hkr:∀ t∈pl,1≤t.1∧t.1≤15∧t.1≠n.id:=fun t ht=>hk.rg t.1 (by rw [ekeys];exact List.mem_map_of_mem ht)
 have hw:Sat R (MapAt mm (pl.map pEn)::Star (pl.map pHP)::_) w:=hw.cons fun _ h=>Sat.star.2 h
 refine range_rule mapP.hT hw fun r w hw=>?_
 obtain ⟨J,hJ⟩:∃ J:World→Prop,∀ w,J w↔∃ left A,AtsSt n pl left A∧Sat R (ItAt r mm (pl.map pEn) left::Star (pl.map pHP)::pts b (.cells (A.map (Value.int .i64)).toArray 194 (0,0))::pts p (nCells n L)::ElAt R L.ep n.e::LgAt R L.lp n.log::RsAt L.rs n.rs::MsAt R L.ms n.rms::RrAt L.rr n.rrd::Hs) w:=⟨_,fun _=>Iff.rfl⟩
 refine ⟨J,itLeft r mm,(hJ _).2 ⟨pl.map pEn,(List.replicate 16 (0:Int)).set i n.log.last,⟨by simp,fun e he=>he,fun t ht=>.inl (List.mem_map_of_mem ht),fun k hk16 hkn=>?_⟩,hw.arr⟩,?_⟩
 ·rw [hi]
  by_cases e:k=i
  ·subst e
   rw [List.getD_eq_getElem?_getD,List.getElem?_set_self (by simp;omega),if_pos (by simp)];rfl
  ·rw [List.getD_eq_getElem?_getD,List.getElem?_set_ne (fun h=>e h.symm),if_neg (by simp;omega),List.getElem?_replicate]
   rw [if_pos hk16];rfl
 clear hw
 intro _ w hj
 obtain ⟨left,A,hA,hw⟩:=(hJ w).1 hj
 clear hj
 have hleft:=itLeft_eq hw
 rcases next_cases (T:=0) hw with ⟨rfl,hx⟩|⟨a,k,v,c,w',hlc,hx,hent,hw2⟩
 ·refine ⟨w,.inl ⟨hx,?_⟩⟩
  have eA:=hA.end hpl
  have hw:=ItAt.map hw
  have hw:Sat R (MapAt mm (pl.map pEn)::(pl.map pHP++_)) w:=hw.cons fun _ h=>Sat.star.1 h
  have hw:=PsAt.some'.2 ⟨pl,hpl,hw⟩
  refine drw_rule' (Sat R [pts b (.cells (A.map (Value.int .i64)).toArray 194 (0,0)),pts p (nCells n L),VC.tru]) hw (fun w hw=>hw.k2) fun w hw=>NilP.mk rfl ⟨L.gv,L.gl,At.own selfS (by exact ⟨rfl,rfl,trivial⟩),A.map (Value.int .i64),by rw [List.length_map,hA.len],At.own selfS (by exact Pre.refl _),?_⟩
  refine (middle_spec hw hn.g.v hn.g.l hA.len).use ?_
  clear hw
  rintro _ w ⟨rfl,hw⟩
  refine ⟨_,rfl,NilP.mk rfl ⟨_,At.own (eqS hw) (by exact ⟨rfl,trivial⟩),?_⟩⟩
  rw [eA] at hw ⊢
  obtain ⟨i,hi⟩:∃ i,i=midL n.g.vs n.g.ls n.ats:=⟨_,rfl⟩
  rw [←hi]
  have hw:=(hw.take (pts b (.cells (n.ats.map (Value.int .i64)).toArray 194 (0,0)))).drop
  refine (lterm_spec g.lg i (hw.take (LgAt R L.lp n.log))).use ?_
  clear hw
  rintro _ w ⟨rfl,hw⟩
  have close:∀ {w},Sat R (LgAt R L.lp n.log::PsAt (some mm) n.ps::pts p (nCells n L)::ElAt R L.ep n.e::RsAt L.rs n.rs::MsAt R L.ms n.rms::RrAt L.rr n.rrd::Hs) w→Sat R (NAt R p n::Hs) w:=fun hw=>by
   rw [←hpm] at hw
   exact NAt.iff.2 ⟨L,hn,hw.arr⟩
  have stay:∀ {w},(!(n.log.term i).2||(n.log.term i).1 !=n.e.hd.tm||decide (i≤n.log.com))=true→Sat R (LgAt R L.lp n.log::PsAt (some mm) n.ps::pts p (nCells n L)::ElAt R L.ep n.e::RsAt L.rs n.rs::MsAt R L.ms n.rms::RrAt L.rr n.rrd::Hs) w→Sat R (NAt R p n.advance::Hs) w:=fun {w} h hw=>by
   have e:n.advance=n:=by unfold Rn.advance;rw [←hi];dsimp only;rw [if_pos h]
   rw [e];exact close hw
  refine ⟨_,_,rfl,Br.nb (fun h=>⟨rfl,stay (by rw [h];rfl) hw⟩) (fun h=>NilP.mk rfl ⟨_,At.own (eqS hw) (by exact ⟨rfl,trivial⟩),?_⟩)⟩
  refine (ehard_spec (hw.take (ElAt R L.ep n.e))).use ?_
  clear hw
  rintro _ w ⟨rfl,hw⟩
  refine ⟨_,_,rfl,Br.ne (fun h2=>⟨rfl,stay (by simp [h2]) hw.arr⟩) (fun h2=>NilP.mk rfl ⟨_,At.own (eqS hw) (by exact ⟨rfl,trivial⟩),?_⟩)⟩
  refine (lcommitted_spec (hw.take (LgAt R L.lp n.log))).use ?_
  clear hw
  rintro _ w ⟨rfl,hw⟩
  refine ⟨_,rfl,Br.d (fun h3=>⟨rfl,stay (by simp [h3]) hw.arr⟩) (fun h3=>NilP.mk rfl ⟨_,At.own (eqS hw) (by exact ⟨rfl,trivial⟩),?_⟩)⟩
  refine (lcommit_spec g.lg i hw).use ?_
  clear hw
  rintro _ w ⟨rfl,hw⟩
  refine ⟨_,rfl,?_⟩
  obtain ⟨n2,hn2⟩:∃ n2,n2={ n with log:=(n.log.commit i).2 }:=⟨_,rfl⟩
  have hw:Sat R (NAt R p n2::Hs) w:=by
   rw [←hpm] at hw
   rw [hn2]
   exact NAt.iff.2 ⟨L,⟨hn.g,hn.sg,hn.sd⟩,(show Sat R (LgAt R L.lp (n.log.commit i).2::ElAt R L.ep n.e::PsAt L.pm n.ps::pts p (nCells { n with log:=(n.log.commit i).2 } L)::RsAt L.rs n.rs::MsAt R L.ms n.rms::RrAt L.rr n.rrd::Hs) w from hw).arr⟩
  refine (beats_spec (n:=n2) (l:=l) (by rw [hn2];exact hp) (by rw [hn2];exact hk) (by rw [hn2];show n.rms.length≤_;omega) hw).use ?_
  clear hw
  rintro _ w ⟨rfl,hw⟩
  refine ⟨rfl,rfl,?_⟩
  have e:n.advance=n2.beats:=by
   unfold Rn.advance
   rw [←hi]
   dsimp only
   rw [if_neg (by rw [h,h2,decide_eq_false h3];simp),hn2]
  rw [e];exact hw
 ·refine ⟨w',.inr ?_⟩
  obtain ⟨t,ht,hte⟩:=List.mem_map.1 (hA.sub (k,v) (by rw [hlc];simp))
  obtain rfl:t.1=k:=congrArg Prod.fst hte
  obtain rfl:Value.pointer (some ⟨t.2.1,0,none⟩)=v:=congrArg Prod.snd hte
  have hr:=hkr t ht
  obtain ⟨q,hq⟩:∃ q:Nat,t.1=q:=⟨t.1.toNat,by omega⟩
  refine ⟨_,_,hx,t.1,some ⟨t.2.1,0,none⟩,fun w h=>by subst h;exact hent,?_⟩
  obtain ⟨rest,hw3,back⟩:=Star.focus pHP ht hw2.swap
  refine (pmatch_spec hw3).use ?_
  clear hw2 hw3
  rintro _ w2 ⟨rfl,hw⟩
  have hw:=back hw
  refine ⟨_,rfl,Rng.mk (by omega) (by omega) ?_⟩
  have hw:=hw.take (pts b (.cells (A.map (Value.int .i64)).toArray 194 (0,0)))
  refine storeI_rule (by kernel_rfl) hw (i:=t.1.toNat) (by rw [hA.len];omega) fun w hw=>?_
  rw [hlc] at hA
  have hA2:=hA.step ht hnd ⟨hr.1,hr.2.1⟩
  have hw:Sat R (ItAt r mm (pl.map pEn) (a++c)::_) w:=hw.take (ItAt r mm (pl.map pEn) (a++c))
  refine ⟨(hJ w).2 ⟨a++c,_,hA2,hw.arr⟩,?_⟩
  rw [itLeft_eq hw,hleft,hlc]
  simp
end Go.Proofs.YthpmfnffkjjlnaaGreat
/- A node of a group: what follows of ballots; it becomes the leader. Condition: bounds on numbers. -/
namespace Go.Proofs.YthpmfnffkjjlnaaGreat
set_option linter.unusedVariables false
set_option linter.unusedSimpArgs false
open Go Go.VC
open Go.Rf (Ey Lg LgOk)
variable {R R' R1 R2:Cx} {Hs Rest Rest2:List HP} {w:World} {p:Nat} {n m:Rn}
theorem addP_keys (n:Rn):∀ (D:List Int) (acc:List (Int × Pe)),(acc.map (·.1)++D).Nodup→(D.foldl n.addP acc).map (·.1)=acc.map (·.1)++D.filter (fun q=>q !=n.id)
 |[],acc,_=>by simp
 |q::D,acc,h=>by
  rw [List.foldl_cons]
  have hq:q ∉ acc.map (·.1):=fun hx=>by
   rw [List.nodup_append] at h
   exact h.2.2 q hx q List.mem_cons_self rfl
  have hD:(acc.map (·.1)++D).Nodup:=by
   refine h.sublist ?_
   exact (List.Sublist.refl _).append (List.sublist_cons_self q D)
  by_cases e:q=n.id
  ·have e1:n.addP acc q=acc:=by unfold Rn.addP;rw [if_pos (by simp [e])]
   rw [e1,addP_keys n D acc hD,List.filter_cons_of_neg (by simp [e])]
  ·have e1:n.addP acc q=acc++[(q,n.peerN q)]:=by unfold Rn.addP;rw [if_neg (by simp [e]),putM_new hq]
   rw [e1,addP_keys n D _ (by
    rw [List.map_append,List.append_assoc];exact h),List.filter_cons_of_pos (by simp [e]),List.map_append,List.append_assoc]
   rfl
theorem addP_ok (n:Rn) (hN:∀ q,PeOk (n.peerN q)):∀ (D:List Int) (acc:List (Int × Pe)),(∀ t∈acc,PeOk t.2)→∀ t∈D.foldl n.addP acc,PeOk t.2
 |[],_,h,t,ht=>h t ht
 |q::D,acc,h,t,ht=>by
  refine addP_ok n hN D (n.addP acc q) (fun t ht=>?_) t ht
  unfold Rn.addP at ht
  split at ht
  ·exact h t ht
  ·unfold putM at ht
   split at ht
   ·rcases setM_mem ht with h2|h2
    ·rw [h2];exact hN q
    ·exact h t h2
   ·rcases List.mem_append.1 ht with h2|h2
    ·exact h t h2
    ·simp at h2;rw [h2];exact hN q
theorem newPs_keys {g:Gp} (hg:rightG g.vs g.ls=true):PKeys n.id (n.newPs g):=by
 have hk:=addP_keys n (g.vs++g.ls) [] (by simpa using right_nodup hg)
 rw [List.map_nil,List.nil_append] at hk
 refine ⟨?_,fun k h=>?_⟩
 ·show ((n.newPs g).map (·.1)).Nodup
  unfold Rn.newPs
  rw [hk]
  exact (right_nodup hg).filter _
 ·unfold Rn.newPs at h
  rw [hk,List.mem_filter] at h
  obtain ⟨h1,h2,_⟩:=right_iff.1 hg
  have h3:k≠n.id:=by simpa using h.2
  rcases List.mem_append.1 h.1 with h4|h4
  ·have:=rises_mem h1 k h4;omega
  ·have:=rises_mem h2 k h4;omega
theorem newPs_ok {g:Gp} (gg:RnG n) (hpe:AllPe n):∀ t∈n.newPs g,PeOk t.2:=by
 refine addP_ok n (fun q=>?_) _ [] (fun _ h=>by cases h)
 unfold Rn.peerN
 cases hq:n.peer q with
 |some x=>exact peer_ok hpe hq
 |none=>
  have h1:=gg.lg.b0
  have h2:0≤n.log.last:=by unfold Lg.last;omega
  exact PeOk.new (by omega) (by omega) gg.w1 gg.w64
theorem regroup_facts (gg:RnG n) (hpe:AllPe n):RnG n.regroup∧AllPe n.regroup∧(∀ l,n.regroup.ps=some l→PKeys n.regroup.id l)∧n.regroup.e.role=n.e.role∧(n.e.role=3→n.regroup.ps.isSome=true)∧rightG n.regroup.g.vs n.regroup.g.ls=true:=by
 have hr:=foldG_right (n:=n) gg.sg n.log.l.length
 have e:n.regroup={ n with g:=n.foldG n.log.l.length,e:=n.e.join (n.foldG n.log.l.length),ps:=if n.e.role==3 then some (Rn.newPs { n with g:=n.foldG n.log.l.length } (n.foldG n.log.l.length)) else none }:=rfl
 have hps:∀ l,n.regroup.ps=some l→l=Rn.newPs { n with g:=n.foldG n.log.l.length } (n.foldG n.log.l.length):=fun l h=>by
  rw [e] at h
  dsimp only at h
  split at h
  ·exact (Option.some.inj h).symm
  ·cases h
 refine ⟨⟨gg.lg,gg.lb,gg.sg,gg.w1,gg.w64⟩,fun l h=>?_,fun l h=>?_,?_,fun h=>?_,hr⟩
 ·rw [hps l h]
  exact newPs_ok (n:={ n with g:=n.foldG n.log.l.length }) ⟨gg.lg,gg.lb,gg.sg,gg.w1,gg.w64⟩ hpe
 ·rw [hps l h]
  exact newPs_keys (n:={ n with g:=n.foldG n.log.l.length }) hr
 ·show (n.e.join _).role=_
  unfold Eln.join
  split<;>rfl
 ·rw [e]
  dsimp only
  rw [if_pos (by simp [h])];rfl
theorem fresh_facts (gg:RnG n) (hpe:AllPe n) (i:Int):RnG (n.fresh i)∧AllPe (n.fresh i)∧(∀ l,(n.fresh i).ps=some l→PKeys (n.fresh i).id l)∧(n.fresh i).e.role=n.e.role∧(n.e.role=3→(n.fresh i).ps.isSome=true):=
 let ⟨a,b,c,d,e,_⟩:=regroup_facts (n:={ n with rfr:=if n.rfr==0||decide (i<n.rfr) then i else n.rfr }) ⟨gg.lg,gg.lb,gg.sg,gg.w1,gg.w64⟩ hpe
 ⟨a,b,c,d,e⟩
structure RnL (n:Rn):Prop where
 g:RnG n
 pe:AllPe n
 pk:∀ l,n.ps=some l→PKeys n.id l
 sm:n.ps.isSome=true
 i0:1≤n.id
 i1:n.id≤15
 sn:rightSn n.sn=true
theorem LgB.add {g:Lg} (h:LgB g) {l:List Ey} (hl:∀ e∈l,bytesOk e.dt):LgB (g.add l).2:=by
 unfold Lg.add
 split
 ·exact h
 ·split
  ·intro e he
   rcases List.mem_append.1 he with he|he
   ·exact h e he
   ·exact hl e he
  ·exact h
theorem enter_facts (h:RnL n) (hr:n.e.role=3) (kd:Int) {dt:List Int} (hd:bytesOk dt):RnL (n.enter kd dt).2∧(n.enter kd dt).2.e.role=3∧(n.enter kd dt).2.rms=n.rms∧(n.enter kd dt).2.log.last≤n.log.last + 1:=by
 unfold Rn.enter
 dsimp only
 split
 ·exact ⟨h,hr,rfl,by show n.log.last≤_;omega⟩
 ·have gg:RnG { n with log:=(n.log.add [⟨n.log.last + 1,n.e.hd.tm,kd,dt⟩]).2 }:=⟨h.g.lg.add _,h.g.lb.add (fun e he=>by simp at he;subst he;exact hd),h.g.sg,h.g.w1,h.g.w64⟩
  obtain ⟨a,b,c,d,e⟩:=fresh_facts gg h.pe (n.log.last + 1)
  refine ⟨⟨a,b,c,e hr,h.i0,h.i1,h.sn⟩,d.trans hr,rfl,?_⟩
  show (n.log.add _).2.last≤_
  unfold Lg.add
  split
  ·show n.log.last≤_;omega
  ·split
   ·show n.log.b.ix + ((n.log.l++[_]).length:Int)≤_
    rw [List.length_append,List.length_singleton];unfold Lg.last;omega
   ·show n.log.last≤_;omega
theorem beats_eq:∀ (l:List Int) (n:Rn),l.foldl Rn.beat n={ n with rms:=(l.foldl Rn.beat n).rms }
 |[],_=>rfl
 |q::l,n=>by
  show l.foldl Rn.beat (n.beat q)={ n with rms:=(l.foldl Rn.beat (n.beat q)).rms }
  rw [beats_eq l (n.beat q)];rfl
theorem advance_facts (h:RnL n):RnL n.advance∧n.advance.e=n.e∧n.advance.log.last=n.log.last∧n.advance.rms.length≤n.rms.length + 15:=by
 unfold Rn.advance
 dsimp only
 split
 ·exact ⟨h,rfl,rfl,Nat.le_add_right _ _⟩
 ·obtain ⟨i,hi⟩:∃ i,i=midL n.g.vs n.g.ls n.ats:=⟨_,rfl⟩
  rw [←hi]
  obtain ⟨n2,hn2⟩:∃ n2,n2={ n with log:=(n.log.commit i).2 }:=⟨_,rfl⟩
  rw [←hn2]
  obtain ⟨l,hl⟩:=Option.isSome_iff_exists.1 h.sm
  have hb:=beats_ps n2.mem n2
  have e:=beats_eq n2.mem n2
  have hcl:(n.log.commit i).2.last=n.log.last:=by unfold Lg.commit;split<;>rfl
  have hcb:LgB (n.log.commit i).2:=by unfold Lg.commit;split<;>exact h.g.lb
  have hm:n2.mem.length≤15:=mem_len (n:=n2) (l:=l) (by rw [hn2];exact hl) (by rw [hn2];exact h.pk l hl)
  have e2:n2.beats={ n2 with rms:=n2.beats.rms }:=e
  refine ⟨?_,?_,?_,?_⟩
  ·rw [e2,hn2]
   exact ⟨⟨h.g.lg.commit i,hcb,h.g.sg,h.g.w1,h.g.w64⟩,h.pe,h.pk,h.sm,h.i0,h.i1,h.sn⟩
  ·rw [e2,hn2]
  ·rw [e2,hn2];exact hcl
  ·show (n2.mem.foldl Rn.beat n2).rms.length≤_
   rw [hb.2.1]
   have:n2.rms=n.rms:=by rw [hn2]
   rw [this];omega
theorem Snd.rnl {k:Nat} (s:Snd n m k) (h:RnL n):RnL m:=by
 obtain ⟨l,hl⟩:=Option.isSome_iff_exists.1 h.sm
 obtain ⟨l',h1,h2⟩:=s.pkeys hl (h.pk l hl)
 have e:=s.eq
 refine ⟨s.rng h.g,s.pe h.pe,fun l2 h3=>?_,by rw [h1];rfl,by rw [e];exact h.i0,by rw [e];exact h.i1,by rw [e];exact h.sn⟩
 rw [h1] at h3
 rw [←Option.some.inj h3];exact h2
theorem Snd.all (n:Rn):Snd n n.all (66 * n.mem.length):=.sends _ n
theorem advance_spec' (h:RnL n) (hl:n.rms.length≤999990000) (hw:Sat R (NAt R p n::Hs) w):
  Gets Tryz.prog 93 #[.pointer (some ⟨p,0,none⟩)] w fun v w'=>v=.tuple #[]∧Sat R (NAt R p n.advance::Hs) w':=
 let ⟨_,hl'⟩:=Option.isSome_iff_exists.1 h.sm
 advance_spec h.g ⟨h.i0,h.i1⟩ hl' (h.pk _ hl') hl hw
theorem all_spec' (h:RnL n) (hlast:n.log.last≤1099511627775) (hl:n.rms.length≤999990000) (hw:Sat R (NAt R p n::Hs) w):
  Gets Tryz.prog 94 #[.pointer (some ⟨p,0,none⟩)] w fun v w'=>v=.tuple #[]∧∃ R',R.Ext R'∧Sat R' (NAt R' p n.all::Hs) w':=
 let ⟨_,hl'⟩:=Option.isSome_iff_exists.1 h.sm
 all_spec h.g h.sn hlast h.pe hl' (h.pk _ hl') hl hw
theorem voted_spec {t:Sl} {bl:List Bl} {led:Bool} (g:RnG n) (hpe:AllPe n) (hid:1≤n.id∧n.id≤15) (hsn:rightSn n.sn=true) (hlast:n.log.last≤1000000000) (hl:n.rms.length≤999900000) (hbl:bl.length≤1000) (hled:led=true→n.ps.isSome=true) (hw:Sat R (BlO t bl::NAt R p n::Hs) w):
  Gets Tryz.prog 37 #[.pointer (some ⟨p,0,none⟩),.bool led,.slice t.a t.len t.cap] w fun v w'=>v=.tuple #[]∧∃ R',R.Ext R'∧Sat R' (NAt R' p (n.voted led bl)::Hs) w':=by
 apply call37
 have hsl:=OwnN.len hw
 rw [List.length_map] at hsl
 refine ⟨fun i w=>∃ k:Nat,i=k∧k≤bl.length∧Sat R (BlO t bl::NAt R p { n with rms:=n.rms++(bl.take k).map blMg }::Hs) w,fun i _=>bl.length - i.toNat,⟨0,rfl,Nat.zero_le _,?_⟩,?_⟩
 ·have e:{ n with rms:=n.rms++(bl.take 0).map blMg }=n:=by simp
  rw [e];exact hw
 clear hw
 rintro _ _ w ⟨k,rfl,hk,hw⟩
 refine Br.d (fun h=>?_) (fun h=>?_)
 ·have hkl:k<bl.length:=by omega
  obtain ⟨n1,hn1⟩:∃ n1,n1={ n with rms:=n.rms++(bl.take k).map blMg }:=⟨_,rfl⟩
  have e1:{ n with rms:=n.rms++(bl.take (k + 1)).map blMg }={ n1 with rms:=n1.rms++[blMg bl[k]] }:=by
   rw [hn1,List.take_succ_eq_append_getElem hkl,List.map_append,List.append_assoc];rfl
  rw [←hn1] at hw
  have hl1:n1.rms.length≤1000000000:=by rw [hn1];show (n.rms++_).length≤_;rw [List.length_append,List.length_map,List.length_take];omega
  refine (OwnN.readsM (T:=161) (n:=7) (s:=t) (rows:=bl.map blRow) hw (eqS hw)).rngI (g:=blRow) k rfl hkl fun a _ el=>?_
  refine ⟨_,_,_,_,_,_,_,el.z (by exact ⟨rfl,rfl,rfl,rfl,rfl,rfl,rfl,trivial⟩),new_rule hw fun b w hw=>?_⟩
  refine store_rule hw (by kernel_rfl) rfl (by simp [Value.cells,putL_len]) fun w hw=>?_
  have hw:=hw.re (pts b (.cells (blRow bl[k]).toArray 161 (0,0)))
  obtain ⟨L,hn,hw⟩:=NAt.iff.1 (hw.take (NAt R p n1))
  refine drw_rule' (Sat R [pts p (nCells n1 L),pts b (.cells (blRow bl[k]).toArray 161 (0,0)),VC.tru]) hw (fun w hw=>hw.k2) fun w hw=>NilP.mk rfl ⟨L.ms,At.own selfS (by exact ⟨rfl,trivial⟩),bl[k].kd,At.own selfS (by exact ⟨rfl,trivial⟩),bl[k].fr,At.own selfS (by exact ⟨rfl,trivial⟩),bl[k].to',At.own selfS (by exact ⟨rfl,trivial⟩),bl[k].tm,At.own selfS (by exact ⟨rfl,trivial⟩),bl[k].ix,At.own selfS (by exact ⟨rfl,trivial⟩),bl[k].lt,At.own selfS (by exact ⟨rfl,trivial⟩),bl[k].yes,At.own selfS (by exact ⟨rfl,trivial⟩),new_rule hw fun b2 w hw=>⟨hw.k2,?_⟩⟩
  have hw:=hw.re (pts b2 (.cells (mgRow (ml0,blMg bl[k])).toArray 71 (0,0)))
  have hw:=hw.cons fun _ h=>h.take (MsAt R L.ms n1.rms)
  refine MsAt.push (m:=blMg bl[k]) (L:=ml0) (MgIn.nil rfl rfl) hl1 hw fun s2 w hw=>⟨hw.k2,NilP.mk rfl ?_⟩
  refine store_rule hw (by kernel_rfl) rfl (by simp [Value.cells,putL_len]) fun w hw=>?_
  have hw:=hw.re (pts p (nCells { n1 with rms:=n1.rms++[blMg bl[k]] } { L with ms:=s2 }))
  have hw:=(hw.take (pts b (.cells (blRow bl[k]).toArray 161 (0,0)))).drop
  rw [wrap64 (by omega) (by omega)]
  refine ⟨⟨k + 1,by omega,hkl,?_⟩,by dsimp only;omega⟩
  rw [e1]
  have h2:Sat R (pts p (nCells { n1 with rms:=n1.rms++[blMg bl[k]] } { L with ms:=s2 })::nHs R { n1 with rms:=n1.rms++[blMg bl[k]] } { L with ms:=s2 } (BlO t bl::Hs)) w:=
   (show Sat R (pts p (nCells { n1 with rms:=n1.rms++[blMg bl[k]] } { L with ms:=s2 })::MsAt R s2 (n1.rms++[blMg bl[k]])::ElAt R L.ep n1.e::LgAt R L.lp n1.log::PsAt L.pm n1.ps::RsAt L.rs n1.rs::RrAt L.rr n1.rrd::BlO t bl::Hs) w from hw).arr
  exact (NAt.iff.2 ⟨{ L with ms:=s2 },⟨hn.g,hn.sg,hn.sd⟩,h2⟩:Sat R (NAt R p { n1 with rms:=n1.rms++[blMg bl[k]] }::BlO t bl::Hs) w).swap
 ·have:k=bl.length:=by omega
  subst this
  rw [List.take_length] at hw
  have hw:=hw.drop
  obtain ⟨n1,hn1⟩:∃ n1,n1={ n with rms:=n.rms++bl.map blMg }:=⟨_,rfl⟩
  rw [←hn1] at hw
  have g1:RnG n1:=by rw [hn1];exact ⟨g.lg,g.lb,g.sg,g.w1,g.w64⟩
  have er:n1.e=n.e:=by rw [hn1]
  have hl1:n1.rms.length≤999910000:=by rw [hn1];show (n.rms++_).length≤_;rw [List.length_append,List.length_map];omega
  have ev:n.voted led bl=(if n1.e.role !=3 then { n1 with ps:=none,rs:=[] } else if !led then (Rn.enter (Rn.regroup { n1 with ps:=none,rs:=[],rnd:=0 }) 0 []).2.advance.all else n1):=by rw [hn1];rfl
  rw [ev]
  obtain ⟨L,hn,hw⟩:=NAt.iff.1 hw
  refine NilP.mk rfl ⟨_,At.own (eqS hw) (by exact ⟨rfl,trivial⟩),?_⟩
  refine (erole_spec (hw.take (ElAt R L.ep n1.e))).use ?_
  clear hw
  rintro _ w ⟨rfl,hw⟩
  have hw:=hw.take (pts p (nCells n1 L))
  refine ⟨_,rfl,Br.ne (fun h1=>NilP.mk rfl ?_) (fun h1=>?_)⟩
  ·refine store_rule hw (by kernel_rfl) rfl (by simp [Value.cells,putL_len]) fun w hw=>?_
   refine NilP.mk rfl ?_
   refine store_rule hw (by kernel_rfl) rfl (by simp [Value.cells,putL_len]) fun w hw=>?_
   rw [if_pos (by simpa using h1)]
   have hw:=hw.re (pts p (nCells { n1 with ps:=none,rs:=[] } { L with pm:=none,rs:=⟨none,0,0⟩ }))
   have hw:=(hw.take (RsAt L.rs n1.rs)).drop
   have hw:=RsAt.nil (hw.take (PsAt L.pm n1.ps)).drop
   have hw:=PsAt.none'.2 ⟨rfl,hw⟩
   exact ⟨rfl,R,.refl,NAt.iff.2 ⟨{ L with pm:=none,rs:=⟨none,0,0⟩ },⟨hn.g,hn.sg,hn.sd⟩,(show Sat R (PsAt none none::RsAt ⟨none,0,0⟩ []::pts p (nCells { n1 with ps:=none,rs:=[] } { L with pm:=none,rs:=⟨none,0,0⟩ })::ElAt R L.ep n1.e::LgAt R L.lp n1.log::MsAt R L.ms n1.rms::RrAt L.rr n1.rrd::Hs) w from hw).arr⟩⟩
  ·rw [if_neg (by simp [h1])]
   refine Br.nb (fun h2=>NilP.mk rfl ?_) (fun h2=>?_)
   ·rw [if_pos (by simp [h2])]
    refine store_rule hw (by kernel_rfl) rfl (by simp [Value.cells,putL_len]) fun w hw=>?_
    refine NilP.mk rfl ?_
    refine store_rule hw (by kernel_rfl) rfl (by simp [Value.cells,putL_len]) fun w hw=>?_
    refine NilP.mk rfl ?_
    refine store_rule hw (by kernel_rfl) rfl (by simp [Value.cells,putL_len]) fun w hw=>?_
    obtain ⟨n2,hn2⟩:∃ n2,n2={ n1 with ps:=none,rs:=[],rnd:=0 }:=⟨_,rfl⟩
    have g2:RnG n2:=by rw [hn2];exact ⟨g1.lg,g1.lb,g1.sg,g1.w1,g1.w64⟩
    have pe2:AllPe n2:=by rw [hn2];intro l h;cases h
    have hw:Sat R (NAt R p n2::Hs) w:=by
     have hw:=hw.re (pts p (nCells { n1 with ps:=none,rs:=[],rnd:=0 } { L with pm:=none,rs:=⟨none,0,0⟩ }))
     have hw:=(hw.take (RsAt L.rs n1.rs)).drop
     have hw:=RsAt.nil (hw.take (PsAt L.pm n1.ps)).drop
     have hw:=PsAt.none'.2 ⟨rfl,hw⟩
     rw [hn2]
     exact NAt.iff.2 ⟨{ L with pm:=none,rs:=⟨none,0,0⟩ },⟨hn.g,hn.sg,hn.sd⟩,(show Sat R (PsAt none none::RsAt ⟨none,0,0⟩ []::pts p (nCells { n1 with ps:=none,rs:=[],rnd:=0 } { L with pm:=none,rs:=⟨none,0,0⟩ })::ElAt R L.ep n1.e::LgAt R L.lp n1.log::MsAt R L.ms n1.rms::RrAt L.rr n1.rrd::Hs) w from hw).arr⟩
    rw [←hn2]
    refine (regroup_spec g2.lg g2.lb g2.sg g2.w1 g2.w64 hw).use ?_
    clear hw
    rintro _ w ⟨rfl,R2,e2,hw⟩
    obtain ⟨a,b,c,d,e,_⟩:=regroup_facts g2 pe2
    have hr2:n2.e.role=3:=by rw [hn2];exact h1
    have L2:RnL n2.regroup:=⟨a,b,c,e hr2,by show 1≤n2.id;rw [hn2,hn1];exact hid.1,by show n2.id≤15;rw [hn2,hn1];exact hid.2,by show rightSn n2.sn=true;rw [hn2,hn1];exact hsn⟩
    refine ⟨rfl,?_⟩
    refine (enter_spec (d:=⟨none,0,0⟩) (dt:=[]) a 0 ⟨rfl,Nat.le_refl _,fun h=>absurd rfl h⟩ (fun x hx=>by cases hx) hw).use ?_
    clear hw
    rintro _ w ⟨rfl,R3,e3,hw⟩
    obtain ⟨L3,r3,m3,t3⟩:=enter_facts L2 (d.trans hr2) 0 (dt:=[]) (fun x hx=>by cases hx)
    have hlr:n2.regroup.log.last=n.log.last:=by show n2.log.last=_;rw [hn2,hn1]
    have hmr:n2.regroup.rms=n1.rms:=by show n2.rms=_;rw [hn2]
    refine ⟨_,_,rfl,?_⟩
    refine (advance_spec' L3 (by rw [m3,hmr];omega) hw).use ?_
    clear hw
    rintro _ w ⟨rfl,hw⟩
    obtain ⟨L4,_,t4,m4⟩:=advance_facts L3
    refine ⟨rfl,?_⟩
    refine (all_spec' L4 (by omega) (by rw [m3,hmr] at m4;omega) hw).use ?_
    clear hw
    rintro _ w ⟨rfl,R4,e4,hw⟩
    exact ⟨rfl,rfl,R4,(e2.trans e3).trans e4,hw⟩
   ·rw [if_neg (by simp [h2])]
    exact ⟨rfl,R,.refl,NAt.iff.2 ⟨L,hn,hw.arr⟩⟩
end Go.Proofs.YthpmfnffkjjlnaaGreat
/- A node of a group: time, proposals, reads. Condition: bounds on numbers. -/
namespace Go.Proofs.YthpmfnffkjjlnaaGreat
set_option linter.unusedVariables false
set_option linter.unusedSimpArgs false
open Go Go.VC
open Go.Rf (Ey Lg LgOk)
variable {R R' R1 R2:Cx} {Hs Rest Rest2:List HP} {w:World} {p:Nat} {n m:Rn}
theorem run_len (e:Eln) (a b:Int) (h:rightG e.g.vs e.g.ls=true):(e.run a b).1.length≤15:=by
 have h15:=rises_len15 (right_rises h)
 unfold Eln.run
 split
 ·show (0:Nat)≤15;omega
 ·dsimp only
  split
  ·show (0:Nat)≤15;omega
  ·show ((List.filter _ _).map _).length≤15
   rw [List.length_map]
   exact Nat.le_trans (List.length_filter_le _ _) h15
theorem tick_len (e:Eln) (d a b:Int) (h:rightG e.g.vs e.g.ls=true):(e.tick d a b).1.length≤15:=by
 have h15:=rises_len15 (right_rises h)
 unfold Eln.tick
 split
 ·show (0:Nat)≤15;omega
 ·dsimp only
  split
  ·show (0:Nat)≤15;omega
  ·split
   ·exact run_len _ _ _ h
   ·show ((List.filter _ _).map _).length≤15
    rw [List.length_map]
    exact Nat.le_trans (List.length_filter_le _ _) h15
theorem ntick_spec (g:RnG n) (hpe:AllPe n) (hid:1≤n.id∧n.id≤15) (hsn:rightSn n.sn=true) (he:ElnOk n.e) (hwt:n.e.wait<4611686018427387904) (hlast:n.log.last≤1000000000) (hl:n.rms.length≤999900000) (hr:n.e.role≠3) (draw:Int) (hw:Sat R (NAt R p n::Hs) w):
  Gets Tryz.prog 10 #[.pointer (some ⟨p,0,none⟩),.int .i64 draw] w fun v w'=>v=.tuple #[]∧∃ R',R.Ext R'∧Sat R' (NAt R' p (n.tick draw)::Hs) w':=by
 obtain ⟨L,hn,hw⟩:=NAt.iff.1 hw
 apply call10
 refine NilP.mk rfl ⟨_,At.own (eqS hw) (by exact ⟨rfl,trivial⟩),?_⟩
 refine (erole_spec (hw.take (ElAt R L.ep n.e))).use ?_
 clear hw
 rintro _ w ⟨rfl,hw⟩
 have hw:=hw.take (pts p (nCells n L))
 refine ⟨_,rfl,Br.ne (fun _=>?_) (fun h=>absurd h hr)⟩
 refine drw_rule' (Sat R [pts p (nCells n L),VC.tru]) hw (fun w hw=>hw.k1) fun w hw=>NilP.mk rfl ⟨some ⟨L.ep,0,none⟩,At.own selfS (by exact ⟨rfl,trivial⟩),NilP.mk rfl ⟨_,At.own (eqS hw) (by exact ⟨rfl,trivial⟩),?_⟩⟩
 refine (llast_spec g.lg (hw.take (LgAt R L.lp n.log))).use ?_
 clear hw
 rintro _ w ⟨rfl,hw⟩
 refine ⟨_,rfl,hw.k1,?_⟩
 -- the term: the node is put together, and opened again
 obtain ⟨t,ht⟩:∃ t,t=(n.log.term n.log.last).1:=⟨_,rfl⟩
 have term:Gets Tryz.prog 40 #[.pointer (some ⟨p,0,none⟩)] w fun v w'=>v=.int .i64 t∧Sat R (pts p (nCells n L)::nHs R n L Hs) w':=by
  have hw:Sat R (pts p (nCells n L)::nHs R n L Hs) w:=hw.arr
  apply call40
  refine drw_rule' (Sat R [pts p (nCells n L),VC.tru]) hw (fun w hw=>hw.k1) fun w hw=>NilP.mk rfl ⟨_,At.own selfS (by exact ⟨rfl,trivial⟩),NilP.mk rfl ⟨_,At.own selfS (by exact ⟨rfl,trivial⟩),?_⟩⟩
  have hw:=hw.take (LgAt R L.lp n.log)
  refine (llast_spec g.lg hw).use ?_
  clear hw
  rintro _ w ⟨rfl,hw⟩
  refine ⟨_,rfl,hw.k1,?_⟩
  refine (lterm_spec g.lg _ hw).use ?_
  clear hw
  rintro _ w ⟨rfl,hw⟩
  exact ⟨_,_,rfl,hw.k1,by rw [ht],hw.arr⟩
 refine term.use ?_
 clear hw term
 rintro _ w ⟨rfl,hw⟩
 refine ⟨_,rfl,hw.k1,?_⟩
 refine (etick_spec he hwt draw n.log.last t (hw.take (ElAt R L.ep n.e))).use ?_
 clear hw
 rintro _ w ⟨s,rfl,hw⟩
 refine ⟨s,rfl,?_⟩
 obtain ⟨r,hrr⟩:∃ r,r=n.e.tick draw n.log.last t:=⟨_,rfl⟩
 rw [←hrr] at hw
 have hw:Sat R (pts p (nCells { n with e:=r.2 } L)::ElAt R L.ep r.2::LgAt R L.lp n.log::PsAt L.pm n.ps::RsAt L.rs n.rs::MsAt R L.ms n.rms::RrAt L.rr n.rrd::BlO s r.1::Hs) w:=hw.arr
 have hw:Sat R (NAt R p { n with e:=r.2 }::BlO s r.1::Hs) w:=NAt.iff.2 ⟨L,⟨hn.g,hn.sg,hn.sd⟩,hw⟩
 have hbl:=tick_len n.e draw n.log.last t he.g
 rw [←hrr] at hbl
 refine (voted_spec (n:={ n with e:=r.2 }) (led:=false) ⟨g.lg,g.lb,g.sg,g.w1,g.w64⟩ hpe hid hsn hlast hl (by omega) (fun h=>by cases h) hw.swap).use ?_
 rintro _ w ⟨rfl,R2,e2,hw⟩
 refine ⟨rfl,rfl,R2,e2,?_⟩
 have e:n.tick draw=Rn.voted { n with e:=r.2 } false r.1:=by unfold Rn.tick;rw [if_pos (by simpa using hr),hrr,ht]
 rw [e];exact hw
theorem lead_spec {d:Sl} {dt:List Int} (h:RnL n) (hr:n.e.role=3) (kd:Int) (hlast:n.log.last≤1000000000) (hl:n.rms.length≤999900000) (hd:SlR R.m d (b8 dt)) (hdb:bytesOk dt) (hw:Sat R (NAt R p n::Hs) w):
  Gets Tryz.prog 47 #[.pointer (some ⟨p,0,none⟩),.int .i64 kd,.slice d.a d.len d.cap] w fun v w'=>v=.tuple #[.int .i64 (n.lead kd dt).1.1,.int .i64 (n.lead kd dt).1.2]∧∃ R',R.Ext R'∧Sat R' (NAt R' p (n.lead kd dt).2::Hs) w':=by
 apply call47
 refine (enter_spec h.g kd hd hdb hw).use ?_
 clear hw
 rintro _ w ⟨rfl,R2,e2,hw⟩
 obtain ⟨L3,r3,m3,t3⟩:=enter_facts h hr kd hdb
 unfold Rn.lead
 dsimp only
 refine ⟨_,_,rfl,Br.ne (fun h1=>?_) (fun h1=>?_)⟩
 ·rw [if_pos (by simpa using h1)]
  exact ⟨rfl,R2,e2,hw⟩
 ·rw [if_neg (by simp [h1])]
  refine (advance_spec' L3 (by rw [m3];omega) hw).use ?_
  clear hw
  rintro _ w ⟨rfl,hw⟩
  obtain ⟨L4,_,t4,m4⟩:=advance_facts L3
  refine ⟨rfl,?_⟩
  refine (all_spec' L4 (by omega) (by rw [m3] at m4;omega) hw).use ?_
  clear hw
  rintro _ w ⟨rfl,R4,e4,hw⟩
  refine ⟨rfl,?_,R4,e2.trans e4,hw⟩
  show Value.tuple #[.int .i64 (n.enter kd dt).1.1,.int .i64 0]=_
  rw [h1]
theorem propose_spec {d:Sl} {dt:List Int} (h:n.e.role=3→RnL n) (hlast:n.e.role=3→n.log.last≤1000000000) (hl:n.rms.length≤999900000) (hd:SlR R.m d (b8 dt)) (hdb:bytesOk dt) (hw:Sat R (NAt R p n::Hs) w):
  Gets Tryz.prog 11 #[.pointer (some ⟨p,0,none⟩),.slice d.a d.len d.cap] w fun v w'=>v=.tuple #[.int .i64 (n.propose dt).1.1,.int .i64 (n.propose dt).1.2]∧∃ R',R.Ext R'∧Sat R' (NAt R' p (n.propose dt).2::Hs) w':=by
 obtain ⟨L,hn,hw⟩:=NAt.iff.1 hw
 have hdl:d.len=dt.length:=by have:=hd.len;simpa using this
 apply call11
 unfold Rn.propose
 refine NilP.mk rfl ⟨_,At.own (eqS hw) (by exact ⟨rfl,trivial⟩),?_⟩
 refine (erole_spec (hw.take (ElAt R L.ep n.e))).use ?_
 clear hw
 rintro _ w ⟨rfl,hw⟩
 have hw:Sat R (NAt R p n::Hs) w:=NAt.iff.2 ⟨L,hn,hw.arr⟩
 refine ⟨_,rfl,Br.ne (fun h1=>?_) (fun h1=>?_)⟩
 ·rw [if_pos (by simpa using h1)]
  exact ⟨rfl,R,.refl,hw⟩
 rw [if_neg (by simp [h1])]
 with_reducible refine Br.d (fun h2=>?_) (fun h2=>?_)
 ·rw [if_pos (by omega)]
  exact ⟨rfl,R,.refl,hw⟩
 rw [if_neg (by omega)]
 have hdt:dt.length≤4096:=by omega
 refine (clone_spec (hd.ro (by rw [List.length_map];omega)) (by omega) hw).use ?_
 clear hw
 rintro _ w ⟨t,rfl,hw⟩
 obtain ⟨R2,e2,ht,hw⟩:=Own.leak hw
 refine ⟨t,rfl,?_⟩
 refine (lead_spec (h h1) h1 1 (hlast h1) hl ht hdb (NAt.ext hw e2)).use ?_
 clear hw
 rintro _ w ⟨rfl,R3,e3,hw⟩
 exact ⟨_,_,rfl,rfl,R3,e2.trans e3,hw⟩
theorem elRq:ElN Tryz.prog 56 56 112 4 48:=⟨Tryz.underlying56,⟨_,Tryz.underlying56⟩,by kernel_rfl⟩
theorem elRr:ElN Tryz.prog 42 42 50 2 16:=⟨Tryz.underlying42,⟨_,Tryz.underlying42⟩,by kernel_rfl⟩
theorem RsAt.len {s:Sl} {rs:List Rq} (hw:Sat R (RsAt s rs::Hs) w):s.len=rs.length:=by
 obtain ⟨l,h1,h2⟩:=RsAt.iff.1 hw
 subst h1
 have:=OwnN.len h2
 simpa using this
theorem RsAt.push {s t:Sl} {rs:List Rq} {r:Rq} {b:Nat} {T':TypeId} {K:Sl→World→Prop} (hl:rs.length≤1000) (hw:Sat R (pts b (.cells (rqRow (t,r)).toArray T' (0,0))::RsAt s rs::Own t 3 (ints r.bh)::Hs) w)
  (k:∀ s' w',Sat R (RsAt s' (rs++[r])::Hs) w'→K s' w'):
  ∃ w',∃ u:Sl,(Builtin.append_ #[ 56,56 ] 56 #[.slice s.a s.len s.cap,.slice (some ⟨b,0,none⟩) 1 1]).run Tryz.prog w=.ok (.slice u.a u.len u.cap) w'∧K u w':=by
 obtain ⟨l,h1,hw1⟩:=RsAt.iff.1 hw.swap
 subst h1
 rw [List.length_map] at hl
 have h2:Sat R (OwnN 4 s 112 (l.map rqRow)::pts b (.cells (rqRow (t,r)).toArray T' (0,0))::Own t 3 (ints r.bh)::(l.map rqHP++Hs)) w:=hw1.cons fun _ h=>by
  refine h.perm ?_
  refine (List.perm_middle (l₁:=l.map rqHP) (a:=pts b (.cells (rqRow (t,r)).toArray T' (0,0))) (l₂:=Own t 3 (ints r.bh)::Hs)).trans (List.Perm.cons _ ?_)
  exact List.perm_middle
 refine pushN_in elRq h2 rfl rfl (by rw [List.length_map];omega) (by rw [List.length_map];omega) fun s2 w hw=>k s2 w ?_
 refine RsAt.iff.2 ⟨l++[(t,r)],by rw [List.map_append];rfl,?_⟩
 rw [List.map_append,List.map_append]
 refine hw.cons fun _ h=>h.perm ?_
 rw [List.append_assoc]
 exact (List.perm_middle (l₁:=l.map rqHP) (a:=rqHP (t,r)) (l₂:=Hs)).symm
theorem read_spec (h:n.e.role=3→RnL n) (g:RnG n) (tok:Int) (hrnd:0≤n.rnd∧n.rnd<4611686018427387904) (hl:n.rms.length≤999900000) (hrr:n.rrd.length≤1000000000) (hw:Sat R (NAt R p n::Hs) w):
  Gets Tryz.prog 12 #[.pointer (some ⟨p,0,none⟩),.int .i64 tok] w fun v w'=>v=.int .i64 (n.read tok).1∧Sat R (NAt R p (n.read tok).2::Hs) w':=by
 apply call12
 unfold Rn.read
 refine ⟨fun w=>(n.own=true∧¬ ((n.rs.length:Int) ≥ 64))∧Sat R (NAt R p n::Hs) w,?_,?_⟩
 ·refine (own_spec g.lg hw).use ?_
  clear hw
  rintro _ w ⟨rfl,hw⟩
  refine ⟨_,rfl,Br.nb (fun h1=>⟨by rw [h1];rfl,by rw [h1];exact hw⟩) (fun h1=>?_)⟩
  obtain ⟨L,hn,hw⟩:=NAt.iff.1 hw
  have hsl:=RsAt.len (hw.take (RsAt L.rs n.rs))
  refine NilP.mk rfl ⟨L.rs,At.own (eqS hw) (by exact ⟨rfl,trivial⟩),?_⟩
  rw [hsl]
  refine Br.d (fun h2=>?_) (fun h2=>⟨⟨h1,h2⟩,NAt.iff.2 ⟨L,hn,hw⟩⟩)
  rw [if_pos (by rw [decide_eq_true h2];simp)]
  exact ⟨rfl,NAt.iff.2 ⟨L,hn,hw⟩⟩
 clear hw
 rintro _ w ⟨⟨h1,h2⟩,hw⟩
 have hr:n.e.role=3:=by
  unfold Rn.own at h1
  simp only [Bool.and_eq_true,beq_iff_eq] at h1
  exact h1.2
 have hL:=h hr
 rw [if_neg (by rw [h1,decide_eq_false h2];simp)]
 obtain ⟨L,hn,hw⟩:=NAt.iff.1 hw
 refine NilP.mk rfl ⟨_,At.own (eqS hw) (by exact ⟨rfl,trivial⟩),?_⟩
 refine (lcommitted_spec (hw.take (LgAt R L.lp n.log))).use ?_
 clear hw
 rintro _ w ⟨rfl,hw⟩
 refine ⟨_,rfl,new_rule hw fun b w hw=>?_⟩
 refine store_rule hw (by kernel_rfl) rfl (by simp [Value.cells,putL_len]) fun w hw=>?_
 have hw:=hw.re (pts b (.cells (rrRow (tok,n.log.com)).toArray 50 (0,0)))
 refine NilP.mk rfl ⟨n.id,At.own (eqS hw) (by exact ⟨rfl,trivial⟩),new_rule hw fun b2 w hw=>NilP.mk rfl ⟨L.gv,L.gl,At.own (eqS hw) (by exact ⟨rfl,rfl,trivial⟩),?_⟩⟩
 have hw:=own_lit hw
 have hw:=hw.re (Own ⟨some ⟨b2,0,none⟩,1,1⟩ 3 (ints [n.id]))
 obtain ⟨R2,hb,keep,hw,back⟩:=Own.lendI hw (by simp)
 refine (wins_spec hw (keep _ _ hn.g.v) (keep _ _ hn.g.l) hb).use ?_
 clear hw
 rintro _ w ⟨rfl,hw⟩
 have hw:=back hw
 refine ⟨_,rfl,Br.mk (fun h3=>?_) (fun h3=>?_)⟩
 ·rw [if_pos h3]
  have hw:=hw.drop
  refine drw_rule' (Sat R [pts p (nCells n L),pts b (.cells (rrRow (tok,n.log.com)).toArray 50 (0,0)),VC.tru]) hw (fun w hw=>hw.k2) fun w hw=>NilP.mk rfl ⟨L.rr,At.own selfS (by exact ⟨rfl,trivial⟩),tok,n.log.com,At.own selfS (by exact ⟨rfl,rfl,trivial⟩),new_rule hw fun b3 w hw=>⟨hw.k2,?_⟩⟩
  have hw:=hw.re (pts b3 (.cells (rrRow (tok,n.log.com)).toArray 50 (0,0)))
  have hw:=hw.swap.cons fun _ h=>h
  have hw:=hw.take (RrAt L.rr n.rrd)
  have hw:=hw.cons fun _ h=>h.take (pts b3 (.cells (rrRow (tok,n.log.com)).toArray 50 (0,0)))
  refine pushN_in elRr hw rfl rfl (by rw [List.length_map];omega) (by rw [List.length_map];omega) fun s2 w hw=>⟨hw.k2,NilP.mk rfl ?_⟩
  refine store_rule hw (by kernel_rfl) rfl (by simp [Value.cells,putL_len]) fun w hw=>?_
  have hw:=hw.re (pts p (nCells { n with rrd:=n.rrd++[(tok,n.log.com)] } { L with rr:=s2 }))
  have hw:=(hw.take (pts b (.cells (rrRow (tok,n.log.com)).toArray 50 (0,0)))).drop
  refine ⟨rfl,NAt.iff.2 ⟨{ L with rr:=s2 },⟨hn.g,hn.sg,hn.sd⟩,?_⟩⟩
  have hw:Sat R (pts p (nCells { n with rrd:=n.rrd++[(tok,n.log.com)] } { L with rr:=s2 })::RrAt s2 (n.rrd++[(tok,n.log.com)])::LgAt R L.lp n.log::ElAt R L.ep n.e::PsAt L.pm n.ps::RsAt L.rs n.rs::MsAt R L.ms n.rms::Hs) w:=by
   unfold RrAt
   rw [List.map_append];exact hw
  exact hw.arr
 ·rw [if_neg (by rw [h3];simp)]
  refine NilP.mk rfl ⟨n.rnd,At.own (eqS hw) (by exact ⟨rfl,trivial⟩),NilP.mk rfl ?_⟩
  rw [wrap64 (by omega) (by omega)]
  have hw:=hw.take (pts p (nCells n L))
  refine store_rule hw (by kernel_rfl) rfl (by simp [Value.cells,putL_len]) fun w hw=>?_
  have hw:=hw.re (pts p (nCells { n with rnd:=n.rnd + 1 } L))
  refine drw_rule' (Sat R [pts p (nCells { n with rnd:=n.rnd + 1 } L),pts b (.cells (rrRow (tok,n.log.com)).toArray 50 (0,0)),VC.tru]) hw (fun w hw=>hw.k2) fun w hw=>NilP.mk rfl ⟨L.rs,At.own selfS (by exact ⟨rfl,trivial⟩),tok,n.log.com,At.own selfS (by exact ⟨rfl,rfl,trivial⟩),NilP.mk rfl ⟨n.rnd + 1,At.own selfS (by exact ⟨rfl,trivial⟩),new_rule hw fun b3 w hw=>⟨hw.k2,?_⟩⟩⟩
  have hw:=hw.re (pts b3 (.cells (rqRow (⟨some ⟨b2,0,none⟩,1,1⟩,⟨tok,n.log.com,n.rnd + 1,[n.id]⟩)).toArray 112 (0,0)))
  have hw:=hw.cons fun _ h=>(h.take (RsAt L.rs n.rs)).cons fun _ h=>h.take (Own ⟨some ⟨b2,0,none⟩,1,1⟩ 3 (ints [n.id]))
  refine RsAt.push (t:=(⟨some ⟨b2,0,none⟩,1,1⟩:Sl)) (r:=(⟨tok,n.log.com,n.rnd + 1,[n.id]⟩:Rq)) (by omega) hw fun s2 w hw=>⟨hw.k2,NilP.mk rfl ?_⟩
  refine store_rule hw (by kernel_rfl) rfl (by simp [Value.cells,putL_len]) fun w hw=>?_
  obtain ⟨n2,hn2⟩:∃ n2:Rn,n2={ n with rnd:=n.rnd + 1,rs:=n.rs++[⟨tok,n.log.com,n.rnd + 1,[n.id]⟩] }:=⟨_,rfl⟩
  have hw:=hw.re (pts p (nCells { n with rnd:=n.rnd + 1,rs:=n.rs++[⟨tok,n.log.com,n.rnd + 1,[n.id]⟩] } { L with rs:=s2 }))
  have hw:=(hw.take (pts b (.cells (rrRow (tok,n.log.com)).toArray 50 (0,0)))).drop
  have hw:Sat R (NAt R p n2::Hs) w:=by
   rw [hn2]
   exact NAt.iff.2 ⟨{ L with rs:=s2 },⟨hn.g,hn.sg,hn.sd⟩,(show Sat R (pts p (nCells { n with rnd:=n.rnd + 1,rs:=n.rs++[⟨tok,n.log.com,n.rnd + 1,[n.id]⟩] } { L with rs:=s2 })::RsAt s2 (n.rs++[⟨tok,n.log.com,n.rnd + 1,[n.id]⟩])::LgAt R L.lp n.log::ElAt R L.ep n.e::PsAt L.pm n.ps::MsAt R L.ms n.rms::RrAt L.rr n.rrd::Hs) w from hw).arr⟩
  rw [←hn2]
  obtain ⟨l,hll⟩:=Option.isSome_iff_exists.1 hL.sm
  refine (beats_spec (n:=n2) (l:=l) (by rw [hn2];exact hll) (by rw [hn2];exact hL.pk l hll) (by rw [hn2];show n.rms.length≤_;omega) hw).use ?_
  clear hw
  rintro _ w ⟨rfl,hw⟩
  exact ⟨rfl,rfl,hw⟩
end Go.Proofs.YthpmfnffkjjlnaaGreat
/- Hard states that are the same, by Go's '=='. No condition. -/
namespace Go.Proofs.YthpmfnffkjjlnaaGreat
set_option linter.unusedVariables false
set_option linter.unusedSimpArgs false
open Go Go.VC
theorem hard_eq1 (x y x' y':Int) (w:World):(Op.equal 29 (.agg #[.int .i64 x,.int .i64 y]) (.agg #[.int .i64 x',.int .i64 y'])).run Tryz.prog w=.ok (decide (x=x'∧y=y')) w:=by
 show (Op.equalIn (9999 + 1) _ _ _).run _ _=_
 rw [run_equalIn_struct w 9999 29 _ _ (by kernel_rfl) (by kernel_rfl)]
 have hf : (Tryz.prog.fieldsOf 29).toList = [⟨"Term", 3, 0, false, "", "", 0⟩, ⟨"Vote", 3, 1, false, "", "", 8⟩] := by kernel_rfl
 rw [hf]
 have p:∀ (xs:Array Value) (i:Nat) (v:Value),xs[i]? =some v→(part 3 xs i).run Tryz.prog w=.ok v w:=fun xs i v h=>run_part_plain (P:=Tryz.prog) (w:=w) (e:=3) (by kernel_rfl) h
 have e:∀ a b:Int,(Op.equalIn 9999 3 (.int .i64 a) (.int .i64 b)).run Tryz.prog w=.ok (a==b) w:=fun a b=>run_equalIn_int w 9998 3 .i64 .i64 a b Tryz.underlying3
 unfold Op.eqFields
 rw [if_pos (by simp),Sem.run_bind,p _ 0 (.int .i64 x) rfl,Result.andThen_ok,Sem.run_bind,p _ 0 (.int .i64 x') rfl,Result.andThen_ok,Sem.run_bind,e,Result.andThen_ok]
 by_cases h1:x=x'
 ·subst h1
  rw [if_neg (by simp)]
  unfold Op.eqFields
  rw [if_pos (by simp),Sem.run_bind,p _ 1 (.int .i64 y) rfl,Result.andThen_ok,Sem.run_bind,p _ 1 (.int .i64 y') rfl,Result.andThen_ok,Sem.run_bind,e,Result.andThen_ok]
  by_cases h2:y=y'
  ·subst h2
   rw [if_neg (by simp)]
   unfold Op.eqFields
   simp
  ·rw [if_pos (by simp [h2]),Sem.run_pure,decide_eq_false (fun h=>h2 h.2)]
 ·rw [if_pos (by simp [h1]),Sem.run_pure,decide_eq_false (fun h=>h1 h.1)]
theorem hard_guard (op:BinOp) (x y x' y':Int) (w:World) (a b:Operand):(eqGuard op 29 a b (.agg #[.int .i64 x,.int .i64 y]) (.agg #[.int .i64 x',.int .i64 y'])).run Tryz.prog w=.ok () w:=by
 have h:Tryz.prog.eqGuardType Tryz.prog.depth 29=false:=by kernel_rfl
 unfold eqGuard
 cases op<;>simp [h]
theorem hard_neq (x y x' y':Int) (a b:Operand) (w:World):((do eqGuard BinOp.neq 29 a b (.agg #[.int .i64 x,.int .i64 y]) (.agg #[.int .i64 x',.int .i64 y']);binOp BinOp.neq 29 (.agg #[.int .i64 x,.int .i64 y]) (.agg #[.int .i64 x',.int .i64 y']):Sem Value)).run Tryz.prog w=.ok (.bool (!decide (x=x'∧y=y'))) w:=by
 rw [Sem.run_bind,hard_guard,Result.andThen_ok]
 show (do pure (.bool (!(←Op.equal 29 _ _))):Sem Value).run _ _=_
 rw [Sem.run_bind,hard_eq1,Result.andThen_ok,Sem.run_pure]
end Go.Proofs.YthpmfnffkjjlnaaGreat
/- A node of a group: what is new; New. Condition: bounds on numbers. -/
namespace Go.Proofs.YthpmfnffkjjlnaaGreat
set_option linter.unusedVariables false
set_option linter.unusedSimpArgs false
open Go Go.VC
open Go.Rf (Ey Lg LgOk)
variable {R R' R1 R2:Cx} {Hs Rest Rest2:List HP} {w:World} {p:Nat} {n m:Rn}
structure RLo where
 v:Sl
 l:Sl
 d:Sl
 ms:Sl
 rr:Sl
abbrev rdyRow (r:Rdy) (L:RLo):List Value:=[.bool r.hn,.int .i64 r.hd.tm,.int .i64 r.hd.vt,.bool r.sn',.int .i64 r.sn.ix,.int .i64 r.sn.tm,.slice L.v.a L.v.len L.v.cap,.slice L.l.a L.l.len L.l.cap,.slice L.d.a L.d.len L.d.cap,.int .i64 r.fr,.slice L.ms.a L.ms.len L.ms.cap,.slice L.rr.a L.rr.len L.rr.cap]
abbrev rdyVal (r:Rdy) (L:RLo):Value:=.agg #[.bool r.hn,.int .i64 r.hd.tm,.int .i64 r.hd.vt,.bool r.sn',.int .i64 r.sn.ix,.int .i64 r.sn.tm,.slice L.v.a L.v.len L.v.cap,.slice L.l.a L.l.len L.l.cap,.slice L.d.a L.d.len L.d.cap,.int .i64 r.fr,.slice L.ms.a L.ms.len L.ms.cap,.slice L.rr.a L.rr.len L.rr.cap]
abbrev rdyCells (r:Rdy) (L:RLo):Obj:=.cells (rdyRow r L).toArray 44 (0,0)
structure RdIn (R:Cx) (r:Rdy) (L:RLo):Prop where
 g:GpIn R r.sn.g L.v L.l
 d:SlR R.m L.d (b8 r.sn.dt)
def OutQ (R:Cx) (Hs:List HP) (p:Nat) (x:Rdy × Rn) (v:Value) (w:World):Prop:=∃ R' L,R.Ext R'∧RdIn R' x.1 L∧v=rdyVal x.1 L∧Sat R' (MsAt R' L.ms x.1.ms::RrAt L.rr x.1.rd::NAt R' p x.2::Hs) w
theorem out_spec (hsn:rightSn n.sn=true) (hw:Sat R (NAt R p n::Hs) w):Gets Tryz.prog 13 #[.pointer (some ⟨p,0,none⟩)] w (OutQ R Hs p n.out):=by
 obtain ⟨L,hn,hw⟩:=NAt.iff.1 hw
 apply call13
 have hb:n.sn.g.vs.length≤15∧n.sn.g.ls.length≤15∧n.sn.dt.length≤60000:=by
  unfold rightSn at hsn
  simp only [Bool.and_eq_true,decide_eq_true_eq] at hsn
  exact ⟨rises_len15 (right_rises hsn.1.2),rises_len15 (right_risesL hsn.1.2),hsn.2⟩
 obtain ⟨r0,hr0⟩:∃ r0:Rdy,r0=⟨false,⟨0,0⟩,n.rsn,sn0,n.rfr,n.rms,n.rrd⟩:=⟨_,rfl⟩
 obtain ⟨L0,hL0⟩:∃ L0:RLo,L0=⟨⟨none,0,0⟩,⟨none,0,0⟩,⟨none,0,0⟩,L.ms,L.rr⟩:=⟨_,rfl⟩
 obtain ⟨rz,hrz⟩:∃ rz:Rdy,rz=⟨false,⟨0,0⟩,false,sn0,0,[],[]⟩:=⟨_,rfl⟩
 obtain ⟨Lz,hLz⟩:∃ Lz:RLo,Lz=⟨⟨none,0,0⟩,⟨none,0,0⟩,⟨none,0,0⟩,⟨none,0,0⟩,⟨none,0,0⟩⟩:=⟨_,rfl⟩
 refine new_rule hw fun b w hw=>?_
 have hw:=hw.re (pts b (rdyCells rz Lz)) (by rw [hrz,hLz];rfl)
 refine NilP.mk rfl ⟨false,0,0,n.rsn,0,0,⟨none,0,0⟩,⟨none,0,0⟩,⟨none,0,0⟩,n.rfr,L.ms,L.rr,At.own (eqS hw) (by exact ⟨rfl,rfl,rfl,rfl,rfl,rfl,rfl,rfl,rfl,rfl,rfl,rfl,trivial⟩),new_rule hw fun b2 w hw=>?_⟩
 refine store_rule hw (by kernel_rfl) rfl (by simp [Value.cells,putL_len]) fun w hw=>?_
 have hw:=hw.re (pts b2 (rdyCells r0 L0)) (by rw [hr0,hL0];rfl)
 refine NilP.mk rfl ?_
 have hw:=hw.take (pts p (nCells n L))
 refine store_rule hw (by kernel_rfl) rfl (by simp [Value.cells,putL_len]) fun w hw=>?_
 obtain ⟨n1,hn1⟩:∃ n1:Rn,n1={ n with rsn:=false,rfr:=0,rms:=[],rrd:=[] }:=⟨_,rfl⟩
 obtain ⟨L1,hL1⟩:∃ L1:NLo,L1={ L with ms:=⟨none,0,0⟩,rr:=⟨none,0,0⟩ }:=⟨_,rfl⟩
 have hw:=hw.re (pts p (nCells n1 L1)) (by rw [hn1,hL1];rfl)
 have hin1:NIn R n1 L1:=by rw [hn1,hL1];exact ⟨hn.g,hn.sg,hn.sd⟩
 have eE:ElAt R L.ep n.e=ElAt R L1.ep n1.e:=by rw [hL1,hn1]
 have eL:LgAt R L.lp n.log=LgAt R L1.lp n1.log:=by rw [hL1,hn1]
 have eP:PsAt L.pm n.ps=PsAt L1.pm n1.ps:=by rw [hL1,hn1]
 have eR:RsAt L.rs n.rs=RsAt L1.rs n1.rs:=by rw [hL1,hn1]
 have eM:MsAt R L.ms n.rms=MsAt R L0.ms r0.ms:=by rw [hL0,hr0]
 have eQ:RrAt L.rr n.rrd=RrAt L0.rr r0.rd:=by rw [hL0,hr0]
 have hw:Sat R (pts p (nCells n1 L1)::pts b2 (rdyCells r0 L0)::pts b (rdyCells rz Lz)::ElAt R L1.ep n1.e::LgAt R L1.lp n1.log::PsAt L1.pm n1.ps::RsAt L1.rs n1.rs::MsAt R L0.ms r0.ms::RrAt L0.rr r0.rd::Hs) w:=by
  rw [←eE,←eL,←eP,←eR,←eM,←eQ];exact hw.arr
 -- the end, alike on each way
 obtain ⟨TAILF,hTF⟩:∃ TAILF:World→Prop,TAILF=fun w=>∃ t1 t2 t3 t4 t5 t6,∃ t7 t8 t9:Sl,∃ t10,∃ t11 t12:Sl,At (fun w'=>w'=w) ⟨b2,0,none⟩ [.bool t1,.int .i64 t2,.int .i64 t3,.bool t4,.int .i64 t5,.int .i64 t6,.slice t7.a t7.len t7.cap,.slice t8.a t8.len t8.cap,.slice t9.a t9.len t9.cap,.int .i64 t10,.slice t11.a t11.len t11.cap,.slice t12.a t12.len t12.cap]∧
   ∃ w':World,((Instr.storeAt 44 (.pointer ((some ⟨b,0,none⟩))) (.agg #[.bool t1,.int .i64 t2,.int .i64 t3,.bool t4,.int .i64 t5,.int .i64 t6,.slice t7.a t7.len t7.cap,.slice t8.a t8.len t8.cap,.slice t9.a t9.len t9.cap,.int .i64 t10,.slice t11.a t11.len t11.cap,.slice t12.a t12.len t12.cap])).run Tryz.prog w=.ok () w')∧
   ∃ t1 t2 t3 t4 t5 t6,∃ t7 t8 t9:Sl,∃ t10,∃ t11 t12:Sl,At (fun w''=>w''=w') ⟨b,0,none⟩ [.bool t1,.int .i64 t2,.int .i64 t3,.bool t4,.int .i64 t5,.int .i64 t6,.slice t7.a t7.len t7.cap,.slice t8.a t8.len t8.cap,.slice t9.a t9.len t9.cap,.int .i64 t10,.slice t11.a t11.len t11.cap,.slice t12.a t12.len t12.cap]∧
   OutQ R Hs p n.out (.agg #[.bool t1,.int .i64 t2,.int .i64 t3,.bool t4,.int .i64 t5,.int .i64 t6,.slice t7.a t7.len t7.cap,.slice t8.a t8.len t8.cap,.slice t9.a t9.len t9.cap,.int .i64 t10,.slice t11.a t11.len t11.cap,.slice t12.a t12.len t12.cap]) w':=⟨_,rfl⟩
 have tail:∀ {R2:Cx} {r:Rdy} {n2:Rn} {Lr:RLo} {w:World},R.Ext R2→n.out=(r,n2)→RdIn R2 r Lr→NIn R n2 L1→r.ms=r0.ms→r.rd=r0.rd→Lr.ms=L0.ms→Lr.rr=L0.rr→n2.e=n1.e→n2.log=n1.log→n2.ps=n1.ps→n2.rs=n1.rs→n2.rms=[]→n2.rrd=[]→L1.ms=⟨none,0,0⟩→L1.rr=⟨none,0,0⟩→
   Sat R2 (pts p (nCells n2 L1)::pts b2 (rdyCells r Lr)::pts b (rdyCells rz Lz)::ElAt R L1.ep n1.e::LgAt R L1.lp n1.log::PsAt L1.pm n1.ps::RsAt L1.rs n1.rs::MsAt R L0.ms r0.ms::RrAt L0.rr r0.rd::Hs) w→
   TAILF w:=by
  intro R2 r n2 Lr w e ho hri hni h1 h2 h3 h4 h5 h6 h7 h8 h9 h10 h11 h12 hw
  rw [hTF]
  refine ⟨r.hn,r.hd.tm,r.hd.vt,r.sn',r.sn.ix,r.sn.tm,Lr.v,Lr.l,Lr.d,r.fr,Lr.ms,Lr.rr,At.own (eqS hw) (by exact ⟨rfl,rfl,rfl,rfl,rfl,rfl,rfl,rfl,rfl,rfl,rfl,rfl,trivial⟩),?_⟩
  have hw:=hw.take (pts b (rdyCells rz Lz))
  refine store_rule hw (by kernel_rfl) rfl (by simp [Value.cells,putL_len]) fun w hw=>?_
  have hw:=hw.re (pts b (rdyCells r Lr))
  refine ⟨r.hn,r.hd.tm,r.hd.vt,r.sn',r.sn.ix,r.sn.tm,Lr.v,Lr.l,Lr.d,r.fr,Lr.ms,Lr.rr,At.own (eqS hw) (by exact ⟨rfl,rfl,rfl,rfl,rfl,rfl,rfl,rfl,rfl,rfl,rfl,rfl,trivial⟩),?_⟩
  rw [ho]
  have hw:=(hw.drop.take (pts b2 (rdyCells r Lr))).drop
  have hw:=LgAt.ext (hw.take (LgAt R L1.lp n1.log)) e
  have hw:=ElAt.ext (hw.take (ElAt R L1.ep n1.e)) e
  have hw:=MsAt.ext (hw.take (MsAt R L0.ms r0.ms)) e
  have hw:=MsAt.nil (R1:=R2) (OwnN.nil (n:=2) (T:=50) hw)
  have hw:=hw.re (MsAt R2 L1.ms n2.rms) (by rw [h9,h11])
  have hw:=hw.swap.re (RrAt L1.rr n2.rrd) (by rw [h10,h12];rfl)
  rw [←h5,←h6,←h7,←h8,←h1,←h2,←h3,←h4] at hw
  refine ⟨R2,Lr,e,hri,rfl,?_⟩
  have hw:=hw.take (RrAt Lr.rr r.rd)
  have hw:=hw.take (MsAt R2 Lr.ms r.ms)
  refine hw.cons fun _ h=>h.cons fun _ h=>NAt.iff.2 ⟨L1,hni.ext e,?_⟩
  exact h.arr
 refine NilP.mk rfl ⟨some ⟨L1.ep,0,none⟩,At.own (eqS hw) (by exact ⟨rfl,trivial⟩),?_⟩
 refine (ehard_spec (hw.take (ElAt R L1.ep n1.e))).use ?_
 clear hw
 rintro _ w ⟨rfl,hw⟩
 have ee1:n1.e=n.e:=by rw [hn1]
 have et1:n1.told=n.told:=by rw [hn1]
 rw [ee1] at hw ⊢
 refine ⟨_,_,rfl,new_rule hw fun b3 w hw=>?_⟩
 refine store_rule hw (by kernel_rfl) rfl (by simp [Value.cells,putL_len]) fun w hw=>?_
 have hw:=hw.re (pts b3 (.cells [.int .i64 n.e.hd.tm,.int .i64 n.e.hd.vt].toArray 29 (0,0)))
 refine drw_rule' (Sat R [pts p (nCells n1 L1),pts b3 (.cells [.int .i64 n.e.hd.tm,.int .i64 n.e.hd.vt].toArray 29 (0,0)),VC.tru]) hw (fun w hw=>hw.k2) fun w hw=>⟨n.e.hd.tm,n.e.hd.vt,At.own selfS (by exact ⟨rfl,rfl,trivial⟩),NilP.mk rfl ⟨n1.told.tm,n1.told.vt,At.own selfS (by exact ⟨rfl,rfl,trivial⟩),_,fun w' _=>hard_neq _ _ _ _ _ _ w',?_⟩⟩
 rw [et1]
 have hL1m:L1.ms=⟨none,0,0⟩∧L1.rr=⟨none,0,0⟩:=by rw [hL1];exact ⟨rfl,rfl⟩
 have hL0m:L0.v=⟨none,0,0⟩∧L0.l=⟨none,0,0⟩∧L0.d=⟨none,0,0⟩:=by rw [hL0];exact ⟨rfl,rfl,rfl⟩
 have hnil:RdIn R ⟨false,⟨0,0⟩,false,sn0,0,[],[]⟩ ⟨⟨none,0,0⟩,⟨none,0,0⟩,⟨none,0,0⟩,⟨none,0,0⟩,⟨none,0,0⟩⟩:=by
  have h:=MgIn.nil (R:=R) (m:={ kd:=0 }) rfl rfl
  exact ⟨h.g,h.d⟩
 obtain ⟨nw,hnw⟩:∃ nw,nw=(n.e.hd.tm !=n.told.tm||n.e.hd.vt !=n.told.vt):=⟨_,rfl⟩
 have enw:(!decide (n.e.hd.tm=n.told.tm∧n.e.hd.vt=n.told.vt))=nw:=by
  rw [hnw,Bool.eq_iff_iff]
  simp only [Bool.not_eq_true',decide_eq_false_iff_not,Bool.or_eq_true,bne_iff_ne,ne_eq]
  omega
 rw [enw]
 -- the last part: the snapshot, if there is a new one
 have last:∀ {r1:Rdy} {n2:Rn} {w:World},r1.sn'=n.rsn→r1.sn=sn0→r1.ms=r0.ms→r1.rd=r0.rd→n.out=((if n.rsn then { r1 with sn:=n.sn } else r1),n2)→n2.sn=n.sn→NIn R n2 L1→n2.e=n1.e→n2.log=n1.log→n2.ps=n1.ps→n2.rs=n1.rs→n2.rms=[]→n2.rrd=[]→
   Sat R (pts p (nCells n2 L1)::pts b2 (rdyCells r1 L0)::pts b (rdyCells rz Lz)::ElAt R L1.ep n1.e::LgAt R L1.lp n1.log::PsAt L1.pm n1.ps::RsAt L1.rs n1.rs::MsAt R L0.ms r0.ms::RrAt L0.rr r0.rd::Hs) w→
   ∃ t32:Bool,(At (fun w'=>w'=w) ⟨b2,0 + 3,none⟩ [.bool t32])∧Br t32
    (NilP (some ⟨p,0,none⟩) fun a_t34=>∃ t36:Int,∃ t36_1:Int,∃ t36_2:Sl,∃ t36_3:Sl,∃ t36_4:Sl,(At (fun w'=>w'=w) ⟨a_t34.block,a_t34.off + 4,none⟩ [.int .i64 t36,.int .i64 t36_1,.slice t36_2.a t36_2.len t36_2.cap,.slice t36_3.a t36_3.len t36_3.cap,.slice t36_4.a t36_4.len t36_4.cap])∧
     Calls Tryz.prog 35 #[.agg #[.int .i64 t36,.int .i64 t36_1,.slice t36_2.a t36_2.len t36_2.cap,.slice t36_3.a t36_3.len t36_3.cap,.slice t36_4.a t36_4.len t36_4.cap]] w fun e_1 w_13=>
     ∃ t37:Int,∃ t37_1:Int,∃ t37_2:Sl,∃ t37_3:Sl,∃ t37_4:Sl,(e_1=.returned (.agg #[.int .i64 t37,.int .i64 t37_1,.slice t37_2.a t37_2.len t37_2.cap,.slice t37_3.a t37_3.len t37_3.cap,.slice t37_4.a t37_4.len t37_4.cap]))∧
     ∃ w_14:World,((Instr.storeAt 35 (.pointer ((some ⟨b2,0 + 4,none⟩))) (.agg #[.int .i64 t37,.int .i64 t37_1,.slice t37_2.a t37_2.len t37_2.cap,.slice t37_3.a t37_3.len t37_3.cap,.slice t37_4.a t37_4.len t37_4.cap])).run Tryz.prog w_13=.ok () w_14)∧TAILF w_14)
    (TAILF w):=by
  intro r1 n2 w h1 h2 h3 h4 ho hs hni e1 e2 e3 e4 e5 e6 hw
  refine ⟨n.rsn,by rw [←h1];exact At.own (eqS hw) (by exact ⟨rfl,trivial⟩),Br.mk (fun hr=>NilP.mk rfl ?_) (fun hr=>?_)⟩
  ·rw [if_pos hr] at ho
   refine ⟨n.sn.ix,n.sn.tm,L1.sv,L1.sl,L1.sd,by rw [←hs];exact At.own (eqS hw) (by exact ⟨rfl,rfl,rfl,rfl,rfl,trivial⟩),?_⟩
   have hsg:GpIn R n.sn.g L1.sv L1.sl:=by have:=hni.sg;rwa [hs] at this
   have hsd:SlR R.m L1.sd (b8 n.sn.dt):=by have:=hni.sd;rwa [hs] at this
   refine (snCopied_spec hsg hsd (by omega) (by omega) (by omega) hw).use ?_
   clear hw
   rintro _ w ⟨R2,v',l',d',ex,hg',hd',rfl,hw⟩
   refine ⟨_,_,v',l',d',rfl,?_⟩
   have hw:=hw.take (pts b2 (rdyCells r1 L0))
   refine store_rule hw (by kernel_rfl) rfl (by simp [Value.cells,putL_len]) fun w hw=>?_
   have hw:=hw.re (pts b2 (rdyCells { r1 with sn:=n.sn } { L0 with v:=v',l:=l',d:=d' }))
   exact tail (Lr:={ L0 with v:=v',l:=l',d:=d' }) ex ho ⟨hg',hd'⟩ hni h3 h4 rfl rfl e1 e2 e3 e4 e5 e6 hL1m.1 hL1m.2 hw.arr
  ·rw [if_neg (by rw [hr];simp)] at ho
   exact tail (Lr:=L0) .refl ho ⟨by rw [h2,hL0m.1,hL0m.2.1];exact hnil.g,by rw [h2,hL0m.2.2];exact hnil.d⟩ hni h3 h4 rfl rfl e1 e2 e3 e4 e5 e6 hL1m.1 hL1m.2 hw
 have hr0':r0.sn'=n.rsn∧r0.sn=sn0:=by rw [hr0];exact ⟨rfl,rfl⟩
 refine Br.mk (fun hb1=>?_) (fun hb1=>?_)
 ·refine drw_rule' (Sat R [pts b3 (.cells [.int .i64 n.e.hd.tm,.int .i64 n.e.hd.vt].toArray 29 (0,0)),VC.tru]) hw (fun w hw=>hw.k1) fun w hw=>⟨n.e.hd.tm,n.e.hd.vt,At.own selfS (by exact ⟨rfl,rfl,trivial⟩),n.e.hd.tm,n.e.hd.vt,At.own selfS (by exact ⟨rfl,rfl,trivial⟩),?_⟩
  have hw:=hw.take (pts b2 (rdyCells r0 L0))
  refine store_rule hw (by kernel_rfl) rfl (by simp [Value.cells,putL_len]) fun w hw=>?_
  have hw:=hw.re (pts b2 (rdyCells { r0 with hn:=true } L0))
  refine ⟨hw.k1,?_⟩
  refine store_rule hw (by kernel_rfl) rfl (by simp [Value.cells,putL_len]) fun w hw=>?_
  have hw:=hw.re (pts b2 (rdyCells { r0 with hn:=true,hd:=n.e.hd } L0))
  refine ⟨hw.k1,NilP.mk rfl ?_⟩
  have hw:=hw.take (pts p (nCells n1 L1))
  refine store_rule hw (by kernel_rfl) rfl (by simp [Value.cells,putL_len]) fun w hw=>?_
  have hw:=hw.re (pts p (nCells { n1 with told:=n.e.hd } L1))
  have hw:=(hw.take (pts b3 (.cells [.int .i64 n.e.hd.tm,.int .i64 n.e.hd.vt].toArray 29 (0,0)))).drop
  rw [hTF] at last
  refine last (r1:={ r0 with hn:=true,hd:=n.e.hd }) (n2:={ n1 with told:=n.e.hd }) hr0'.1 hr0'.2 rfl rfl ?_ (by rw [hn1]) ⟨hin1.g,hin1.sg,hin1.sd⟩ rfl rfl rfl rfl (by rw [hn1]) (by rw [hn1]) (by rw [ee1];exact hw.arr)
  unfold Rn.out
  dsimp only
  rw [←hnw,hb1,hn1,hr0]
  cases n.rsn<;>rfl
 ·have hw:=(hw.take (pts b3 (.cells [.int .i64 n.e.hd.tm,.int .i64 n.e.hd.vt].toArray 29 (0,0)))).drop
  rw [hTF] at last
  refine last (r1:=r0) (n2:=n1) hr0'.1 hr0'.2 rfl rfl ?_ (by rw [hn1]) hin1 rfl rfl rfl rfl (by rw [hn1]) (by rw [hn1]) (by rw [ee1];exact hw.arr)
  unfold Rn.out
  dsimp only
  rw [←hnw,hb1,hn1,hr0]
  cases n.rsn<;>rfl
end Go.Proofs.YthpmfnffkjjlnaaGreat
/- A node of a group: New, and what is told of it. Condition: bounds on numbers. -/
namespace Go.Proofs.YthpmfnffkjjlnaaGreat
set_option linter.unusedVariables false
set_option linter.unusedSimpArgs false
open Go Go.VC
open Go.Rf (Ey Lg LgOk)
variable {R R' R1 R2:Cx} {Hs Rest Rest2:List HP} {w:World} {p:Nat} {n m:Rn}
theorem _root_.Go.VC.Sat.k3 {A B C:HP} {R1 R2 R3:List HP} (hw:Sat R Hs w) [a:Take A Hs R1] [b:Take B R1 R2] [c:Take C R2 R3]:Sat R [A,B,C,VC.tru] w:=
 Sat.toTru (As:=[A,B,C]) ((hw.perm a.perm).cons fun _ h=>(h.perm b.perm).cons fun _ h=>h.perm c.perm)
theorem ncom_spec (hw:Sat R (NAt R p n::Hs) w):Gets Tryz.prog 15 #[.pointer (some ⟨p,0,none⟩)] w fun v w'=>v=.int .i64 n.log.com∧Sat R (NAt R p n::Hs) w':=by
 obtain ⟨L,hn,hw⟩:=NAt.iff.1 hw
 apply call15
 refine NilP.mk rfl ⟨_,At.own (eqS hw) (by exact ⟨rfl,trivial⟩),?_⟩
 refine (lcommitted_spec (hw.take (LgAt R L.lp n.log))).use ?_
 clear hw
 rintro _ w ⟨rfl,hw⟩
 exact ⟨_,rfl,rfl,NAt.iff.2 ⟨L,hn,hw.arr⟩⟩
theorem nget_spec (ok:LgOk n.log) (i most:Int) (hw:Sat R (NAt R p n::Hs) w):Gets Tryz.prog 14 #[.pointer (some ⟨p,0,none⟩),.int .i64 i,.int .i64 most] w fun v w'=>
  ∃ R' t ds,R.Ext R'∧DsR R' ds∧erE ds=n.log.get i most∧v=.slice t.a t.len t.cap∧Sat R' (EntO t ds::NAt R' p n::Hs) w':=by
 obtain ⟨L,hn,hw⟩:=NAt.iff.1 hw
 apply call14
 refine NilP.mk rfl ⟨_,At.own (eqS hw) (by exact ⟨rfl,trivial⟩),?_⟩
 refine (lget_spec ok i most (hw.take (LgAt R L.lp n.log))).use ?_
 clear hw
 rintro _ w ⟨R2,t,ds,e2,hd,he,rfl,hw⟩
 refine ⟨t,rfl,R2,t,ds,e2,hd,he,rfl,hw.cons fun _ h=>?_⟩
 have e2':=e2
 exact NAt.iff.2 ⟨L,hn.ext e2,(show Sat _ (LgAt R2 L.lp n.log::pts p (nCells n L)::ElAt R L.ep n.e::PsAt L.pm n.ps::RsAt L.rs n.rs::MsAt R L.ms n.rms::RrAt L.rr n.rrd::Hs) _ from h).arr (Hs':=pts p (nCells n L)::ElAt R L.ep n.e::LgAt R2 L.lp n.log::PsAt L.pm n.ps::RsAt L.rs n.rs::MsAt R L.ms n.rms::RrAt L.rr n.rrd::Hs)|>.cons fun _ h=>Sat.cons (fun _ h=>h.cons fun _ h=>h.cons fun _ h=>h.cons fun _ h=>MsAt.ext h e2) (ElAt.ext h e2)⟩
theorem elOk_bd {id pat:Int} {h:Hd} {g:Gp} (ok:elOk id h g pat=true):ElnOk (Eln.new id h g pat):=by
 unfold elOk rightN at ok
 simp only [Bool.and_eq_true,decide_eq_true_eq] at ok
 obtain ⟨⟨⟨⟨h1,h2⟩,h3⟩,h4⟩,h5⟩:=ok
 exact ⟨h1.1,h1.2,h4.1,h4.2,h2.1,h2.2,h3.1,h3.2,h5,Int.le_refl _,by simp [Eln.new],by simp [Eln.new]⟩
def rn0 (id:Int) (h:Hd) (s:Sn) (g:Lg) (pat win:Int):Rn:=⟨Eln.new id h s.g pat,id,win,g,s,⟨[],[]⟩,none,[],0,h,false,0,[],[]⟩
theorem rnew_spec {A:HP} {h:Hd} {s:Sn} {v l d ls:Sl} {ds:List DE4} (id pat win:Int) (hg:GpIn R s.g v l) (hd:SlR R.m d (b8 s.dt)) (hr:Rdg R A 4 ls (ds.map eRow)) (hds:DsR R ds) (hb:∀ e∈ds,bytesOk e.2.dt) (hl:ds.length≤1000000) (hw:Sat R (A::Hs) w):
  Gets Tryz.prog 9 #[.int .i64 id,.agg #[.int .i64 h.tm,.int .i64 h.vt],snVal s v l d,.slice ls.a ls.len ls.cap,.agg #[.int .i64 pat,.int .i64 win]] w fun r w'=>
   (∃ e,rnNew id h s (erE ds) pat win=(e,none)∧e≠0∧r=.tuple #[.pointer none,.int .i64 e]∧Sat R (A::Hs) w')∨
   (∃ n p R',rnNew id h s (erE ds) pat win=(0,some n)∧r=.tuple #[.pointer (some ⟨p,0,none⟩),.int .i64 0]∧R.Ext R'∧Sat R' (NAt R' p n::A::Hs) w'):=by
 apply call9
 obtain ⟨D,hD⟩:∃ D,D=rnNew id h s (erE ds) pat win:=⟨_,rfl⟩
 rw [←hD]
 unfold rnNew at hD
 refine new_rule hw fun b1 w hw=>new_rule hw fun b2 w hw=>new_rule hw fun b3 w hw=>?_
 have hw:Sat R (A::pts b1 (.cells [.int .i64 h.tm,.int .i64 h.vt].toArray 29 (0,0))::pts b2 (snCells s v l d)::pts b3 (.cells [.int .i64 pat,.int .i64 win].toArray 36 (0,0))::Hs) w:=hw.arr
 have no:∀ {e:Int} {w:World} {X:List HP},D=(e,none)→e≠0→Sat R (A::(X++Hs)) w→(∃ e',D=(e',none)∧e'≠0∧Value.tuple #[.pointer none,.int .i64 e]=.tuple #[.pointer none,.int .i64 e']∧Sat R (A::Hs) w)∨
   (∃ n p R',D=(0,some n)∧Value.tuple #[.pointer none,.int .i64 e]=.tuple #[.pointer (some ⟨p,0,none⟩),.int .i64 0]∧R.Ext R'∧Sat R' (NAt R' p n::A::Hs) w):=fun {e w X} h1 h2 h3=>.inl ⟨e,h1,h2,rfl,h3.cons fun _ h=>Sat.append_drop h⟩
 refine ⟨fun w=>(rightSn s=true∧¬ win<1∧¬ win>64)∧Sat R (A::pts b1 (.cells [.int .i64 h.tm,.int .i64 h.vt].toArray 29 (0,0))::pts b2 (snCells s v l d)::pts b3 (.cells [.int .i64 pat,.int .i64 win].toArray 36 (0,0))::Hs) w,?_,?_⟩
 ·refine ⟨_,_,v,l,d,At.own (eqS hw) (by exact ⟨rfl,rfl,rfl,rfl,rfl,trivial⟩),?_⟩
  refine (snRight_spec hg hd hw).use ?_
  clear hw
  rintro _ w ⟨rfl,hw⟩
  refine ⟨_,rfl,Br.nb (fun h1=>no (X:=[_,_,_]) (by rw [hD,h1];rfl) (by omega) hw) (fun h1=>⟨win,At.own (eqS hw) (by exact ⟨rfl,trivial⟩),?_⟩)⟩
  refine Br.d (fun h2=>no (X:=[_,_,_]) (by rw [hD,h1,decide_eq_true h2];rfl) (by omega) hw) (fun h2=>⟨win,At.own (eqS hw) (by exact ⟨rfl,trivial⟩),?_⟩)
  exact Br.d (fun h3=>no (X:=[_,_,_]) (by rw [hD,h1,decide_eq_true h3,Bool.or_true];rfl) (by omega) hw) (fun h3=>⟨⟨h1,h2,h3⟩,hw⟩)
 clear hw
 rintro _ w ⟨⟨h1,h2,h3⟩,hw⟩
 rw [if_neg (by rw [h1,decide_eq_false h2,decide_eq_false h3];simp)] at hD
 refine ⟨h.tm,h.vt,At.own (eqS hw) (by exact ⟨rfl,rfl,trivial⟩),v,l,At.own (eqS hw) (by exact ⟨rfl,rfl,trivial⟩),pat,At.own (eqS hw) (by exact ⟨rfl,trivial⟩),?_⟩
 refine (enew_spec (h:=h) (g:=s.g) id pat hg hw).use ?_
 clear hw
 rintro _ w (⟨ok,ep,rfl,hw⟩|⟨ok,rfl,hw⟩)
 rotate_left
 ·refine ⟨none,1,rfl,Br.t rfl (no (X:=[_,_,_]) ?_ (by omega) hw)⟩
  rw [hD,if_pos (by rw [ok];rfl)]
 rw [if_neg (by rw [ok];simp)] at hD
 have hsn:=h1
 unfold rightSn rightN at hsn
 simp only [Bool.and_eq_true,decide_eq_true_eq] at hsn
 refine ⟨some ⟨ep,0,none⟩,0,rfl,Br.f rfl ⟨s.ix,At.own (eqS hw) (by exact ⟨rfl,trivial⟩),s.tm,At.own (eqS hw) (by exact ⟨rfl,trivial⟩),?_⟩⟩
 refine (lnew_spec s.ix s.tm hw).use ?_
 clear hw
 have hin:(Rf.inIx s.ix && Rf.inIx s.tm)=true:=by unfold Rf.inIx;rw [decide_eq_true hsn.1.1.1,decide_eq_true hsn.1.1.2];rfl
 rintro _ w (⟨_,lp,rfl,hw⟩|⟨hno,_⟩)
 rotate_left
 ·rw [hin] at hno;cases hno
 have lok:LgOk (Lg.new s.ix s.tm):=by
  simp only [Bool.and_eq_true] at hin
  exact LgOk.new hin.1 hin.2
 obtain ⟨r,hrr⟩:∃ r,r=(Lg.new s.ix s.tm).add (erE ds):=⟨_,rfl⟩
 rw [←hrr] at hD
 refine ⟨some ⟨lp,0,none⟩,0,rfl,fun e w=>e=r.1∧∃ R2,R.Ext R2∧Sat R2 (LgAt R2 lp r.2::A::ElAt R ep (Eln.new id h s.g pat)::pts b1 (.cells [.int .i64 h.tm,.int .i64 h.vt].toArray 29 (0,0))::pts b2 (snCells s v l d)::pts b3 (.cells [.int .i64 pat,.int .i64 win].toArray 36 (0,0))::Hs) w,Br.t rfl ?_,?_⟩
 ·have hw:Sat R (LgAt R lp (Lg.new s.ix s.tm)::A::ElAt R ep (Eln.new id h s.g pat)::pts b1 (.cells [.int .i64 h.tm,.int .i64 h.vt].toArray 29 (0,0))::pts b2 (snCells s v l d)::pts b3 (.cells [.int .i64 pat,.int .i64 win].toArray 36 (0,0))::Hs) w:=hw.arr
  refine (ladd_spec lok hr hds (by omega) hw).use ?_
  clear hw
  rintro _ w ⟨R2,e2,rfl,hw⟩
  exact ⟨_,rfl,by rw [hrr],R2,e2,by rw [hrr];exact hw⟩
 clear hw
 rintro _ _ w ⟨rfl,R2,e2,hw⟩
 refine Br.ne (fun h4=>?_) (fun h4=>?_)
 ·have hw:=e2.back hw
  refine no (X:=[_,_,_,_]) ?_ h4 hw.drop
  rw [hD];dsimp only;rw [if_pos (by simpa using h4)]
 dsimp only at hD
 rw [if_neg (by simp [h4])] at hD
 refine drw_rule' (Sat R2 [pts b1 (.cells [.int .i64 h.tm,.int .i64 h.vt].toArray 29 (0,0)),pts b2 (snCells s v l d),pts b3 (.cells [.int .i64 pat,.int .i64 win].toArray 36 (0,0)),VC.tru]) hw (fun w hw=>hw.k3) fun w hw=>⟨win,At.own selfS (by exact ⟨rfl,trivial⟩),s.ix,s.tm,v,l,d,At.own selfS (by exact ⟨rfl,rfl,rfl,rfl,rfl,trivial⟩),h.tm,h.vt,At.own selfS (by exact ⟨rfl,rfl,trivial⟩),?_⟩
 have hv15:=rises_len15 (right_rises hsn.1.2)
 have hl15:=rises_len15 (right_risesL hsn.1.2)
 refine (snCopied_spec (hg.ext e2) (e2.slR hd) (by omega) (by omega) (by omega) hw).use ?_
 clear hw
 rintro _ w ⟨R3,v',l',d',e3,hg',hd',rfl,hw⟩
 refine ⟨_,_,v',l',d',rfl,(e3.back hw).k3,new_rule hw fun p w hw=>⟨?_,?_⟩⟩
 ·exact (e3.back hw).k3
 obtain ⟨L,hL⟩:∃ L:NLo,L=⟨ep,lp,v',l',d',⟨none,0,0⟩,⟨none,0,0⟩,none,⟨none,0,0⟩,⟨none,0,0⟩,⟨none,0,0⟩⟩:=⟨_,rfl⟩
 obtain ⟨n,hn⟩:∃ n:Rn,n=rn0 id h s r.2 pat win:=⟨_,rfl⟩
 have hw:=hw.re (pts p (nCells n L)) (by rw [hn,hL];rfl)
 have hin2:NIn R3 n L:=by
  have hz:=MgIn.nil (R:=R3) (m:={ kd:=0 }) rfl rfl
  rw [hn,hL]
  exact ⟨hz.g,hg',hd'⟩
 have hw:=LgAt.ext (hw.take (LgAt R2 lp r.2)) e3
 have hw:=ElAt.ext (hw.take (ElAt R ep (Eln.new id h s.g pat))) (e2.trans e3)
 have hw:=RsAt.nil (MsAt.nil (R1:=R3) (OwnN.nil (n:=2) (T:=50) hw))
 have hw:=PsAt.none'.2 ⟨rfl,hw⟩
 have hw:Sat R3 (PsAt none none::RsAt ⟨none,0,0⟩ []::MsAt R3 ⟨none,0,0⟩ []::RrAt ⟨none,0,0⟩ []::ElAt R3 ep (Eln.new id h s.g pat)::LgAt R3 lp r.2::pts p (nCells n L)::A::pts b1 (.cells [.int .i64 h.tm,.int .i64 h.vt].toArray 29 (0,0))::pts b2 (snCells s v l d)::pts b3 (.cells [.int .i64 pat,.int .i64 win].toArray 36 (0,0))::Hs) w:=hw
 have hw:Sat R3 (NAt R3 p n::A::pts b1 (.cells [.int .i64 h.tm,.int .i64 h.vt].toArray 29 (0,0))::pts b2 (snCells s v l d)::pts b3 (.cells [.int .i64 pat,.int .i64 win].toArray 36 (0,0))::Hs) w:=by
  refine NAt.iff.2 ⟨L,hin2,?_⟩
  have h6:Sat R3 (pts p (nCells n L)::ElAt R3 ep (Eln.new id h s.g pat)::LgAt R3 lp r.2::PsAt none none::RsAt ⟨none,0,0⟩ []::MsAt R3 ⟨none,0,0⟩ []::RrAt ⟨none,0,0⟩ []::A::pts b1 (.cells [.int .i64 h.tm,.int .i64 h.vt].toArray 29 (0,0))::pts b2 (snCells s v l d)::pts b3 (.cells [.int .i64 pat,.int .i64 win].toArray 36 (0,0))::Hs) w:=hw.arr
  rw [hn,hL] at h6 ⊢
  exact h6
 have hr2:LgOk r.2:=by rw [hrr];exact lok.add _
 have hb2:LgB r.2:=by
  rw [hrr]
  exact LgB.add (fun e he=>by cases he) fun e he=>by
   obtain ⟨x,hx,rfl⟩:=List.mem_map.1 he
   exact hb x hx
 have g0:RnG n:=by rw [hn];exact ⟨hr2,hb2,hsn.1.2,by show 1≤win;omega,by show win≤64;omega⟩
 refine (regroup_spec g0.lg g0.lb g0.sg g0.w1 g0.w64 hw).use ?_
 clear hw
 rintro _ w ⟨rfl,R4,e4,hw⟩
 refine ⟨rfl,.inr ⟨n.regroup,p,R4,?_,rfl,(e2.trans e3).trans e4,hw.cons fun _ h=>h.cons fun _ h=>h.drop.drop.drop⟩⟩
 rw [hD,hn];rfl
theorem rnNew_facts {id pat win:Int} {h:Hd} {s:Sn} {l:List Ey} {n:Rn} (hb:∀ e∈l,bytesOk e.dt) (e:rnNew id h s l pat win=(0,some n)):
  RnG n∧AllPe n∧ElnOk n.e∧rightSn n.sn=true∧n.e.role=0∧n.id=id∧n.e.id=id∧1≤id∧id≤15∧n.e.wait=0∧n.rms=[]∧n.rrd=[]∧n.rs=[]∧n.rnd=0∧n.rsn=false∧n.rfr=0∧n.told=n.e.hd∧n.ps=none∧n.e.hd=h∧n.sn=s∧n.win=win:=by
 unfold rnNew at e
 split at e
 ·simp at e
 ·rename_i h1
  split at e
  ·simp at e
  ·rename_i h2
   dsimp only at e
   split at e
   ·simp at e
   ·rename_i h3
    simp only [Bool.or_eq_true,Bool.not_eq_true',decide_eq_true_eq,not_or,Bool.not_eq_false] at h1
    have hsn:=h1.1.1
    unfold rightSn rightN at hsn
    simp only [Bool.and_eq_true,decide_eq_true_eq] at hsn
    obtain ⟨g,hg⟩:∃ g,g=((Lg.new s.ix s.tm).add l).2:=⟨_,rfl⟩
    rw [←hg] at e
    have lok:LgOk (Lg.new s.ix s.tm):=LgOk.new (by unfold Rf.inIx;exact decide_eq_true hsn.1.1.1) (by unfold Rf.inIx;exact decide_eq_true hsn.1.1.2)
    have en:n=Rn.regroup (rn0 id h s g pat win):=by
     have:=congrArg Prod.snd e
     exact (Option.some.inj this).symm
    have ok:=elOk_bd (by simpa using h2)
    have g0:RnG (rn0 id h s g pat win):=⟨by rw [show (rn0 id h s g pat win).log=g from rfl,hg];exact lok.add _,by
     rw [show (rn0 id h s g pat win).log=g from rfl,hg]
     exact LgB.add (fun e he=>by cases he) hb,hsn.1.2,by show 1≤win;omega,by show win≤64;omega⟩
    have p0:AllPe (rn0 id h s g pat win):=fun l hl=>by cases hl
    obtain ⟨a,b,c,d,e',f⟩:=regroup_facts g0 p0
    have hj:∀ g',((Eln.new id h s.g pat).join g').id=id∧((Eln.new id h s.g pat).join g').hd=h∧((Eln.new id h s.g pat).join g').wait=0:=fun g'=>by
     unfold Eln.join
     split<;>exact ⟨rfl,rfl,rfl⟩
    have ho:=ok.join ((rn0 id h s g pat win).foldG (rn0 id h s g pat win).log.l.length)
    subst en
    exact ⟨a,b,ho,h1.1.1,d,rfl,(hj _).1,ok.id0,ok.id1,(hj _).2.2,rfl,rfl,rfl,rfl,rfl,rfl,by show h=_;exact (hj _).2.1.symm,rfl,(hj _).2.1,rfl,rfl⟩
end Go.Proofs.YthpmfnffkjjlnaaGreat
/- A node that is alone, plain: it leads, and commits what it is proposed. No condition. -/
namespace Go.Proofs.YthpmfnffkjjlnaaGreat
set_option linter.unusedVariables false
set_option linter.unusedSimpArgs false
open Go Go.VC
open Go.Rf (Ey Lg LgOk)
variable {n m:Rn} {tm c:Int} {es:List Ey}
def g1:Gp:=⟨[1],[]⟩
def s1:Sn:=⟨0,0,g1,[]⟩
theorem right1:rightG [1] []=true:=by decide
theorem wins1:winsG [1] [] [1]=true:=by decide
structure Lone (n:Rn) (tm:Int) (es:List Ey) (c:Int):Prop where
 id:n.id=1
 eid:n.e.id=1
 role:n.e.role=3
 etm:n.e.hd.tm=tm
 b:n.log.b=⟨0,0,0,[]⟩
 l:n.log.l=es
 com:n.log.com=c
 app:n.log.app=0
 ps:n.ps=some []
 rs:n.rs=[]
 sn:n.sn=s1
 g:n.g=g1
 win:n.win=1
 ok:Rf.OkE es 0 0
 kd:∀ e∈es,e.kd≠2
 tms:∀ e∈es,e.tm=tm
 t0:0≤tm
 t1:tm≤1099511627776
 c0:0≤c
 c1:c≤es.length
 by':∀ e∈es,bytesOk e.dt
 rnd:n.rnd=0
theorem Lone.lg (h:Lone n tm es c):LgOk n.log:=by
 have e1:n.log.last=(es.length:Int):=by unfold Lg.last;rw [h.b,h.l];simp
 refine ⟨by rw [h.b];exact Int.le_refl _,by rw [h.b];show (0:Int)≤_;omega,by rw [h.b];exact Int.le_refl _,by rw [h.b];show (0:Int)≤_;omega,by rw [h.b,h.l];exact h.ok,?_,?_,?_,?_⟩
 ·rw [h.b,h.com];exact h.c0
 ·rw [h.com,e1];exact h.c1
 ·rw [h.b,h.app];exact Int.le_refl _
 ·rw [h.app,h.com];exact h.c0
theorem Lone.last (h:Lone n tm es c):n.log.last=(es.length:Int):=by unfold Lg.last;rw [h.b,h.l];simp
theorem Lone.rng (h:Lone n tm es c):RnG n:=⟨h.lg,by intro e he;rw [h.l] at he;exact h.by' e he,by rw [h.sn];exact right1,by rw [h.win];exact Int.le_refl _,by rw [h.win];omega⟩
theorem Lone.rnl (h:Lone n tm es c):RnL n:=by
 refine ⟨h.rng,fun l hl=>?_,fun l hl=>?_,by rw [h.ps];rfl,by rw [h.id];omega,by rw [h.id];omega,by rw [h.sn];decide⟩
 ·rw [h.ps] at hl;cases hl;intro t ht;cases ht
 ·rw [h.ps] at hl;cases hl;exact ⟨List.nodup_nil,fun k hk=>by cases hk⟩
theorem fold_stay {g:Gp} {i:Int}:∀ (l:List Ey),(∀ e∈l,e.kd≠2)→l.foldl (stepG i) g=g
 |[],_=>rfl
 |x::l,h=>by
  have hx:=h x List.mem_cons_self
  have e:stepG i g x=g:=by
   unfold stepG changedG
   split
   ·rw [if_pos (by simpa using hx)]
   ·rfl
  rw [List.foldl_cons,e]
  exact fold_stay l fun e he=>h e (List.mem_cons_of_mem _ he)
theorem foldG_stay {n:Rn} (h:∀ e∈n.log.l,e.kd≠2) (k:Int):n.foldG k=n.sn.g:=fold_stay _ fun e he=>h e (Rf.Lg.get_in e he)
theorem regroup1 {n:Rn} (hg:n.sn.g=g1) (hk:∀ e∈n.log.l,e.kd≠2) (hid:n.id=1):n.regroup={ n with g:=g1,e:={ n.e with g:=g1 },ps:=if n.e.role==3 then some [] else none }:=by
 have e:n.foldG n.log.l.length=g1:=by rw [foldG_stay hk,hg]
 unfold Rn.regroup
 dsimp only
 rw [e]
 have e2:n.e.join g1={ n.e with g:=g1 }:=by unfold Eln.join;rw [if_pos (show rightG g1.vs g1.ls=true from right1)]
 have e3:n.newPs g1=[]:=by
  unfold Rn.newPs g1
  show n.addP [] 1=[]
  unfold Rn.addP
  rw [if_pos (by rw [hid];rfl)]
 rw [e2,e3]
theorem fresh1 {n:Rn} (hg:n.sn.g=g1) (hk:∀ e∈n.log.l,e.kd≠2) (hid:n.id=1) (i:Int):n.fresh i={ n with rfr:=if n.rfr==0||decide (i<n.rfr) then i else n.rfr,g:=g1,e:={ n.e with g:=g1 },ps:=if n.e.role==3 then some [] else none }:=
 regroup1 (n:={ n with rfr:=if n.rfr==0||decide (i<n.rfr) then i else n.rfr }) hg hk hid
theorem Lone.tail (h:Lone n tm es c):n.log.tail.tm≤tm:=by
 rw [Rf.Lg.tail_eq,h.b,h.l]
 unfold Rf.lastE
 cases he:es with
 |nil=>exact h.t0
 |cons x l=>
  have:(x::l).getLast (by simp)∈es:=by rw [he];exact List.getLast_mem _
  have h2:=h.tms _ this
  show ((x::l).getLast _).tm≤tm
  omega
theorem Lone.enter (h:Lone n tm es c) {kd:Int} (hk:kd=0∨kd=1) {dt:List Int} (hd:bytesOk dt) (hl:dt.length≤4096) (he:es.length<1000000000):
  (n.enter kd dt).1=((es.length:Int) + 1,0)∧Lone (n.enter kd dt).2 tm (es++[⟨(es.length:Int) + 1,tm,kd,dt⟩]) c∧(n.enter kd dt).2.rrd=n.rrd∧(n.enter kd dt).2.rms=n.rms:=by
 have hlast:=h.last
 obtain ⟨x,hx⟩:∃ x:Ey,x=⟨(es.length:Int) + 1,tm,kd,dt⟩:=⟨_,rfl⟩
 have hodd:Rf.oddE x=false:=by
  have h0:=h.t0
  have h1:=h.t1
  rw [hx]
  unfold Rf.oddE Rf.inIx
  simp only [Bool.or_eq_false_iff,decide_eq_false_iff_not,Bool.not_eq_false',decide_eq_true_eq]
  omega
 have hf:Rf.folE [x] n.log.last n.log.tail.tm=true:=by
  have ht:=h.tail
  rw [hx,hlast]
  unfold Rf.folE
  rw [if_neg (by simp only [ne_eq];omega)]
  rfl
 obtain ⟨lg,hlg⟩:∃ lg:Lg,lg=⟨n.log.b,n.log.l++[x],n.log.com,n.log.app⟩:=⟨_,rfl⟩
 have hll:lg.l=es++[x]:=by rw [hlg,h.l]
 have ha:n.log.add [x]=(0,lg):=by
  unfold Lg.add
  rw [if_neg (by simp [hodd]),if_pos hf,hlg]
 have eent:n.enter kd dt=((n.log.last + 1,0),Rn.fresh { n with log:=lg } (n.log.last + 1)):=by
  unfold Rn.enter
  dsimp only
  rw [show (⟨n.log.last + 1,n.e.hd.tm,kd,dt⟩:Ey)=x by rw [hx,hlast,h.etm],ha]
  rfl
 have hok:Rf.OkE (es++[x]) 0 0:=by
  have hr:=h.lg.added (l:=[x]) (Rf.OkE.of_fol (by simp [hodd]) hf)
  have:=hr.es
  rw [h.b,h.l] at this
  exact this
 have hkx:x.kd≠2:=by rw [hx];show kd≠2;omega
 have hkds:∀ e∈es++[x],e.kd≠2:=fun e he=>by
  rcases List.mem_append.1 he with he|he
  ·exact h.kd e he
  ·simp at he;rw [he];exact hkx
 rw [eent,fresh1 (n:={ n with log:=lg }) (by show n.sn.g=g1;rw [h.sn];rfl) (by show ∀ e∈lg.l,_;rw [hll];exact hkds) h.id,hlast]
 refine ⟨rfl,?_,rfl,rfl⟩
 rw [←hx]
 refine ⟨h.id,h.eid,h.role,h.etm,by show lg.b=_;rw [hlg];exact h.b,hll,by show lg.com=_;rw [hlg];exact h.com,by show lg.app=_;rw [hlg];exact h.app,by show (if n.e.role==3 then some [] else none)=some [];rw [h.role];rfl,h.rs,h.sn,rfl,h.win,hok,hkds,fun e he=>?_,h.t0,h.t1,h.c0,?_,fun e he=>?_,h.rnd⟩
 ·rcases List.mem_append.1 he with he|he
  ·exact h.tms e he
  ·simp at he;rw [he,hx]
 ·have:=h.c1;rw [List.length_append,List.length_singleton];omega
 ·rcases List.mem_append.1 he with he|he
  ·exact h.by' e he
  ·simp at he;rw [he,hx];exact hd
theorem mem1 (h:n.ps=some []):n.mem=[]:=by unfold Rn.mem;rw [h];simp [sortL]
theorem Lone.all (h:Lone n tm es c):n.all=n:=by unfold Rn.all;rw [mem1 h.ps];rfl
theorem mid1 (A:List Int):midL [1] [] A=pick A 1:=by
 unfold midL
 rw [if_pos right1,show sortL (List.map (pick A) [1])=[pick A 1] by simp [sortL]]
 rfl
theorem Lone.mid (h:Lone n tm es c):midL n.g.vs n.g.ls n.ats=n.log.last:=by
 rw [h.g]
 show midL [1] [] n.ats=_
 rw [mid1]
 unfold pick
 have hl:1<n.ats.length:=by rw [ats_len];omega
 rw [show (1:Int).toNat=1 from rfl,List.getD_eq_getElem?_getD,List.getElem?_eq_getElem hl,Option.getD_some,ats_get hl]
 have:n.peer ((1:Nat):Int)=none:=by unfold Rn.peer;rw [h.ps];rfl
 rw [this]
 simp only [h.id]
 rfl
theorem Lone.term (h:Lone n tm es c) (hne:es≠[]):n.log.term n.log.last=(tm,true):=by
 have hh:n.log.has n.log.last=true:=Rf.Lg.has_iff.2 ⟨by unfold Lg.last;omega,Int.le_refl _⟩
 unfold Lg.term
 rw [if_pos hh]
 congr 1
 have h2:=Rf.Lg.at_take hh
 rw [←h2]
 have e:(n.log.last - n.log.b.ix).toNat=n.log.l.length:=by unfold Lg.last;omega
 rw [e,List.take_length,h.b,h.l]
 unfold Rf.lastE
 cases he:es with
 |nil=>exact absurd he hne
 |cons x l=>
  show ((x::l).getLast _).tm=tm
  exact h.tms _ (by rw [he];exact List.getLast_mem _)
theorem Lone.advance (h:Lone n tm es c) (hne:es≠[]) (hc:c<es.length):Lone n.advance tm es es.length∧n.advance.rrd=n.rrd∧n.advance.rms=n.rms∧n.advance.rfr=n.rfr∧n.advance.e=n.e:=by
 have hlast:=h.last
 obtain ⟨lg,hlg⟩:∃ lg:Lg,lg=⟨n.log.b,n.log.l,n.log.last,n.log.app⟩:=⟨_,rfl⟩
 have e:n.advance={ n with log:=lg }:=by
  unfold Rn.advance
  rw [h.mid]
  dsimp only
  rw [h.term hne]
  rw [if_neg (by rw [h.etm,h.com,hlast,decide_eq_false (by omega)];simp)]
  have ec:(n.log.commit n.log.last).2=lg:=by
   unfold Lg.commit
   rw [if_neg (by rw [h.com,hlast];omega),hlg]
  rw [ec]
  unfold Rn.beats
  rw [mem1 (n:={ n with log:=lg }) h.ps];rfl
 rw [e]
 exact ⟨⟨h.id,h.eid,h.role,h.etm,by show lg.b=_;rw [hlg];exact h.b,by show lg.l=_;rw [hlg];exact h.l,by show lg.com=_;rw [hlg];exact hlast,by show lg.app=_;rw [hlg];exact h.app,h.ps,h.rs,h.sn,h.g,h.win,h.ok,h.kd,h.tms,h.t0,h.t1,by omega,Int.le_refl _,h.by',h.rnd⟩,rfl,rfl,rfl,rfl⟩
theorem Lone.propose (h:Lone n tm es c) {dt:List Int} (hd:bytesOk dt) (hl:dt.length≤4096) (he:es.length<1000000000):
  (n.propose dt).1=((es.length:Int) + 1,0)∧Lone (n.propose dt).2 tm (es++[⟨(es.length:Int) + 1,tm,1,dt⟩]) ((es.length:Int) + 1)∧(n.propose dt).2.rrd=n.rrd∧(n.propose dt).2.rms=n.rms:=by
 obtain ⟨h1,h2,h3,h4⟩:=h.enter (kd:=1) (.inr rfl) hd hl he
 have h5:=h2.advance (by simp) (by have:=h.c1;rw [List.length_append,List.length_singleton];omega)
 have e:n.propose dt=((n.enter 1 dt).1,(n.enter 1 dt).2.advance):=by
  unfold Rn.propose
  rw [if_neg (by rw [h.role];decide),if_neg (by omega)]
  unfold Rn.lead
  dsimp only
  rw [if_neg (by rw [h1];simp),h5.1.all]
 rw [e]
 refine ⟨h1,?_,h5.2.1.trans h3,h5.2.2.1.trans h4⟩
 have:=h5.1
 rwa [show ((es++[(⟨(es.length:Int) + 1,tm,1,dt⟩:Ey)]).length:Int)=(es.length:Int) + 1 by rw [List.length_append,List.length_singleton];omega] at this
theorem Lone.own (h:Lone n tm es es.length) (hne:es≠[]):n.own=true:=by
 have e:n.log.com=n.log.last:=by rw [h.com,h.last]
 unfold Rn.own
 rw [e,h.term hne,h.etm,h.role]
 simp
theorem Lone.read (h:Lone n tm es es.length) (hne:es≠[]) (tok:Int):n.read tok=(0,{ n with rrd:=n.rrd++[(tok,(es.length:Int))] }):=by
 unfold Rn.read
 rw [if_neg (by rw [h.own hne,h.rs];simp),if_pos (by rw [h.g,h.id];exact wins1),h.com]
theorem lone_new {t:Int} (h0:0≤t) (h1:t≤1099511627775):∃ n,rnNew 1 ⟨t,0⟩ s1 [] 1 1=(0,some n)∧n.e.role=0∧n.e.wait=0∧n.log.last=0∧Lone (n.tick 0) (t + 1) [⟨1,t + 1,0,[]⟩] 1∧(n.tick 0).rrd=[]∧(n.tick 0).rms=[]:=by
 have hel:elOk 1 ⟨t,0⟩ g1 1=true:=by
  unfold elOk rightN
  rw [decide_eq_true (show (0≤t∧t≤1099511627776) from ⟨h0,by omega⟩),show rightG g1.vs g1.ls=true from right1]
  show (decide ((1:Int)≤1∧(1:Int)≤15) && true && decide ((0:Int)≤0∧(0:Int)≤15) && decide ((1:Int)≤1∧(1:Int)≤1000) && true)=true
  decide
 obtain ⟨r,hr⟩:∃ r,r=Rn.regroup (rn0 1 ⟨t,0⟩ s1 ⟨⟨0,0,0,[]⟩,[],0,0⟩ 1 1):=⟨_,rfl⟩
 have er:r={ rn0 1 ⟨t,0⟩ s1 ⟨⟨0,0,0,[]⟩,[],0,0⟩ 1 1 with g:=g1,e:=⟨1,1,⟨t,0⟩,g1,0,0,0,1,[],[]⟩,ps:=none }:=by
  rw [hr,regroup1 rfl (fun e he=>by cases he) rfl];rfl
 refine ⟨r,?_,by rw [er],by rw [er],by rw [er];rfl,?_⟩
 ·unfold rnNew
  rw [if_neg (by decide),if_neg (by rw [show s1.g=g1 from rfl,hel];simp)]
  rw [hr]
  rfl
 -- the tick
 have ew:r.e.tick 0 r.log.last (r.log.term r.log.last).1=([],⟨1,1,⟨t + 1,1⟩,g1,3,1,0,1,[1],[]⟩):=by
  have hh:r.e.hope 0=⟨1,1,⟨t,0⟩,g1,1,0,0,1,[1],[]⟩:=by rw [er];rfl
  unfold Eln.tick
  rw [if_neg (by rw [er];simp)]
  dsimp only
  rw [if_neg (by rw [er];simp [g1,hasL]),hh]
  rw [if_pos (show Eln.wins ⟨1,1,⟨t,0⟩,g1,1,0,0,1,[1],[]⟩=true from wins1)]
  unfold Eln.run
  rw [if_neg (by show ¬ t ≥ 1099511627776;omega)]
  dsimp only
  rw [if_pos (show Eln.wins (Eln.alone ⟨1,1,⟨t + 1,1⟩,g1,1,0,0,1,[1],[]⟩ 2)=true from wins1)]
  rfl
 obtain ⟨n1,hn1⟩:∃ n1:Rn,n1={ r with e:=⟨1,1,⟨t + 1,1⟩,g1,3,1,0,1,[1],[]⟩,ps:=none,rs:=[],rnd:=0 }:=⟨_,rfl⟩
 have et:r.tick 0=(Rn.enter (Rn.regroup n1) 0 []).2.advance.all:=by
  unfold Rn.tick
  rw [if_pos (by rw [er];rfl)]
  dsimp only
  rw [ew]
  unfold Rn.voted
  dsimp only
  rw [if_neg (by simp),if_pos (by rfl),hn1]
  simp only [List.map_nil,List.append_nil]
 have hl0:Lone (Rn.regroup n1) (t + 1) [] 0∧(Rn.regroup n1).rrd=[]∧(Rn.regroup n1).rms=[]:=by
  have e2:Rn.regroup n1={ n1 with g:=g1,ps:=some [] }:=by
   rw [regroup1 (by rw [hn1,er];rfl) (by rw [hn1,er];intro e he;cases he) (by rw [hn1,er];rfl),hn1];rfl
  rw [e2,hn1,er]
  refine ⟨⟨rfl,rfl,rfl,rfl,rfl,rfl,rfl,rfl,rfl,rfl,rfl,rfl,rfl,trivial,(fun e he=>by cases he),(fun e he=>by cases he),by omega,by omega,Int.le_refl _,Int.le_refl _,(fun e he=>by cases he),rfl⟩,rfl,rfl⟩
 obtain ⟨_,h2,h3,h4⟩:=hl0.1.enter (kd:=0) (dt:=[]) (.inl rfl) (fun x hx=>by cases hx) (by simp) (by simp)
 have h5:=h2.advance (by simp) (by simp)
 rw [et,h5.1.all]
 exact ⟨h5.1,h5.2.1.trans (h3.trans hl0.2.1),h5.2.2.1.trans (h4.trans hl0.2.2)⟩
end Go.Proofs.YthpmfnffkjjlnaaGreat
/- The formulas of functions of this seat's translation, printed by a program of mine off the translation; each is proved equal to 'fnF' of the function's body, so it is enough for the call. No condition. -/
namespace Go.Proofs.YthpmfnffkjjlnaaGreat
open Go Go.VC
set_option linter.unusedVariables false
set_option maxRecDepth 10000
def B8  (K:Value→World→Prop) (w:World):Prop:=
 New (.cells #[.int .i64 1] 3 (0,0)) (fun m s=>
 Calls Tryz.prog 9 #[.int .i64 1,.agg #[.int .i64 0,.int .i64 0],.agg #[.int .i64 0,.int .i64 0,.slice ((some ⟨m,0,none⟩)) 1 1,.slice none 0 0,.slice none 0 0],.slice none 0 0,.agg #[.int .i64 1,.int .i64 1]] s fun n b=>
 ∃ a:Option Addr,∃ g:Int,(n=.returned (.tuple #[.pointer a,.int .i64 g]))∧
 ∃ (c:World→Prop),(Br (g !=0)
 (K (.bool false) b)
 (Br a.isNone
 (K (.bool false) b)
 (c  b)))∧
 ∀ (u:Env)  (i:World),c  i→
 Calls Tryz.prog 10 #[.pointer a,.int .i64 0] i fun o j=>
 (o=.returned (.tuple #[]))∧
 NilP a fun l=>
 ∃ d:Option Addr,(At (fun r=>r=j) (Addr.add l 0) [.pointer d])∧
 Calls Tryz.prog 16 #[.pointer d] j fun p k=>
 ∃ e:Int,(p=.returned (.int .i64 e))∧
 Br (e==3)
 (Calls Tryz.prog 15 #[.pointer a] k fun q t=>
 ∃ f:Int,(q=.returned (.int .i64 f))∧
 K (.bool (f==1)) t)
 (K (.bool false) k)) w
def sk8:Sk:=(.seq .leaf (.seq .leaf (.cut [] [] [0,12,13,14,15,16,17] .leaf .leaf)))
theorem call8  (K:Value→World→Prop) (w:World) (h:B8  K w):Gets Tryz.prog 8 #[] w K:=cq (sk:=sk8) Tryz.func8 (by kernel_rfl) (by kernel_rfl) (by kernel_rfl) h
def B3 (i:Sl) (z:Int) (K:Value→World→Prop) (w:World):Prop:=
 Calls Tryz.prog 8 #[] w fun aw A=>
 ∃ t:Bool,(aw=.returned (.bool t))∧
 ∃ (G:World→Prop),(Br (!t)
 (K (.bool t) A)
 (Br (decide (z<0))
 (K (.bool t) A)
 (Br (decide (z>549755813888))
 (K (.bool t) A)
 (G  A))))∧
 ∀ (bf:Env)  (al:World),G  al→
 New (.cells #[.int .i64 1] 3 (0,0)) (fun av bb=>
 Calls Tryz.prog 9 #[.int .i64 1,.agg #[.int .i64 z,.int .i64 0],.agg #[.int .i64 0,.int .i64 0,.slice ((some ⟨av,0,none⟩)) 1 1,.slice none 0 0,.slice none 0 0],.slice none 0 0,.agg #[.int .i64 1,.int .i64 1]] bb fun ax F=>
 ∃ d:Option Addr,∃ Z:Int,(ax=.returned (.tuple #[.pointer d,.int .i64 Z]))∧
 ∃ (H:World→Prop),(Br (Z !=0)
 (K (.bool false) F)
 (Br d.isNone
 (K (.bool false) F)
 (H  F)))∧
 ∀ (bg:Env)  (am:World),H  am→
 Calls Tryz.prog 10 #[.pointer d,.int .i64 0] am fun ay bc=>
 (ay=.returned (.tuple #[]))∧
 ∃ (D:Int→World→Prop) (an:Int→World→Nat),(D 0 bc)∧∀ (bh:Env) (c:Int) (j:World),D c j→
 ∃ (I:World→Prop),(Br (decide (c<(↑i.len:Int)))
 (Br (decide (c<50))
 (I  j)
 (NilP d fun ap=>
 ∃ U:Option Addr,(At (fun b=>b=j) (Addr.add ap 0) [.pointer U])∧
 Calls Tryz.prog 16 #[.pointer U] j fun az bd=>
 ∃ X:Int,(az=.returned (.int .i64 X))∧
 K (.bool (X==3)) bd))
 (NilP d fun aq=>
 ∃ V:Option Addr,(At (fun b=>b=j) (Addr.add aq 0) [.pointer V])∧
 Calls Tryz.prog 16 #[.pointer V] j fun a0 be=>
 ∃ Y:Int,(a0=.returned (.int .i64 Y))∧
 K (.bool (Y==3)) be))∧
 ∀ (bi:Env)  (v:World),I  v→
 Rng c i.len (NilP i.a fun ar=>
 ∃ x:Sl,(At (fun b=>b=v) (Addr.add ar c.toNat) [.slice x.a x.len x.cap])∧
 Br (decide ((↑x.len:Int)>4096))
 (K (.bool true) v)
 (Rng c i.len (NilP i.a fun au=>
 ∃ m:Sl,(At (fun b=>b=v) (Addr.add au c.toNat) [.slice m.a m.len m.cap])∧
 Calls Tryz.prog 11 #[.pointer d,.slice m.a m.len m.cap] v fun a1 a6=>
 ∃ u:Int,∃ aa:Int,(a1=.returned (.tuple #[.int .i64 u,.int .i64 aa]))∧
 Calls Tryz.prog 12 #[.pointer d,.int .i64 c] a6 fun a2 a7=>
 ∃ ab:Int,(a2=.returned (.int .i64 ab))∧
 Calls Tryz.prog 13 #[.pointer d] a7 fun a3 a8=>
 ∃ ac:Bool,∃ ad:Int,∃ ae:Int,∃ af:Bool,∃ ag:Int,∃ ah:Int,∃ p:Sl,∃ q:Sl,∃ r:Sl,∃ ai:Int,∃ n:Sl,∃ o:Sl,(a3=.returned (.agg #[.bool ac,.int .i64 ad,.int .i64 ae,.bool af,.int .i64 ag,.int .i64 ah,.slice p.a p.len p.cap,.slice q.a q.len q.cap,.slice r.a r.len r.cap,.int .i64 ai,.slice n.a n.len n.cap,.slice o.a o.len o.cap]))∧
 New (.cells #[.bool false,.int .i64 0,.int .i64 0,.bool false,.int .i64 0,.int .i64 0,.slice none 0 0,.slice none 0 0,.slice none 0 0,.int .i64 0,.slice none 0 0,.slice none 0 0] 44 (0,0)) (fun E a9=>
 ∃ ak:World,((Instr.storeAt 44 (.pointer ((some ⟨E,0,none⟩))) (.agg #[.bool ac,.int .i64 ad,.int .i64 ae,.bool af,.int .i64 ag,.int .i64 ah,.slice p.a p.len p.cap,.slice q.a q.len q.cap,.slice r.a r.len r.cap,.int .i64 ai,.slice n.a n.len n.cap,.slice o.a o.len o.cap])).run Tryz.prog a9=.ok () ak)∧
 Calls Tryz.prog 14 #[.pointer d,.int .i64 u,.int .i64 1] ak fun a4 ba=>
 ∃ g:Sl,(a4=.returned (.slice g.a g.len g.cap))∧
 Drw ba fun e C=>
 Br (aa !=0)
 (K (.bool false) C)
 (Br (ab !=0)
 (K (.bool false) C)
 (Br (u !=IntKind.i64.wrap (c + 2))
 (K (.bool false) C)
 (Calls Tryz.prog 15 #[.pointer d] C fun a5 f=>
 ∃ aj:Int,(a5=.returned (.int .i64 aj))∧
 (e f)∧
 Br (aj !=u)
 (K (.bool false) f)
 (∃ y:Sl,(At e ⟨E,0 + 11,none⟩ [.slice y.a y.len y.cap])∧
 Br ((↑y.len:Int) !=1)
 (K (.bool false) f)
 (∃ s:Sl,(At e ⟨E,0 + 11,none⟩ [.slice s.a s.len s.cap])∧
 Rng 0 s.len (NilP s.a fun J=>
 ∃ N:Int,(At e ⟨(J.add (mulS (Int.toNat 0) 2)).block,(J.add (mulS (Int.toNat 0) 2)).off + 1,none⟩ [.int .i64 N])∧
 Br (N !=u)
 (K (.bool false) f)
 (Br ((↑g.len:Int) !=1)
 (K (.bool false) f)
 (Rng 0 g.len (NilP g.a fun L=>
 ∃ k:Sl,(At e ⟨(L.add (mulS (Int.toNat 0) 4)).block,(L.add (mulS (Int.toNat 0) 4)).off + 3,none⟩ [.slice k.a k.len k.cap])∧
 ∃ O:ByteArray,(∀ b,e b→((convert 33 9 (.slice k.a k.len k.cap))).run Tryz.prog b=.ok (.string O) b)∧
 Rng c i.len (NilP i.a fun ao=>
 ∃ l:Sl,(At e (Addr.add ao c.toNat) [.slice l.a l.len l.cap])∧
 ∃ Q:ByteArray,(∀ b,e b→((convert 33 9 (.slice l.a l.len l.cap))).run Tryz.prog b=.ok (.string Q) b)∧
 Br (!O.toList==Q.toList)
 (K (.bool false) f)
 (Rng 0 g.len (NilP g.a fun M=>
 ∃ T:Int,(At e ⟨(M.add (mulS (Int.toNat 0) 4)).block,(M.add (mulS (Int.toNat 0) 4)).off + 1,none⟩ [.int .i64 T])∧
 Br (T !=IntKind.i64.wrap (z + 1))
 (K (.bool false) f)
 ((D (IntKind.i64.wrap (c + 1)) f)∧an (IntKind.i64.wrap (c + 1)) f<an c j)))))))))))))) a8)))) al
def sk3:Sk:=(.seq .leaf (.seq .leaf (.cut [] [] [4,15,16,17,18,19,20,21,22,23,24,25] .leaf (.seq .leaf (.cut [] [] [4,36,37,38,39,40,41] .leaf (.seq .leaf (.seq (.seq .leaf (.block (.loop [8] [(.int .i64)] [4,8,9,10,11,12,13,44,45,46,47,48,49,50,51,52,53,54,55,56,57,58,59,60,61,62,63,64,65,66,67,68,69,70,71,72,73,74,75,76,77,78,79,80,81,82,83,84,85,86,87,88,89,90,91,92,93,94,95,96,97,98,99,100,101,102,103,104,105,106,107,108,109,110,111,112,113,114,115,116,117,118,119,120,121,122,123,124,125,126,127,128,129,130,131,132,133,134,135,136] (.cut [] [] [44,45,46,47,48,49,50,51] .leaf .leaf)))) .leaf)))))))
theorem call3 (b:Sl) (c:Int) (K:Value→World→Prop) (w:World) (h:B3 b c K w):Gets Tryz.prog 3 #[.slice b.a b.len b.cap,.int .i64 c] w K:=cq (sk:=sk3) Tryz.func3 (by kernel_rfl) (by kernel_rfl) (by kernel_rfl) h
end Go.Proofs.YthpmfnffkjjlnaaGreat
/- RaftFollows: who does not lead proposes, changes and reads nothing. Condition: bounds on lengths. -/
namespace Go.Proofs.YthpmfnffkjjlnaaGreat
set_option linter.unusedVariables false
set_option linter.unusedSimpArgs false
open Go Go.VC
open Go.Rf (Ey Lg LgOk)
variable {R R' R1 R2:Cx} {Hs Rest Rest2:List HP} {w:World} {p:Nat} {n m:Rn}
theorem nrole_rule {K:Value→World→Prop} {L:NLo} (hn:NIn R n L) (hw:Sat R (pts p (nCells n L)::nHs R n L Hs) w) (k:∀ w',Sat R (NAt R p n::Hs) w'→K (.int .i64 n.e.role) w'):Gets Tryz.prog 16 #[.pointer (some ⟨L.ep,0,none⟩)] w K:=by
 refine (erole_spec (hw.take (ElAt R L.ep n.e))).mono ?_
 rintro _ w ⟨rfl,hw⟩
 exact k w (NAt.iff.2 ⟨L,hn,hw.arr⟩)
theorem nilE {A:HP}:Rdg R A 4 ⟨none,0,0⟩ (([]:List DE4).map eRow):=.ro ⟨Wid.nil,rfl,fun h=>absurd rfl h⟩
theorem lnew1_spec {b:Nat} {t:Int} (h0:0≤t) (h1:t≤1000000000000) (hw:Sat R (pts b (.cells [.int .i64 1].toArray 3 (0,0))::Hs) w):
  Gets Tryz.prog 9 #[.int .i64 1,.agg #[.int .i64 t,.int .i64 0],.agg #[.int .i64 0,.int .i64 0,.slice (some ⟨b,0,none⟩) 1 1,.slice none 0 0,.slice none 0 0],.slice none 0 0,.agg #[.int .i64 1,.int .i64 1]] w fun r w'=>
   ∃ p n R',r=.tuple #[.pointer (some ⟨p,0,none⟩),.int .i64 0]∧rnNew 1 ⟨t,0⟩ s1 [] 1 1=(0,some n)∧R.Ext R'∧Sat R' (NAt R' p n::Hs) w':=by
 have hw:=own_lit hw
 have hw:=hw.re (Own ⟨some ⟨b,0,none⟩,1,1⟩ 3 (ints [1]))
 obtain ⟨R1,e1,hb,hw⟩:=Own.leak hw
 have hb:RoI R1 ⟨some ⟨b,0,none⟩,1,1⟩ [1]:=hb.ro (by simp)
 have hz:=MgIn.nil (R:=R1) (m:={ kd:=0 }) rfl rfl
 have hw:Sat R1 (pur True::Hs) w:=Sat.pur.2 ⟨trivial,hw⟩
 refine (rnew_spec (h:=⟨t,0⟩) (s:=s1) (v:=⟨some ⟨b,0,none⟩,1,1⟩) (l:=⟨none,0,0⟩) (d:=⟨none,0,0⟩) (ds:=[]) 1 1 1 ⟨hb,hz.g.l⟩ hz.d nilE .nil (fun e he=>by cases he) (by simp) hw).mono ?_
 rintro _ w (⟨e,he,hne,rfl,hw⟩|⟨n,p,R2,he,rfl,e2,hw⟩)
 ·obtain ⟨n,hn,_⟩:=lone_new h0 (by omega:t≤1099511627775)
  have he:rnNew 1 ⟨t,0⟩ s1 [] 1 1=(e,none):=he
  rw [hn] at he;cases he
 ·exact ⟨p,n,R2,rfl,he,e1.trans e2,hw.cons fun _ h=>h.drop⟩
theorem ltick1_spec {t:Int} (h0:0≤t) (h1:t≤1000000000000) (he:rnNew 1 ⟨t,0⟩ s1 [] 1 1=(0,some n)) (hw:Sat R (NAt R p n::Hs) w):
  Gets Tryz.prog 10 #[.pointer (some ⟨p,0,none⟩),.int .i64 0] w fun v w'=>v=.tuple #[]∧∃ m R',Lone m (t + 1) [⟨1,t + 1,0,[]⟩] 1∧m.rrd=[]∧m.rms=[]∧R.Ext R'∧Sat R' (NAt R' p m::Hs) w':=by
 obtain ⟨n',hn',hr,hwt,hl0,hL,h2,h3⟩:=lone_new h0 (by omega:t≤1099511627775)
 rw [hn'] at he
 obtain rfl:n'=n:=by injection he with _ he;exact Option.some.inj he
 obtain ⟨g,pe,ok,sn,_,id,eid,i0,i1,_,rms,_⟩:=rnNew_facts (fun e he=>by cases he) hn'
 refine (ntick_spec g pe (by omega) sn ok (by omega) (by omega) (by rw [rms];simp) (by rw [hr];decide) 0 hw).mono ?_
 rintro _ w ⟨rfl,R2,e2,hw⟩
 exact ⟨rfl,_,R2,hL,h2,h3,e2,hw⟩
theorem awake_spec (hw:Sat R Hs w):Gets Tryz.prog 8 #[] w fun v w'=>v=.bool true∧Sat R Hs w':=by
 apply call8
 refine new_rule hw fun b w hw=>?_
 refine (lnew1_spec (t:=0) (by omega) (by omega) hw).use ?_
 clear hw
 rintro _ w ⟨p,n,R1,rfl,he,e1,hw⟩
 refine ⟨_,_,rfl,fun w=>Sat R1 (NAt R1 p n::Hs) w,Br.f rfl (Br.f rfl hw),?_⟩
 clear hw
 rintro _ w hw
 refine (ltick1_spec (t:=0) (by omega) (by omega) he hw).use ?_
 clear hw
 rintro _ w ⟨rfl,m,R2,hL,_,_,e2,hw⟩
 obtain ⟨L,hn,hw⟩:=NAt.iff.1 hw
 refine ⟨rfl,NilP.mk rfl ⟨_,At.own (eqS hw) (by exact ⟨rfl,trivial⟩),?_⟩⟩
 refine (nrole_rule (K:=fun v w'=>v=.int .i64 3∧Sat R2 (NAt R2 p m::Hs) w') hn hw fun w hw=>⟨by rw [hL.role],hw⟩).use ?_
 clear hw
 rintro _ w ⟨rfl,hw⟩
 refine ⟨_,rfl,Br.t rfl ?_⟩
 refine (ncom_spec hw).use ?_
 clear hw
 rintro _ w ⟨rfl,hw⟩
 exact ⟨_,rfl,by rw [hL.com];rfl,(e1.trans e2).back hw.drop⟩
end Go.Proofs.YthpmfnffkjjlnaaGreat
/- ROW: from a reading of an argument to what the contracts ask; from a walk's end to 'Below'. No condition. -/
namespace Go.VC
set_option linter.unusedVariables false
set_option linter.unusedSimpArgs false
open Go.ChangeShapes Go.WideShapes Go.ChangeAt Go.RowKit
theorem below_of {W W':World} {Hs:List HP} (h:Sat (Cx.of W) Hs W'):Below W.heap.size W W':=by
 obtain ⟨h1,h2,h3⟩:=h.streams
 have hb:∀ k,k<W.heap.size→W'.heap[k]? =W.heap[k]?:=fun k hk=>by
  have:(Cx.of W).m k=some W.heap[k]:=by simp [Cx.of,hk]
  rw [h.of_ro this];simp [hk]
 refine ⟨h1,h2,h3,?_,hb⟩
 rcases Nat.lt_or_ge W'.heap.size W.heap.size with hl|hl
 ·have:=hb W'.heap.size hl
  rw [Array.getElem?_eq_none (Nat.le_refl _)] at this
  simp [hl] at this
 ·exact hl
theorem block_of_cell {w:World} {a:Addr} {v:Value} (h:w.cell? a=some v):a.spot=none∧∃ l T fr,w.heap[a.block]? =some (.cells l T fr)∧l[a.off]? =some v:=by
 unfold World.cell? at h
 split at h
 ·rename_i c T fr hb
  split at h
  ·cases h
  ·rename_i hs
   exact ⟨by simpa using hs,c,T,fr,hb,h⟩
 ·cases h
section
variable {H:Type} {enc:TypeId × Value→H} {P:Program} {W:World} {base:Nat} {spare:Nat→Bool} {held:Bool}
end
end Go.VC

/- ROW, part 3: arguments of any plain type (integers, bools, floats, strings, slices, structs, arrays of such), read as trees. No condition. -/
namespace Go.VC
set_option linter.unusedVariables false
set_option linter.unusedSimpArgs false
open Go.ChangeShapes Go.WideShapes Go.ChangeAt Go.RowKit
inductive Tr where
 |int (k:IntKind) (n:Int)|bool (b:Bool)|flt (n:Nat)|str (s:ByteArray)|sl (s:Sl) (xs:List Tr)|st (xs:List Tr)
mutual
def Tr.cells:Tr→List Value
 | .int k n=>[.int k n]
 | .bool b=>[.bool b]
 | .flt n=>[.float .f64 n]
 | .str s=>[.string s]
 | .sl s _=>[.slice s.a s.len s.cap]
 | .st xs=>Tr.cellsL xs
def Tr.cellsL:List Tr→List Value
 |[]=>[]
 |x::xs=>x.cells++Tr.cellsL xs
end
inductive U where
 |int (k:IntKind)|bool|flt|str|sl (u:U)|st (us:List U)
mutual
def U.size:U→Nat
 | .st us=>U.sizeL us
 |_=>1
def U.sizeL:List U→Nat
 |[]=>0
 |u::us=>u.size + U.sizeL us
end
mutual
def Tr.Ok (R:Cx):U→Tr→Prop
 | .int k,.int k' n=>k'=k∧(Lit.int k n).wf=true
 | .bool,.bool _=>True
 | .flt,.flt n=>(Lit.float .f64 n).wf=true
 | .str,.str s=>s.size≤maxLen
 | .sl u,.sl s xs=>(RoN u.size R s (xs.map Tr.cells)∧s.len≤s.cap)∧xs.length≤maxLen∧Tr.OkA R u xs
 | .st us,.st xs=>Tr.OkL R us xs
 |_,_=>False
def Tr.OkA (R:Cx) (u:U):List Tr→Prop
 |[]=>True
 |x::xs=>Tr.Ok R u x∧Tr.OkA R u xs
def Tr.OkL (R:Cx):List U→List Tr→Prop
 |[],[]=>True
 |u::us,x::xs=>Tr.Ok R u x∧Tr.OkL R us xs
 |_,_=>False
end
theorem Tr.okA {R:Cx} {u:U}:∀ {xs:List Tr},Tr.OkA R u xs→∀ x∈xs,Tr.Ok R u x
 |[],_,x,hx=>by cases hx
 |y::ys,h,x,hx=>by
  unfold Tr.OkA at h
  rcases List.mem_cons.1 hx with rfl|hx
  ·exact h.1
  ·exact Tr.okA h.2 x hx
theorem Tr.okA_mk {R:Cx} {u:U}:∀ {xs:List Tr},(∀ x∈xs,Tr.Ok R u x)→Tr.OkA R u xs
 |[],_=>by unfold Tr.OkA;trivial
 |y::ys,h=>by
  unfold Tr.OkA
  exact ⟨h y List.mem_cons_self,Tr.okA_mk fun x hx=>h x (List.mem_cons_of_mem _ hx)⟩
def fieldsU (P:Program) (f:TypeId→Option U):Nat→List Field→Option (List U)
 |_,[]=>some []
 |off,x::xs=>match Nat.beq x.offset off with
  |false=>none
  |true=>match f x.type with
   |none=>none
   |some u=>match Nat.beq (P.cellsOf x.type) u.size with
    |false=>none
    |true=>match fieldsU P f (off + u.size) xs with
     |none=>none
     |some us=>some (u::us)
def uOf (P:Program):Nat→TypeId→Option U
 |0,_=>none
 |d + 1,t=>match P.underlying t with
  |some (.int k)=>some (.int k)
  |some .bool=>some .bool
  |some (.float .f64)=>some .flt
  |some .string=>some .str
  |some (.slice e)=>match uOf P d e with
   |some u=>(match Nat.beq (P.cellsOf e) u.size && Nat.blt 0 u.size with|true=>some (.sl u)|false=>none)
   |none=>none
  |some (.struct fs)=>match fieldsU P (uOf P d) 0 fs.toList with
   |some us=>(match Nat.beq (P.cellsOf t) (U.sizeL us) with|true=>some (.st us)|false=>none)
   |none=>none
  |some (.array n e)=>match uOf P d e with
   |some u=>(match Nat.beq (P.cellsOf e) u.size && Nat.beq (P.cellsOf t) (n * u.size) with|true=>some (.st (List.replicate n u))|false=>none)
   |none=>none
  |_=>none
section
variable {H:Type} {enc:TypeId × Value→H} {P:Program} {W:World} {base:Nat} {spare:Nat→Bool} {held:Bool}
def IsTr (R:Cx) (u:U) (cs:List Value):Prop:=∃ x:Tr,x.cells=cs∧x.Ok R u
theorem cells?_cell {w:World} {base:Nat} {a:Addr} {n:Nat} {cs:List Value} (h:w.cells? base a n=some cs):cs.length=n∧∀ i,i<n→w.cell? (a.add i)=cs[i]?:=by
 unfold World.cells? at h
 split at h
 ·refine ⟨by have:=mapM_some_length h;simpa using this,fun i hi=>mapM_some_get h i i (by simp [hi])⟩
 ·cases h
theorem add_add (a:Addr) (i j:Nat) (hs:a.spot=none):(a.add i).add j=⟨a.block,a.off + (i + j),none⟩:=by
 obtain ⟨b,o,s⟩:=a
 simp only at hs
 subst hs
 rw [add_off,add_off,Nat.add_assoc]
theorem fields_read {d:Nat} (ih:∀ {fuel:Nat} {t:TypeId} {cs:List Value} {y:DataW H × List MemPlace} {u:U},uOf P d t=some u→DataW.trod enc P W base spare held fuel t cs=some y→IsTr (Cx.of W) u cs) {n:Nat} {cs:List Value} {xs:List (DataW H × List MemPlace)}:
  ∀ (fs:List Field) (off:Nat) (us:List U),fieldsU P (uOf P d) off fs=some us→(∀ (i:Nat) (f:Field),fs[i]? =some f→∃ y,DataW.trod enc P W base spare held n f.type ((cs.drop f.offset).take (P.cellsOf f.type))=some y)→
   off + U.sizeL us≤cs.length→∃ ts:List Tr,Tr.cellsL ts=(cs.drop off).take (U.sizeL us)∧Tr.OkL (Cx.of W) us ts
 |[],off,us,h,_,_=>by
  simp only [fieldsU,Option.some.injEq] at h
  subst h
  exact ⟨[],by simp [Tr.cellsL,U.sizeL],by unfold Tr.OkL;trivial⟩
 |f::fs,off,us,h,hf,hl=>by
  unfold fieldsU at h
  split at h
  ·cases h
  rename_i hoff
  have hoff:=Nat.eq_of_beq_eq_true hoff
  split at h
  ·cases h
  rename_i u hu
  split at h
  ·cases h
  rename_i hc
  have hc:=Nat.eq_of_beq_eq_true hc
  split at h
  ·cases h
  rename_i us' hus
  cases h
  simp only [U.sizeL] at hl ⊢
  obtain ⟨y,hy⟩:=hf 0 f rfl
  obtain ⟨x,hx,hxo⟩:=ih hu hy
  obtain ⟨ts,hts,htso⟩:=fields_read ih (n:=n) (xs:=xs) fs (off + u.size) us' hus (fun i g hg=>hf (i + 1) g (by simpa using hg)) (by omega)
  refine ⟨x::ts,?_,by unfold Tr.OkL;exact ⟨hxo,htso⟩⟩
  simp only [Tr.cellsL]
  rw [hx,hts,hoff,hc,List.take_add,List.drop_drop]
theorem reps_read {u:U} {n s:Nat}:∀ {m:Nat} {cs:List Value},cs.length=m * s→u.size=s→(∀ i,i<m→IsTr (Cx.of W) u ((cs.drop (i * s)).take s))→∃ ts:List Tr,Tr.cellsL ts=cs∧Tr.OkL (Cx.of W) (List.replicate m u) ts
 |0,cs,hl,_,_=>by
  have:cs=[]:=List.length_eq_zero_iff.1 (by simpa using hl)
  subst this
  exact ⟨[],rfl,by unfold Tr.OkL;trivial⟩
 |m + 1,cs,hl,hs,h=>by
  obtain ⟨x,hx,hxo⟩:=h 0 (by omega)
  obtain ⟨ts,hts,htso⟩:=reps_read (n:=n) (m:=m) (cs:=cs.drop s) (by rw [List.length_drop,hl,Nat.add_mul];omega) hs (fun i hi=>by
   have:=h (i + 1) (by omega)
   rw [Nat.add_mul,Nat.one_mul,Nat.add_comm,←List.drop_drop] at this
   exact this)
  refine ⟨x::ts,?_,by rw [List.replicate_succ];unfold Tr.OkL;exact ⟨hxo,htso⟩⟩
  simp only [Tr.cellsL]
  rw [hx,hts]
  simp
theorem choose_list {α β:Type} {p:Nat→α→Prop}:∀ {n:Nat},(∀ i,i<n→∃ x:α,p i x)→∃ xs:List α,xs.length=n∧∀ i (hi:i<xs.length),p i xs[i]
 |0,_=>⟨[],rfl,fun i hi=>by simp at hi⟩
 |n + 1,h=>by
  obtain ⟨xs,hl,hp⟩:=choose_list (β:=β) (n:=n) fun i hi=>h i (by omega)
  obtain ⟨x,hx⟩:=h n (by omega)
  refine ⟨xs++[x],by simp [hl],fun i hi=>?_⟩
  by_cases h2:i<xs.length
  ·rw [List.getElem_append_left h2];exact hp i h2
  ·have:i=n:=by simp at hi;omega
   subst this
   rw [List.getElem_append_right (by omega)]
   simpa using hx
theorem trod_f64 {fuel:Nat} {t:TypeId} {cs:List Value} {x:DataW H × List MemPlace} (ht:P.underlying t=some (.float .f64)) (h:DataW.trod enc P W base spare held fuel t cs=some x):∃ n,cs=[.float .f64 n]∧(Lit.float .f64 n).wf=true:=by
 cases fuel with
 |zero=>simp [DataW.trod] at h
 |succ n=>
  unfold DataW.trod at h
  rw [ht] at h
  split at h<;>simp_all
theorem tr_read:∀ {d fuel:Nat} {t:TypeId} {cs:List Value} {y:DataW H × List MemPlace} {u:U},uOf P d t=some u→DataW.trod enc P W base spare held fuel t cs=some y→IsTr (Cx.of W) u cs
 |0,_,_,_,_,_,h,_=>by cases h
 |d + 1,fuel,t,cs,y,u,h,hy=>by
  unfold uOf at h
  split at h
  ·rename_i k ht
   cases h
   obtain ⟨n,rfl,_,hw⟩:=DataW.trod_int ht hy
   exact ⟨.int k n,rfl,rfl,hw⟩
  ·rename_i ht
   cases h
   obtain ⟨b,rfl,_⟩:=DataW.trod_bool ht hy
   exact ⟨.bool b,rfl,by unfold Tr.Ok;trivial⟩
  ·rename_i ht
   cases h
   obtain ⟨n,rfl,hn⟩:=trod_f64 ht hy
   exact ⟨.flt n,rfl,by unfold Tr.Ok;exact hn⟩
  ·rename_i ht
   cases h
   obtain ⟨s,rfl,_,hs⟩:=DataW.trod_string ht hy
   exact ⟨.str s,rfl,hs⟩
  ·rename_i e ht
   split at h
   case h_2=>cases h
   rename_i ue hue
   split at h
   case h_2=>cases h
   rename_i hc
   simp only [Bool.and_eq_true] at hc
   have hpos:0<ue.size:=Nat.blt_eq.mp hc.2
   have hc:=Nat.eq_of_beq_eq_true hc.1
   cases h
   rcases DataW.trod_slice ht hy with ⟨rfl,_⟩|⟨a,len,cap,elems,rest,n,_,rfl,_,_,hlc,hcm,hel,helem,_,_⟩
   ·refine ⟨.sl ⟨none,0,0⟩ [],rfl,?_⟩
    unfold Tr.Ok
    exact ⟨⟨⟨Wid.nil,rfl,fun h=>absurd rfl h⟩,Nat.le_refl _⟩,Nat.zero_le _,by unfold Tr.OkA;trivial⟩
   ·obtain ⟨xs,hxl,hxs⟩:=choose_list (β:=Unit) (p:=fun i (x:Tr)=>W.cells? base (a.add (i * P.cellsOf e)) (P.cellsOf e)=some x.cells∧x.Ok (Cx.of W) ue) (n:=len) fun i hi=>by
     have h1:=helem i hi
     rw [List.getElem?_eq_getElem (by omega)] at h1
     obtain ⟨ce,hce,hte⟩:=Option.bind_eq_some_iff.1 h1
     obtain ⟨x,rfl,hx⟩:=tr_read hue hte
     exact ⟨x,hce,hx⟩
    refine ⟨.sl ⟨some a,len,cap⟩ xs,rfl,?_⟩
    unfold Tr.Ok
    have hwid:Wid ue.size (xs.map Tr.cells):=fun r hr=>by
     obtain ⟨x,hx,rfl⟩:=List.mem_map.1 hr
     obtain ⟨i,hi,rfl⟩:=List.getElem_of_mem hx
     have:=(cells?_cell (hxs i hi).1).1
     rw [this,hc]
    refine ⟨⟨⟨hwid,by simp [hxl],fun hne=>?_⟩,hlc⟩,by omega,Tr.okA_mk fun x hx=>by obtain ⟨i,hi,rfl⟩:=List.getElem_of_mem hx;exact (hxs i hi).2⟩
    -- the block
    have h0:0<xs.length:=by
     have:0<(xs.map Tr.cells).length:=List.length_pos_iff.2 hne
     simpa using this
    have hcell:∀ i (hi:i<xs.length) j,j<ue.size→W.cell? ((a.add (i * ue.size)).add j)=(xs[i].cells)[j]?:=fun i hi j hj=>by
     have:=(cells?_cell (hxs i hi).1).2 j (by rw [hc];exact hj)
     rw [hc] at this;exact this
    have hxl0:∀ i (hi:i<xs.length),(xs[i].cells).length=ue.size:=fun i hi=>by rw [(cells?_cell (hxs i hi).1).1,hc]
    have hc0:=hcell 0 h0 0 (by omega)
    rw [List.getElem?_eq_getElem (by rw [hxl0 0 h0];omega)] at hc0
    have hz0:(a.add (0 * ue.size)).add 0=a:=by rw [Nat.zero_mul];simp [Addr.add]
    rw [hz0] at hc0
    obtain ⟨hs,l,T,fr,hl,_⟩:=block_of_cell hc0
    refine ⟨a.block,a.off,l,T,fr,by cases a;simp_all,hl,fun i v hv=>?_⟩
    -- which row, which place
    have hlen:=hwid.len
    rw [List.length_map] at hlen
    have hi:i<(xs.map Tr.cells).flatten.length:=(List.getElem?_eq_some_iff.1 hv).1
    have hq:i / ue.size<xs.length:=by
     rw [hlen] at hi;exact Nat.div_lt_of_lt_mul (by rwa [Nat.mul_comm])
    have hm:i % ue.size<ue.size:=Nat.mod_lt _ (by omega)
    have hcc:=hcell (i / ue.size) hq (i % ue.size) hm
    rw [add_add a _ _ hs,show i / ue.size * ue.size + i % ue.size=i by rw [Nat.mul_comm];exact Nat.div_add_mod _ _] at hcc
    have e1:(xs.map Tr.cells).flatten[i]? =(xs[i / ue.size].cells)[i % ue.size]?:=by
     have h1:i=i / ue.size * ue.size + i % ue.size:=by rw [Nat.mul_comm];exact (Nat.div_add_mod _ _).symm
     conv=>lhs;rw [h1]
     rw [←List.getElem?_drop,hwid.drop_flat,List.drop_eq_getElem_cons (by simpa using hq),List.flatten_cons,List.getElem?_append_left (by rw [List.getElem_map,hxl0 _ hq];exact hm),List.getElem_map]
    rw [←e1,hv] at hcc
    simp only [World.cell?,hl,Option.isSome_none,Bool.false_eq_true,if_false] at hcc
    exact hcc
  ·rename_i fs ht
   split at h
   case h_2=>cases h
   rename_i us hus
   split at h
   case h_2=>cases h
   rename_i hc
   have hc:=Nat.eq_of_beq_eq_true hc
   cases h
   obtain ⟨xs,n,_,_,hl,hxl,hf⟩:=DataW.trod_struct ht hy
   obtain ⟨ts,hts,hto⟩:=fields_read (d:=d) (fun h h2=>tr_read h h2) (n:=n) (cs:=cs) (xs:=xs) fs.toList 0 us hus (fun i f hfi=>by
    have hfi2:fs[i]? =some f:=by simpa using hfi
    have hlt:i<xs.length:=by rw [hxl];exact (Array.getElem?_eq_some_iff.1 hfi2).1
    exact ⟨xs[i],by rw [hf i f hfi2];exact List.getElem?_eq_getElem hlt⟩) (by omega)
   refine ⟨.st ts,?_,by unfold Tr.Ok;exact hto⟩
   unfold Tr.cells
   rw [hts,List.drop_zero,List.take_of_length_le (by omega)]
  ·rename_i m e ht
   split at h
   case h_2=>cases h
   rename_i ue hue
   split at h
   case h_2=>cases h
   rename_i hc
   simp only [Bool.and_eq_true] at hc
   have hc1:=Nat.eq_of_beq_eq_true hc.1
   have hc2:=Nat.eq_of_beq_eq_true hc.2
   cases h
   obtain ⟨xs,n,_,_,hl,hxl,hf⟩:=DataW.trod_array ht hy
   obtain ⟨ts,hts,hto⟩:=reps_read (n:=n) (u:=ue) (s:=ue.size) (m:=m) (cs:=cs) (by rw [hl,hc2]) rfl (fun i hi=>by
    have:=hf i hi
    rw [hc1,List.getElem?_eq_getElem (by omega)] at this
    exact tr_read hue this)
   exact ⟨.st ts,by unfold Tr.cells;exact hts,by unfold Tr.Ok;exact hto⟩
  ·cases h
theorem tr_arg {d:Nat} {t:TypeId} {v:Value} {dt:DataW H} {p:List MemPlace} {u:U} (hu:uOf P d t=some u) (h:DataW.Trod enc P W base spare held t v dt p):IsTr (Cx.of W) u v.cells.toList:=by
 obtain ⟨fuel,hf⟩:=h
 exact tr_read hu hf
theorem sl_form {α:Type} {R:Cx} {u:U} {s:Sl} {xs:List Tr} (g:α→List Value) (Q:α→Prop) (ho:Tr.Ok R (.sl u) (.sl s xs)) (h:∀ x:Tr,x.Ok R u→∃ e:α,x.cells=g e∧Q e):
  ∃ es:List α,RoN u.size R s (es.map g)∧es.length≤maxLen∧∀ e∈es,Q e:=by
 unfold Tr.Ok at ho
 obtain ⟨⟨h1,_⟩,h2,h3⟩:=ho
 have key:∀ l:List Tr,(∀ x∈l,x.Ok R u)→∃ es:List α,l.map Tr.cells=es.map g∧es.length=l.length∧∀ e∈es,Q e:=fun l=>by
  induction l with
  |nil=>exact fun _=>⟨[],rfl,rfl,fun _ h=>by cases h⟩
  |cons x l ih=>
   intro hl
   obtain ⟨es,h1,h2,h3⟩:=ih fun y hy=>hl y (List.mem_cons_of_mem _ hy)
   obtain ⟨e,he,hq⟩:=h x (hl x List.mem_cons_self)
   exact ⟨e::es,by rw [List.map_cons,List.map_cons,he,h1],by simp [h2],fun y hy=>by
    rcases List.mem_cons.1 hy with rfl|hy
    ·exact hq
    ·exact h3 y hy⟩
 obtain ⟨es,e1,e2,e3⟩:=key xs (Tr.okA h3)
 rw [e1] at h1
 exact ⟨es,h1,by omega,e3⟩
theorem sl_cap {R:Cx} {u:U} {s:Sl} {xs:List Tr} (ho:Tr.Ok R (.sl u) (.sl s xs)):s.len≤s.cap:=by
 unfold Tr.Ok at ho
 exact ho.1.2
theorem RoN.one {R:Cx} {s:Sl} {vs:List Value} (h:RoN 1 R s (vs.map fun v=>[v])) (hb:vs.length≤maxLen):Ro R s vs:=by
 refine ⟨by have:=h.len;simpa using this,by unfold maxLen at hb;omega,fun hne=>?_⟩
 obtain ⟨b,off,l,T,fr,h1,h2,h3⟩:=h.mem (by simpa using hne)
 refine ⟨b,off,l,T,fr,h1,h2,fun i v hv=>h3 i v ?_⟩
 have:(vs.map fun v=>[v]).flatten=vs:=by
  clear h3 h hb hne hv
  induction vs with
  |nil=>rfl
  |cons v vs ih=>simp [ih]
 rw [this];exact hv
theorem ints_form {R:Cx} {k:IntKind} {s:Sl} {xs:List Tr} (ho:Tr.Ok R (.sl (.int k)) (.sl s xs)):∃ zs:List Int,Ro R s (zs.map (Value.int k))∧zs.length≤maxLen∧∀ z∈zs,(Lit.int k z).wf=true:=by
 obtain ⟨zs,h1,h2,h3⟩:=sl_form (fun z:Int=>[Value.int k z]) (fun z=>(Lit.int k z).wf=true) ho fun x hx=>by
  cases x<;>simp only [Tr.Ok] at hx
  rename_i k' z
  obtain ⟨rfl,hw⟩:=hx
  exact ⟨z,rfl,hw⟩
 refine ⟨zs,RoN.one ?_ (by simpa using h2),h2,h3⟩
 rw [List.map_map]
 exact h1
end
end Go.VC

/- Arguments of the laws of chapter 12, read. No condition. -/
namespace Go.Proofs.YthpmfnffkjjlnaaGreat
set_option linter.unusedVariables false
set_option linter.unusedSimpArgs false
open Go Go.VC Go.ChangeShapes Go.WideShapes Go.ChangeAt Go.RowKit
theorem wfu8 {n:Int} (h:(Lit.int .u8 n).wf=true):0≤n∧n<256:=by
 simp [Lit.wf,IntKind.min,IntKind.max,IntKind.bits,IntKind.signed] at h;omega
variable {H:Type} {enc:TypeId × Value→H} {W:World} {r:Reach} {b0:Nat} {v:Value} {d:DataW H} {p:List MemPlace}
end Go.Proofs.YthpmfnffkjjlnaaGreat
/- RaftAlone: who is alone commits at once. Condition: bounds on lengths. -/
namespace Go.Proofs.YthpmfnffkjjlnaaGreat
set_option linter.unusedVariables false
set_option linter.unusedSimpArgs false
open Go Go.VC
open Go.Rf (Ey Lg LgOk)
variable {R R' R1 R2:Cx} {Hs Rest Rest2:List HP} {w:World} {p:Nat} {n m:Rn} {tm c:Int} {es:List Ey}
theorem Lone.reads (h:Lone n tm es c) (l:List (Int × Int)):Lone { n with rrd:=l } tm es c:=
 ⟨h.id,h.eid,h.role,h.etm,h.b,h.l,h.com,h.app,h.ps,h.rs,h.sn,h.g,h.win,h.ok,h.kd,h.tms,h.t0,h.t1,h.c0,h.c1,h.by',h.rnd⟩
theorem Lone.out (h:Lone n tm es c):Lone n.out.2 tm es c∧n.out.2.rrd=[]∧n.out.2.rms=[]∧n.out.1.rd=n.rrd:=
 ⟨⟨h.id,h.eid,h.role,h.etm,h.b,h.l,h.com,h.app,h.ps,h.rs,h.sn,h.g,h.win,h.ok,h.kd,h.tms,h.t0,h.t1,h.c0,h.c1,h.by',h.rnd⟩,rfl,rfl,rfl⟩
theorem Lone.get_last {x:Ey} (h:Lone n tm (es++[x]) c):n.log.get ((es.length:Int) + 1) 1=[x]:=by
 have hh:n.log.has ((es.length:Int) + 1)=true:=Rf.Lg.has_iff.2 (by rw [h.last,h.b,List.length_append];show (0:Int)≤_∧_;simp;omega)
 unfold Lg.get
 rw [if_neg (by rw [hh,h.b];show ¬ ((es.length:Int) + 1≤0∨_);simp),h.b]
 show (n.log.all.drop ((es.length:Int) + 1 - 0).toNat).take 1=_
 unfold Lg.all
 rw [h.l,show ((es.length:Int) + 1 - 0).toNat=es.length + 1 by omega,List.drop_succ_cons,List.drop_append_of_le_length (Nat.le_refl _),List.drop_length]
 rfl
abbrev alSl (ps:List (Sl × List Int)):List Sl:=ps.map (·.1)
structure PsIn (R:Cx) (s:Sl) (ps:List (Sl × List Int)):Prop where
 rows:Ro R s ((alSl ps).map Sl.v)
 each:∀ e∈ps,SlR R.m e.1 (b8 e.2)
 by':∀ e∈ps,bytesOk e.2
set_option maxRecDepth 20000 in
theorem alone_lspec {s:Sl} {ps:List (Sl × List Int)} {t:Int} (hp:PsIn R s ps) (hw:Sat R Hs w):
  Gets Tryz.prog 3 #[.slice s.a s.len s.cap,.int .i64 t] w fun r w'=>r=.bool true∧Sat R Hs w':=by
 apply call3
 have hsl:s.len=ps.length:=by have:=hp.rows.len;simpa using this
 refine (awake_spec hw).use ?_
 clear hw
 rintro _ w ⟨rfl,hw⟩
 refine ⟨true,rfl,fun w=>(0≤t∧t≤549755813888)∧Sat R Hs w,?_,?_⟩
 ·refine Br.f rfl (Br.d (fun _=>⟨rfl,hw⟩) fun h1=>Br.d (fun _=>⟨rfl,hw⟩) fun h2=>⟨⟨by omega,by omega⟩,hw⟩)
 clear hw
 rintro _ w ⟨⟨h0,h1⟩,hw⟩
 refine new_rule hw fun b w hw=>?_
 refine (lnew1_spec (t:=t) h0 (by omega) hw).use ?_
 clear hw
 rintro _ w ⟨p,n,R1,rfl,he,e1,hw⟩
 refine ⟨_,_,rfl,fun w=>Sat R1 (NAt R1 p n::Hs) w,Br.f rfl (Br.f rfl hw),?_⟩
 clear hw
 rintro _ w hw
 refine (ltick1_spec (t:=t) h0 (by omega) he hw).use ?_
 clear hw
 rintro _ w ⟨rfl,m,R2,hL,hr,hm,e2,hw⟩
 refine ⟨rfl,fun i w=>∃ (k:Nat) (R':Cx) (n:Rn) (es:List Ey),i=k∧k≤50∧k≤ps.length∧R.Ext R'∧Lone n (t + 1) es es.length∧es.length=k + 1∧n.rrd=[]∧n.rms=[]∧Sat R' (NAt R' p n::Hs) w,fun i _=>(100 - i).toNat,
  ⟨0,R2,m,_,rfl,by omega,by omega,e1.trans e2,hL,rfl,hr,hm,hw⟩,?_⟩
 clear hw he e1 e2 hL hr hm
 rintro _ _ w ⟨k,R3,n,es,rfl,hk,hkp,e3,hL,hes,hrr,hms,hw⟩
 have fin:∀ w:World,Sat R3 (NAt R3 p n::Hs) w→NilP (some ⟨p,0,none⟩) fun a=>∃ t140:Option Addr,(At (fun w'=>w'=w) (Addr.add a 0) [.pointer t140])∧
   Calls Tryz.prog 16 #[.pointer t140] w fun e w'=>∃ x:Int,(e=.returned (.int .i64 x))∧(Value.bool (x==3)=.bool true∧Sat R Hs w'):=fun w hw=>by
  obtain ⟨L,hn,hw⟩:=NAt.iff.1 hw
  refine NilP.mk rfl ⟨_,At.own (eqS hw) (by exact ⟨rfl,trivial⟩),?_⟩
  refine (nrole_rule (K:=fun v w'=>v=.int .i64 3∧Sat R3 (NAt R3 p n::Hs) w') hn hw fun w hw=>⟨by rw [hL.role],hw⟩).use ?_
  clear hw
  rintro _ w ⟨rfl,hw⟩
  exact ⟨_,rfl,rfl,e3.back hw.drop⟩
 refine ⟨fun w=>(k<ps.length∧k<50)∧Sat R3 (NAt R3 p n::Hs) w,?_,?_⟩
 ·exact Br.d (fun h1=>Br.d (fun h2=>⟨⟨by omega,by omega⟩,hw⟩) fun h2=>fin w hw) fun h1=>fin w hw
 clear hw
 rintro _ w ⟨⟨h1,h2⟩,hw⟩
 have hkl:k<(alSl ps).length:=by simpa using h1
 obtain ⟨e,hee⟩:∃ e,e=ps[k]:=⟨_,rfl⟩
 have hea:(alSl ps)[k]=e.1:=by rw [hee];simp
 have hem:e∈ps:=by rw [hee];exact List.getElem_mem _
 have hel:e.1.len=e.2.length:=by have:=(hp.each e hem).len;simpa using this
 have hp3:Ro R3 s ((alSl ps).map Sl.v):=e3.ro hp.rows
 have hsd:SlR R3.m e.1 (b8 e.2):=e3.slR (hp.each e hem)
 have hby:=hp.by' e hem
 refine hp3.idxS (eqS hw) hkl ?_
 rw [hea]
 refine Br.d (fun _=>⟨rfl,e3.back hw.drop⟩) fun h3=>hp3.idxS (eqS hw) hkl ?_
 rw [hea]
 have hlen:e.2.length≤4096:=by omega
 obtain ⟨p1,hL1,p3,p4⟩:=hL.propose hby hlen (by omega)
 refine (propose_spec (fun _=>hL.rnl) (fun _=>by rw [hL.last];omega) (by rw [hms];simp) hsd hby hw).use ?_
 clear hw
 rintro _ w ⟨rfl,R4,e4,hw⟩
 obtain ⟨n1,hn1⟩:∃ n1,n1=(n.propose e.2).2:=⟨_,rfl⟩
 rw [←hn1] at hw hL1 p3 p4
 rw [p1]
 obtain ⟨x,hx⟩:∃ x:Ey,x=⟨(es.length:Int) + 1,t + 1,1,e.2⟩:=⟨_,rfl⟩
 rw [←hx] at hL1
 obtain ⟨es2,hes2⟩:∃ es2,es2=es++[x]:=⟨_,rfl⟩
 have hel2:(es2.length:Int)=(es.length:Int) + 1:=by rw [hes2,List.length_append];simp
 have hne:es2≠[]:=by rw [hes2];simp
 rw [←hel2,←hes2] at hL1
 refine ⟨_,_,rfl,?_⟩
 refine (read_spec (fun _=>hL1.rnl) hL1.rng k (by rw [hL1.rnd];omega) (by rw [p4,hms];simp) (by rw [p3,hrr];simp) hw).use ?_
 clear hw
 rw [hL1.read hne,p3,hrr,List.nil_append]
 rintro _ w ⟨rfl,hw⟩
 have hL2:=hL1.reads [((k:Int),(es2.length:Int))]
 obtain ⟨n2,hn2⟩:∃ n2,n2={ n1 with rrd:=[((k:Int),(es2.length:Int))] }:=⟨_,rfl⟩
 have hrd2:n2.rrd=[((k:Int),(es2.length:Int))]:=by rw [hn2]
 rw [←hn2] at hL2
 have hw:Sat R4 (NAt R4 p n2::Hs) w:=by rw [hn2];exact hw
 refine ⟨_,rfl,?_⟩
 refine (out_spec (by rw [hL2.sn];decide) hw).use ?_
 clear hw
 obtain ⟨hL3,o1,o2,o3⟩:=hL2.out
 rintro _ w ⟨R5,L,e5,hri,rfl,hw⟩
 obtain ⟨r,hr⟩:∃ r,r=n2.out.1:=⟨_,rfl⟩
 obtain ⟨n3,hn3⟩:∃ n3,n3=n2.out.2:=⟨_,rfl⟩
 rw [←hr] at hw o3
 rw [←hn3] at hw hL3 o1 o2
 rw [←hr]
 rw [hrd2] at o3
 refine ⟨r.hn,r.hd.tm,r.hd.vt,r.sn',r.sn.ix,r.sn.tm,L.v,L.l,L.d,r.fr,L.ms,L.rr,rfl,new_rule hw fun b3 w hw=>?_⟩
 refine store_rule hw (by kernel_rfl) rfl (by simp [Value.cells,putL_len]) fun w hw=>?_
 have hw:=hw.re (pts b3 (rdyCells r L))
 refine (nget_spec hL3.lg ((es.length:Int) + 1) 1 (hw.take (NAt R5 p n3))).use ?_
 clear hw
 rintro _ w ⟨R6,g,ds,e6,hds,hde,rfl,hw⟩
 have hgl:n3.log.get ((es.length:Int) + 1) 1=[x]:=Lone.get_last (c:=es2.length) (tm:=t + 1) (by rw [←hes2];exact hL3)
 rw [hgl] at hde
 obtain ⟨d,hd⟩:∃ d,ds=[d]∧d.2=x:=by
  match ds,hde with
  |[d],hde=>exact ⟨d,rfl,(List.cons.inj hde).1⟩
 obtain ⟨rfl,hdx⟩:=hd
 have hgn:g.len=1:=by have:=OwnN.len hw;simpa using this
 have hrn:L.rr.len=1:=by have:=OwnN.len (hw.take (RrAt L.rr r.rd));rw [o3] at this;simpa using this
 have hw:Sat R6 (EntO g [d]::NAt R6 p n3::pts b3 (rdyCells r L)::MsAt R5 L.ms r.ms::RrAt L.rr r.rd::Hs) w:=hw
 have hk2:(k:Int) + 2=(es.length:Int) + 1:=by omega
 have e36:=(e3.trans e4).trans (e5.trans e6)
 refine ⟨g,rfl,drw_rule hw fun w hw=>Br.f rfl (Br.f rfl (Br.f (by rw [wrap64 (by omega) (by omega),hk2];simp) ?_))⟩
 refine (ncom_spec (hw.take (NAt R6 p n3))).use ?_
 clear hw
 rintro _ w ⟨rfl,hw⟩
 have hw:Sat R6 (EntO g [d]::NAt R6 p n3::pts b3 (rdyCells r L)::MsAt R5 L.ms r.ms::RrAt L.rr r.rd::Hs) w:=hw.arr
 refine ⟨_,rfl,hw,Br.f (by rw [hL3.com,hel2];simp) ⟨L.rr,At.own selfS (by exact ⟨rfl,trivial⟩),Br.f (by rw [hrn];rfl) ⟨L.rr,At.own selfS (by exact ⟨rfl,trivial⟩),?_⟩⟩⟩
 have hrr0:0<r.rd.length:=by rw [o3];simp
 refine (OwnN.readsM (T:=50) (n:=2) (s:=L.rr) (rows:=r.rd.map rrRow) hw selfS).rngI (g:=rrRow) 0 rfl hrr0 fun a _ el=>?_
 have e0:r.rd[0]=((k:Int),(es2.length:Int)):=by simp [o3]
 rw [e0] at el
 refine ⟨(es2.length:Int),el.f 1 (by exact ⟨rfl,trivial⟩),Br.f (by rw [hel2];simp) (Br.f (by rw [hgn];rfl) ?_)⟩
 have hdl:0<[d].length:=by simp
 refine (OwnN.readsM (T:=52) (n:=4) (s:=g) (rows:=[d].map eRow) hw selfS).rngI (g:=eRow) 0 rfl hdl fun a ha el=>?_
 have hdd:SlR R6.m d.1 (b8 e.2):=by have:=hds d (by simp);rwa [hdx,hx] at this
 have hby6:e.2.length≤9223372036854775807:=by omega
 refine ⟨d.1,el.f 3 (by exact ⟨rfl,trivial⟩),VC.strOf e.2,fun w' h=>convS_ro Tryz.underlying33 Tryz.underlying5 Tryz.underlying9 h (hdd.ro (by rw [List.length_map];omega)),?_⟩
 refine (e36.ro hp.rows).idxS selfS hkl ?_
 rw [hea]
 refine ⟨VC.strOf e.2,fun w' h=>convS_ro Tryz.underlying33 Tryz.underlying5 Tryz.underlying9 h ((e36.slR (hp.each e hem)).ro (by rw [List.length_map];omega)),Br.f (by simp) ?_⟩
 refine (OwnN.readsM (T:=52) (n:=4) (s:=g) (rows:=[d].map eRow) hw selfS).rngI (g:=eRow) 0 rfl hdl fun a ha el=>?_
 refine ⟨d.2.tm,el.f 1 (by exact ⟨rfl,trivial⟩),Br.f (by rw [wrap64 (by omega) (by omega),hdx,hx];simp) ⟨⟨k + 1,R6,n3,es2,?_,by omega,by omega,e36,hL3,by omega,o1,o2,hw.drop.cons fun _ h=>h.drop.drop.drop⟩,?_⟩⟩
 ·rw [wrap64 (by omega) (by omega)];omega
 ·rw [wrap64 (by omega) (by omega)];show (100 - ((k:Int) + 1)).toNat<(100 - (k:Int)).toNat;omega
end Go.Proofs.YthpmfnffkjjlnaaGreat
/- Arguments of RaftAlone, read. No condition. -/
namespace Go.Proofs.YthpmfnffkjjlnaaGreat
set_option linter.unusedVariables false
set_option linter.unusedSimpArgs false
open Go Go.VC Go.ChangeShapes Go.WideShapes Go.ChangeAt Go.RowKit
theorem pieceR_form {R:Cx} {x:Tr} (h:x.Ok R (.sl (.int .u8))):∃ e:Sl × List Int,x.cells=[e.1.v]∧SlR R.m e.1 (b8 e.2)∧bytesOk e.2:=by
 cases x<;>simp only [Tr.Ok] at h
 rename_i s xs
 have h:Tr.Ok R (.sl (.int .u8)) (.sl s xs):=by unfold Tr.Ok;exact h
 obtain ⟨bl,hb1,hb2,hb3⟩:=ints_form h
 exact ⟨(s,bl),rfl,⟨hb1.len,sl_cap h,hb1.mem⟩,fun z hz=>wfu8 (hb3 z hz)⟩
variable {H:Type} {enc:TypeId × Value→H} {W:World} {r:Reach} {b0:Nat} {v:Value} {d:DataW H} {p:List MemPlace}
set_option maxRecDepth 100000 in
theorem piecesR_in (hv:Value.okWide Tryz.prog W r b0 22 v) (h:DataW.Trod enc Tryz.prog W 0 (fun _=>true) true 22 v d p):
  ∃ (m:Sl) (ps:List (Sl × List Int)),v=.slice m.a m.len m.cap∧PsIn (Cx.of W) m ps:=by
 obtain ⟨a,n,c,rfl⟩:=okWide_slice Tryz.underlying22 hv
 obtain ⟨x,hx,ho⟩:=tr_arg (d:=6) (u:=.sl (.sl (.int .u8))) (by kernel_rfl) h
 cases x<;>simp only [Tr.Ok] at ho
 rename_i s xs
 obtain ⟨ps,h1,h2,h3⟩:=sl_form (fun e:Sl × List Int=>[e.1.v]) (fun e=>SlR (Cx.of W).m e.1 (b8 e.2)∧bytesOk e.2) (show Tr.Ok (Cx.of W) (.sl (.sl (.int .u8))) (.sl s xs) by unfold Tr.Ok;exact ho) fun x hx=>pieceR_form hx
 have h1:RoN 1 (Cx.of W) s (((ps.map (·.1)).map Sl.v).map fun v=>[v]):=by rw [List.map_map,List.map_map];exact h1
 refine ⟨s,ps,?_,⟨h1.one (by simpa using h2),fun e he=>(h3 e he).1,fun e he=>(h3 e he).2⟩⟩
 have:[Value.slice s.a s.len s.cap]=[Value.slice a n c]:=by simpa [Tr.cells,Value.cells] using hx
 exact (List.cons.inj this).1.symm
end Go.Proofs.YthpmfnffkjjlnaaGreat
