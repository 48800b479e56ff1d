/- Safety, plain: a node compacts; begins anew. No condition. -/
import Derived.Test.YthpmfnffkjjlnaaGreatB6
import Derived.Test.YthpmfnffkjjlnaaGreatB5
import Derived.Test.YthpmfnffkjjlnaaGreatB1
import Derived.ProofKit
import Derived.OpenShut
import Derived.ShutString
import Derived.ChangeOld
import Derived.Below
import Derived.Lib.SmallJoins
import Derived.Test.YthpmfnffkjjlnaaGreatB2
set_option linter.unusedVariables false
set_option linter.unusedSimpArgs false
namespace Go.Proofs.YthpmfnffkjjlnaaGreat
section
open Go Go.VC Tryz
open Go.Rf
variable {G G':Gh} {y:Int} {E E':Nat} {n:Rn} {F:List Ey} {C:Ct} {g0:Gp}
structure Zb7 (n:Rn):Prop where
  ms:n.rms=[]
  rd:n.rrd=[]
  fr:n.rfr=0
  sn:n.rsn=false
  told:n.told=n.e.hd
def Rn.disk (n:Rn):Dk:=⟨n.told,n.sn,n.log.l⟩
theorem Zb7.drel (h:Zb7 n):DRel n.disk n:=⟨rfl,λ _=>rfl,by rw [h.sn];exact .inl ⟨h.fr,rfl⟩⟩
theorem NI.comp (h:NI C E G n F) (X:Zal C.g0 E G) (hE:E<=1000000) (hc:Zb7 n):Zb7 n.comp.2/\n.comp.2.id=n.id/\(n.comp.1=0->NI (C.wd n.comp.2.disk) E G n.comp.2 F)/\(n.comp.1≠0->NI C E G n.comp.2 F):=by
  have hc0:=h.c0;have ha0:=h.fl.ok.a0;have ha1:=h.fl.ok.a1;have hFl:=X.len h.A.good;have ea:(n.log.apply n.log.com).2={ n.log with app:=n.log.com }:=by
    unfold Lg.apply;rw [if_neg (by omega)]
  have fl1:=h.fl.apply n.log.com;rw [ea] at fl1;have e1:(n.done n.log.com).2={ n with log:={ n.log with app:=n.log.com } }:=by unfold Rn.done;rw [ea]
  unfold Rn.comp;rw [e1];unfold Rn.compact;dsimp only;have fl2:=fl1.compact n.log.com;have hcp:({ n.log with app:=n.log.com }:Lg).compact n.log.com=(0,{ n.log with app:=n.log.com,b:={ n.log.at n.log.com with dt:=[] },l:=n.log.l.drop (n.log.com - n.log.b.ix).toNat }):=by
    unfold Lg.compact;rw [if_neg (by dsimp only;omega)];rfl
  rw [hcp] at fl2;rw [hcp,if_neg (by show ¬ (1:Int)>60000;decide)];dsimp only;rw [if_neg (by decide)];have hi:n.log.has n.log.com=true:=h.fl.has.2 ⟨by omega,by omega⟩;have hix:=h.fl.ok.at_ix hi;have hcl:Zb7 { n with log:={ n.log with app:=n.log.com,b:={ n.log.at n.log.com with dt:=[] },l:=n.log.l.drop (n.log.com - n.log.b.ix).toNat },sn:=⟨n.log.com,(Lg.term { n.log with app:=n.log.com,b:={ n.log.at n.log.com with dt:=[] },l:=n.log.l.drop (n.log.com - n.log.b.ix).toNat } n.log.com).1,Rn.foldG { n with log:={ n.log with app:=n.log.com } } (IntKind.i64.wrap (IntKind.i64.wrap (n.log.com + 1) - (n.log.b.ix + 1))),[n.log.com % 256]⟩ }:=⟨hc.ms,hc.rd,hc.fr,hc.sn,hc.told⟩;refine ⟨hcl,rfl,λ _=>?_,λ h0=>absurd rfl h0⟩;exact { h with
    fl:=fl2
    sx:=hix.symm
    st:=by
      have ht:(Lg.term { n.log with app:=n.log.com,b:={ n.log.at n.log.com with dt:=[] },l:=n.log.l.drop (n.log.com - n.log.b.ix).toNat } n.log.com).2=true:=by
        unfold Lg.term;rw [if_pos (fl2.has.2 ⟨by show (n.log.at n.log.com).ix<=_;rw [hix];omega,by omega⟩)]
      have h1:=(fl2.term ht).2.2;have h2:=fl2.bt;have h2:(n.log.at n.log.com).tm=ltm (F.take (n.log.at n.log.com).ix.toNat):=h2;rw [hix] at h2;exact h1.trans h2.symm
    sg:=by
      show Rn.foldG _ _=_;rw [Zh (x:=n.log.com + 1) (by omega) (by omega),Zh (by omega) (by omega),Zi6 (n:={ n with log:={ n.log with app:=n.log.com } }) fl1 h.sx h.sg];have hsx:=h.sx;have e9:n.sn.ix.toNat + (n.log.com + 1 - (n.log.b.ix + 1)).toNat=n.log.com.toNat:=by omega
      show grp C.g0 (F.take (n.sn.ix.toNat + (n.log.com + 1 - (n.log.b.ix + 1)).toNat))=grp C.g0 (F.take n.log.com.toNat);rw [e9]
    sb:=λ z hz=>by
      have hz:z∈[n.log.com % 256]:=hz;rw [List.mem_singleton] at hz;omega
    rs:=λ x hx=>by
      have a:=h.rs x hx;exact ⟨a.r1,a.tk,a.bn,a.bh,a.ok⟩
    bd:=⟨h.bd.rs,h.bd.bh,h.bd.rr,h.bd.rn,h.bd.wt⟩
    dk:=hcl.drel }
theorem NI.anew (h:NI C E G n F) (X:Zal C.g0 E G) (ha:RnA n):∃ n',ZbO n.id n.e.hd n.sn n.log.l 3 2=(0,some n')/\n'.id=n.id/\Zb7 n'/\n'.disk=⟨n.e.hd,n.sn,n.log.l⟩/\n'.disk=⟨n'.told,n'.sn,n'.log.l⟩/\NI (C.wd n'.disk) E G n' F:=by
  have hsn:=ha.b.sn;have he:=ha.b.e;have hid:=h.id;obtain ⟨s1,s2⟩:=ZiP hsn;have hc0:=h.c0;have hsr:Zo n.sn.g.vs n.sn.g.ls=true:=ha.b.g.sg;have helok:Zko n.id n.e.hd n.sn.g 3=true:=by
    unfold Zko Z3;have h1:=he.id0;have h2:=he.id1;have h3:=he.t0;have h4:=he.t1;have h5:=he.v0;have h6:=he.v1;rw [hid] at h1 h2;rw [hsr,decide_eq_true ⟨h1,h2⟩,decide_eq_true ⟨h3,h4⟩,decide_eq_true ⟨h5,h6⟩];rfl
  have hadd:(Lg.new n.sn.ix n.sn.tm).add n.log.l=(0,{ Lg.new n.sn.ix n.sn.tm with l:=n.log.l }):=by
    have hes:=h.fl.ok.es;rw [<-h.sx,<-h.st] at hes;obtain ⟨f1,f2⟩:=hes.fol;unfold Lg.add;rw [f1,if_neg (by decide),if_pos (by
      have e1:(Lg.new n.sn.ix n.sn.tm).last=n.sn.ix:=by unfold Lg.last Lg.new;simp
      rw [e1];exact f2)]
    rfl
  have fl:ZaW { Lg.new n.sn.ix n.sn.tm with l:=n.log.l } F:=by
    have ok:=(ZD.new s1 s2).add n.log.l;rw [hadd] at ok;exact ⟨ok,h.fl.fo,by show n.sn.ix.toNat<=_;rw [h.sx];exact h.fl.b,by show F.drop n.sn.ix.toNat=_;rw [h.sx];exact h.fl.l,by show n.sn.tm=ltm (F.take n.sn.ix.toNat);rw [h.st,h.sx];exact h.fl.bt⟩
  have hnew:ZbO n.id n.e.hd n.sn n.log.l 3 2=(0,some (Rn.regroup ⟨Eln.new n.id n.e.hd n.sn.g 3,n.id,2,{ Lg.new n.sn.ix n.sn.tm with l:=n.log.l },n.sn,⟨[],[]⟩,none,[],0,n.e.hd,false,0,[],[]⟩)):=by
    unfold ZbO;rw [hsn,helok,if_neg (by decide),if_neg (by decide),hadd];rfl
  have hd:(Eln.join (Eln.new n.id n.e.hd n.sn.g 3) (grp C.g0 F)).hd=n.e.hd:=by unfold Eln.join;split<;>rfl
  have hcl:Zb7 (Rn.regroup ⟨Eln.new n.id n.e.hd n.sn.g 3,n.id,2,{ Lg.new n.sn.ix n.sn.tm with l:=n.log.l },n.sn,⟨[],[]⟩,none,[],0,n.e.hd,false,0,[],[]⟩):=⟨rfl,rfl,rfl,rfl,by
    rw [ZbF.1];unfold Eln.join;split<;>rfl⟩
  refine ⟨_,hnew,rfl,hcl,rfl,rfl,?_⟩;refine NI.regroup ?_ X.I.gr (λ p x hx=>by cases hx);exact
    { id:=rfl
      i1:=h.i1
      t0:=h.t0
      fl:=fl
      g:=rfl
      eg:=rfl
      sx:=rfl
      st:=rfl
      sg:=h.sg
      sb:=h.sb
      A:=(h.A.rest (r:=0) (by decide) (by decide)).less (by decide) (by show n.sn.ix.toNat<=n.log.com.toNat;rw [h.sx];omega)
      vi:=λ h=>by rcases h with h|h<;>exact absurd h (by show (0:Int)≠_;decide)
      ys:=λ h=>absurd h (by show (0:Int)≠2;decide)
      hr:=λ hs=>by cases hs
      ps:=λ p x hx=>by cases hx
      ms:=λ m hm=>by cases hm
      rr:=λ h=>absurd h (by show (0:Int)≠3;decide)
      r0:=Int.le_refl _
      rs:=λ x hx=>by cases hx
      rl:=λ h=>absurd rfl h
      rd:=λ x hx=>by cases hx
      bd:=⟨by show 0<=64;decide,λ x hx=>(by cases hx),Nat.zero_le _,by show (0:Int)<=(E:Int);omega,by show (0:Int)<=(E:Int);omega⟩
      dk:=⟨rfl,λ _=>rfl,.inl ⟨rfl,rfl⟩⟩ }
end
section
open Go Go.VC Tryz
open Go.Rf
variable {n m:Rn}
theorem RnA.step (h:RnA n) (hr:n.ps.isSome=true->n.e.role=3) {x:Mg} (hx:Zd3 x):RnA (n.step x):=by
 unfold Rn.step;split
 ·exact h
 ·split
  ·exact h.ballot _
  ·split
   ·exact h.asked hx
   ·split
    ·exact h.said hr x
    ·exact h
theorem RnA.lead (h:RnA n) (hr:n.e.role=3) (kd:Int) {dt:List Int} (hb:Zx dt):RnA (n.lead kd dt).2:=by
 obtain ⟨h1,h2⟩:=h.enter hr kd hb;unfold Rn.lead;dsimp only;split
 ·exact h1
 ·exact (Snd.all _).rna (h1.advance h2).1
theorem RnA.propose (h:RnA n) {dt:List Int} (hb:Zx dt):RnA (n.propose dt).2:=by
 unfold Rn.propose;split
 ·exact h
 ·rename_i h1
  split
  ·exact h
  ·exact h.lead (by simpa using h1) 1 hb
theorem Zjb {kd nd:Int} {v l:List Int} (h1:¬ ((chG v l kd nd).2.2 !=0)=true):(1<=kd/\kd<=3)/\1<=nd/\nd<=15:=by
 have h1':(chG v l kd nd).2.2=0:=by simpa using h1
 refine Classical.byContradiction λ hn=>?_;have:=ZbX (v:=v) (l:=l) (kind:=kd) (n:=nd) (.inr (by omega));rw [this] at h1';exact absurd h1' (by decide)
theorem RnA.change (h:RnA n) (kd nd:Int):RnA (n.change kd nd).2:=by
 unfold Rn.change;split
 ·exact h
 ·rename_i h0
  split
  ·exact h
  ·rename_i h1
   have hk:=Zjb h1;split
   ·exact h
   ·refine h.lead (by simpa using h0) 2 λ z hz=>?_
    rcases List.mem_append.1 hz with hz|hz
    ·exact Zcb (by omega) z hz
    ·exact Zcb (by omega) z hz
theorem RnA.beats (h:RnA n):RnA n.beats:=by
 have e:=ZbY n.mem n;unfold Rn.beats;rw [e];exact ⟨⟨⟨h.b.g.lg,h.b.g.lb,h.b.g.sg,h.b.g.w1,h.b.g.w64⟩,h.b.pe,h.b.e,h.b.id,h.b.sn⟩,h.pk,h.sm⟩
theorem RnA.read (h:RnA n) (tok:Int):RnA (n.read tok).2:=by
 unfold Rn.read;split
 ·exact h
 ·split
  ·exact ⟨⟨⟨h.b.g.lg,h.b.g.lb,h.b.g.sg,h.b.g.w1,h.b.g.w64⟩,h.b.pe,h.b.e,h.b.id,h.b.sn⟩,h.pk,h.sm⟩
  ·exact RnA.beats ⟨⟨⟨h.b.g.lg,h.b.g.lb,h.b.g.sg,h.b.g.w1,h.b.g.w64⟩,h.b.pe,h.b.e,h.b.id,h.b.sn⟩,h.pk,h.sm⟩
theorem LgB.compact {g:Lg} (h:LgB g) (i:Int):LgB (g.compact i).2:=by
 unfold Lg.compact;split
 ·exact h
 ·exact λ e he=>h e (List.mem_of_mem_drop he)
theorem RnA.comp {C:Ct} {E:Nat} {G:Gh} {F:List Ey} (h:RnA n) (hN:NI C E G n.comp.2 F) (gr:gOk C.g0):RnA n.comp.2:=by
 have h1:=h.done n.log.com;generalize hx:n.done n.log.com=r at h1;unfold Rn.comp at hN ⊢;rw [hx] at hN ⊢;unfold Rn.compact at hN ⊢;dsimp only at hN ⊢;have hl:ZD (r.2.log.compact r.2.log.app).2:=h1.b.g.lg.compact _;have hb:LgB (r.2.log.compact r.2.log.app).2:=h1.b.g.lb.compact _;by_cases h2:(([r.2.log.app % 256]:List Int).length:Int)>60000
 ·rw [if_pos h2];exact h1
 ·rw [if_neg h2] at hN ⊢
  by_cases h3:((r.2.log.compact r.2.log.app).1 !=0)=true
  ·rw [if_pos h3];exact h1.log hl hb
  ·rw [if_neg h3] at hN ⊢
   have hg:=hN.sg;have sx:=hN.sx;have st:=hN.st;have b0:=hN.fl.ok.b0;have b1:=hN.fl.ok.b1;have t0:=hN.fl.ok.t0;have t1:=hN.fl.ok.t1;have hok:=ZfE gr (F.take (Rn.sn (n.comp).2).ix.toNat);dsimp only at hg sx st b0 b1 t0 t1;have hg2:Zo (r.2.foldG (IntKind.i64.wrap (IntKind.i64.wrap (r.2.log.app + 1) - (r.2.log.b.ix + 1)))).vs (r.2.foldG (IntKind.i64.wrap (IntKind.i64.wrap (r.2.log.app + 1) - (r.2.log.b.ix + 1)))).ls=true:=by
    rw [hg];exact ZfE gr _
   refine ⟨⟨⟨hl,hb,hg2,h1.b.g.w1,h1.b.g.w64⟩,h1.b.pe,h1.b.e,h1.b.id,?_⟩,h1.pk,h1.sm⟩;unfold ZE Z3;dsimp only;rw [hg2,decide_eq_true (by omega),decide_eq_true (by omega)];rfl
theorem RnA.memLen (h:RnA n):n.mem.length<=15:=by
 cases hp:n.ps with
 |none=>
  unfold Rn.mem;rw [hp,Za8];exact Nat.zero_le _
 |some l=>exact ZeB hp (h.pk l hp)
theorem RnA.allLen (h:RnA n):n.all.rms.length<=n.rms.length + 990:=by
 have h1:=(Snd.all n).len;have:=h.memLen;omega
theorem RnA.advAllLen (h:RnA n) (hr:n.e.role=3):n.advance.all.rms.length<=n.rms.length + 1005:=by
 have h1:=(h.advance hr).1.allLen;have h2:=(Zar (h.rnl hr)).2.2.2;omega
theorem RnA.leadLen (h:RnA n) (hr:n.e.role=3) (kd:Int) {dt:List Int} (hb:Zx dt):(n.lead kd dt).2.rms.length<=n.rms.length + 1005:=by
 obtain ⟨h1,h2⟩:=h.enter hr kd hb;have h3:=(Zbg (h.rnl hr) hr kd hb).2.2.1;unfold Rn.lead;dsimp only;split
 ·rw [h3];omega
 ·have:=h1.advAllLen h2
  rw [h3] at this;exact this
theorem RnA.proposeLen (h:RnA n) {dt:List Int} (hb:Zx dt):(n.propose dt).2.rms.length<=n.rms.length + 1005:=by
 unfold Rn.propose;split
 ·exact Nat.le_add_right _ _
 ·rename_i h1
  split
  ·exact Nat.le_add_right _ _
  ·exact h.leadLen (by simpa using h1) 1 hb
theorem RnA.changeLen (h:RnA n) (kd nd:Int):(n.change kd nd).2.rms.length<=n.rms.length + 1005:=by
 unfold Rn.change;split
 ·exact Nat.le_add_right _ _
 ·rename_i h0
  split
  ·exact Nat.le_add_right _ _
  ·rename_i h1
   have hk:=Zjb h1;split
   ·exact Nat.le_add_right _ _
   ·refine h.leadLen (by simpa using h0) 2 λ z hz=>?_
    rcases List.mem_append.1 hz with hz|hz
    ·exact Zcb (by omega) z hz
    ·exact Zcb (by omega) z hz
theorem RnA.beatsLen (h:RnA n):n.beats.rms.length<=n.rms.length + 15:=by
 have h1:=(ZgL n.mem n).2.1;have:=h.memLen;unfold Rn.beats;omega
theorem RnA.readLen (h:RnA n) (tok:Int):(n.read tok).2.rms.length<=n.rms.length + 15:=by
 unfold Rn.read;split
 ·exact Nat.le_add_right _ _
 ·split
  ·exact Nat.le_add_right _ _
  ·exact RnA.beatsLen (n:={ n with rnd:=n.rnd + 1,rs:=n.rs++[⟨tok,n.log.com,n.rnd + 1,[n.id]⟩] }) ⟨⟨⟨h.b.g.lg,h.b.g.lb,h.b.g.sg,h.b.g.w1,h.b.g.w64⟩,h.b.pe,h.b.e,h.b.id,h.b.sn⟩,h.pk,h.sm⟩
theorem RnB.votedLen (h:RnB n) {led:Bool} (bl:List Bl):(n.voted led bl).rms.length<=n.rms.length + bl.length + 1005:=by
 unfold Rn.voted;dsimp only;split
 ·show (n.rms++bl.map ZcK).length<=_
  rw [List.length_append,List.length_map];omega
 ·rename_i hr
  have hr:n.e.role=3:=by simpa using hr
  split
  ·have hb:RnB { n with rms:=n.rms++bl.map ZcK,ps:=none,rs:=[],rnd:=0 }:=⟨⟨h.g.lg,h.g.lb,h.g.sg,h.g.w1,h.g.w64⟩,(λ l hl=>by cases hl),h.e,h.id,h.sn⟩
   have h1:=hb.regroup;have hr1:=(Zbf n.e (Rn.foldG { n with rms:=n.rms++bl.map ZcK,ps:=none,rs:=[],rnd:=0 } n.log.l.length)).trans hr;have h2:=h1.enter hr1 0 (dt:=[]) (λ x hx=>by cases hx);have h3:=h2.1.advAllLen h2.2;have h4:=(Zbg (h1.rnl hr1) hr1 0 (dt:=[]) (λ x hx=>by cases hx)).2.2.1;rw [h4] at h3;refine Nat.le_trans h3 ?_;show (n.rms++bl.map ZcK).length + 1005<=_;rw [List.length_append,List.length_map];omega
  ·show (n.rms++bl.map ZcK).length<=_
   rw [List.length_append,List.length_map];omega
theorem RnA.ballotLen (h:RnA n) (b:Bl):(n.ballot b).rms.length<=n.rms.length + 1020:=by
 have hb:RnB { n with e:=(n.e.take b n.log.last (n.log.term n.log.last).1).2 }:=⟨⟨h.b.g.lg,h.b.g.lb,h.b.g.sg,h.b.g.w1,h.b.g.w64⟩,h.b.pe,h.b.e.take _ _ _,(ZhZ _ _ _ _).trans h.b.id,h.b.sn⟩;have h1:=hb.votedLen (led:=n.e.role==3) (n.e.take b n.log.last (n.log.term n.log.last).1).1;have h2:=ZiE n.e b n.log.last (n.log.term n.log.last).1 h.b.e.g;unfold Rn.ballot;refine Nat.le_trans h1 ?_;show n.rms.length + _ + 1005<=_;omega
theorem RnA.tickLen (h:RnA n) (draw:Int):(n.tick draw).rms.length<=n.rms.length + 1020:=by
 by_cases hr:n.e.role=3
 ·rw [Zb9 hr]
  have h1:=(Snd.ticks n.mem n h.b.pe).len;have:=h.memLen;omega
 ·have e:n.tick draw=Rn.voted { n with e:=(n.e.tick draw n.log.last (n.log.term n.log.last).1).2 } false (n.e.tick draw n.log.last (n.log.term n.log.last).1).1:=by unfold Rn.tick;rw [if_pos (by simpa using hr)]
  rw [e];have hb:RnB { n with e:=(n.e.tick draw n.log.last (n.log.term n.log.last).1).2 }:=⟨⟨h.b.g.lg,h.b.g.lb,h.b.g.sg,h.b.g.w1,h.b.g.w64⟩,h.b.pe,h.b.e.tick _ _ _,(Zi8 _ _ _ _).trans h.b.id,h.b.sn⟩;have h1:=hb.votedLen (led:=false) (n.e.tick draw n.log.last (n.log.term n.log.last).1).1;have h2:(n.e.tick draw n.log.last (n.log.term n.log.last).1).1.length<=15:=by
   have hall:∀ (e:Eln) (kd t a b:Int),e.g=n.e.g->(e.all kd t a b).length<=15:=λ e kd t a b he=>by
    unfold Eln.all;rw [List.length_map,he];exact Nat.le_trans (List.length_filter_le _ _) (Zv (Zp h.b.e.g))
   unfold Eln.tick;split
   ·exact Nat.zero_le _
   ·dsimp only
    split
    ·exact Nat.zero_le _
    ·split
     ·exact Zh1 _ _ _ h.b.e.g
     ·exact hall _ _ _ _ _ rfl
  refine Nat.le_trans h1 ?_;show n.rms.length + _ + 1005<=_;omega
theorem ZbK (n:Rn) (c:Int):(n.commit c).rms=n.rms:=by unfold Rn.commit;split<;>rfl
theorem ZcT (n:Rn) (m:Mg):(n.put m).rms.length=n.rms.length + 1:=by show (n.rms++[_]).length=_;rw [List.length_append];rfl
theorem Zqs (n:Rn) (m:Mg):(n.app m).rms.length<=n.rms.length + 1:=by
 unfold Rn.app;dsimp only;split
 ·rw [ZcT,ZbK]
  split<;>exact Nat.le_refl _
 ·split
  ·rw [ZcT];exact Nat.le_refl _
  ·exact Nat.le_succ _
theorem ZjS (n:Rn) (m:Mg):(n.install m).rms.length<=n.rms.length + 1:=by
 unfold Rn.install;split
 ·exact Nat.le_succ _
 ·split
  ·rw [ZcT];exact Nat.le_refl _
  ·split
   ·rw [ZcT,ZbK];exact Nat.le_refl _
   ·rw [ZcT];exact Nat.le_refl _
theorem RnA.askedLen (h:RnA n) (m:Mg):(n.asked m).rms.length<=n.rms.length + 1006:=by
 unfold Rn.asked;split
 ·rw [ZcT];omega
 ·split
  ·exact Nat.le_add_right _ _
  ·have h1:=(h.heard m.fr m.tm).votedLen (led:=false) []
   have h1:(Rn.voted { n with e:=n.e.heard m.fr m.tm } false []).rms.length<=n.rms.length + 1005:=h1;generalize Rn.voted { n with e:=n.e.heard m.fr m.tm } false []=n1 at h1 ⊢;dsimp only;split
   ·have:=Zqs n1 m;omega
   ·split
    ·rw [ZcT,ZbK];omega
    ·split
     ·have:=ZjS n1 m;omega
     ·omega
theorem RnA.sendLen (n:Rn) (q:Int):(n.send q).rms.length<=n.rms.length + 66:=(Snd.send q).len
theorem RnA.saidLen (h:RnA n) (hr:n.ps.isSome=true->n.e.role=3) (m:Mg):(n.said m).rms.length<=n.rms.length + 1020:=by
 unfold Rn.said;split
 ·exact h.ballotLen _
 ·split
  ·exact Nat.le_add_right _ _
  ·split
   ·exact Nat.le_add_right _ _
   ·rename_i x hx
    obtain ⟨l,hp,hx',ok⟩:=Znm h hx;have hro:=hr (Zev hx);split
    ·split
     ·have:=RnA.sendLen (n.behind m.fr m.rnd) m.fr
      have e:(n.behind m.fr m.rnd).rms=n.rms:=rfl;rw [e] at this;omega
     ·exact Nat.le_add_right _ _
    ·split
     ·split
      ·have h1:=RnA.sendLen (n.setP m.fr (x.acked m.ix).2).advance m.fr
       have h2:=(Zar ((Zcs h (q:=m.fr) hp (ok.acked m.ix)).rnl hro)).2.2.2;have e:(n.setP m.fr (x.acked m.ix).2).rms=n.rms:=rfl;rw [e] at h2;omega
      ·have h1:=RnA.sendLen (n.setP m.fr (x.acked m.ix).2) m.fr
       have e:(n.setP m.fr (x.acked m.ix).2).rms=n.rms:=rfl;rw [e] at h1;omega
     ·split
      ·exact Nat.le_add_right _ _
      ·split
       ·exact Nat.le_add_right _ _
       ·split
        ·have h1:=RnA.sendLen (n.setP m.fr (x.refused m.ix m.hint).2) m.fr
         have e:(n.setP m.fr (x.refused m.ix m.hint).2).rms=n.rms:=rfl;rw [e] at h1;omega
        ·exact Nat.le_add_right _ _
theorem RnA.stepLen (h:RnA n) (hr:n.ps.isSome=true->n.e.role=3) (m:Mg):(n.step m).rms.length<=n.rms.length + 1020:=by
 unfold Rn.step;split
 ·exact Nat.le_add_right _ _
 ·split
  ·exact h.ballotLen _
  ·split
   ·have:=h.askedLen m;omega
   ·split
    ·exact h.saidLen hr m
    ·exact Nat.le_add_right _ _
end
section
open Go Go.VC Tryz
open Go.Rf
variable {G G':Gh} {y:Int} {E E':Nat} {n:Rn} {F:List Ey} {C:Ct} {g0:Gp} {W:Wd} {k:Nat} {P:Nat->Prop}
def Zki (G:Gh) (e:Int × Ey):Prop:=∃ t k b,G.h.rc t k b/\1<=e.1/\e.1<=(k:Nat)/\(G.h.ll t)[e.1.toNat - 1]? =some e.2
def Zl.CmA (h:Zl) (m:Int):Prop:=m<=0\/∃ t k b,h.rc t k b/\m<=(k:Nat)
theorem Zki.uni (I:Zaw g0 G) {i:Int} {x z:Ey} (hx:Zki G (i,x)) (hz:Zki G (i,z)):x=z:=by
  have main:∀ {t t':Int} {k k' b b':Nat},t<=t'->G.h.rc t k b->G.h.rc t' k' b'->1<=i->i<=(k:Nat)->(G.h.ll t)[i.toNat - 1]? =(G.h.ll t')[i.toNat - 1]?:=λ {t t' k k' b b'} htt hr hr' h1 hk=>by
    rcases Int.lt_or_eq_of_le htt with h2|rfl
    · have h3:=(I.lc _ _ _ _ hr (I.ok.rc _ _ _ hr').1 h2).2
      exact (Zae h3 (by omega)).symm
    · rfl
  obtain ⟨t,k,b,h1,h2,h3,h4⟩:=hx;obtain ⟨t',k',b',h1',h2',h3',h4'⟩:=hz;have h2:1<=i:=h2;have h3:i<=(k:Nat):=h3;have h3':i<=(k':Nat):=h3';have h4:(G.h.ll t)[i.toNat - 1]? =some x:=h4;have h4':(G.h.ll t')[i.toNat - 1]? =some z:=h4';rcases Int.le_total t t' with h5|h5
  · have:=main h5 h1 h1' h2 h3
    rw [h4,h4'] at this;exact Option.some.inj this
  · have:=main h5 h1' h1 h2 h3'
    rw [h4,h4'] at this;exact (Option.some.inj this).symm
theorem Zki.le (I:Zaw g0 G) {e:Int × Ey} (h:Zki G e) (l:Gh.Le y G G'):Zki G' e:=by
  obtain ⟨t,k,b,h1,h2,h3,h4⟩:=h;obtain ⟨r1,r2,r3,r4⟩:=I.ok.rc _ _ _ h1;obtain ⟨m,e2⟩:=l.h.ll t r1;refine ⟨t,k,b,l.h.rc _ _ _ h1,h2,h3,?_⟩;rw [e2,List.getElem?_append_left (ZR h4)];exact h4
theorem Zl.CmA.le {h h':Zl} {m:Int} (a:h.CmA m) (l:h.Le h'):h'.CmA m:=a.imp_right λ⟨t,k,b,h1,h2⟩=>⟨t,k,b,l.rc _ _ _ h1,h2⟩
theorem NI.lookI (h:NI C E G n F):∀ x∈Zfc n,Zki G (x.ix,x):=λ x hx=>by
  have hc0:=h.c0;unfold Zfc at hx;rw [h.sx,h.fl.get _ (Int.le_refl _)] at hx;obtain ⟨j,hj,rfl⟩:=List.getElem_of_mem hx;have he:=List.getElem?_eq_getElem hj;generalize ((F.drop n.log.b.ix.toNat).take (n.log.com - n.log.b.ix).toNat)[j]=x at he ⊢;obtain ⟨h1,h2⟩:=ZaJ he;rw [List.getElem?_drop] at h1;have hix:=h.fl.ix h1;rcases h.A.cm.2 with h3|⟨t,k,b,h3,h4,h5,h6⟩
  · omega
  · refine ⟨t,k,b,h3,by show 1<=x.ix;omega,by show x.ix<=(k:Nat);omega,?_⟩
    show (G.h.ll t)[x.ix.toNat - 1]? =some x;rw [<-h1,show x.ix.toNat - 1=n.log.b.ix.toNat + j by omega];exact (Zae h6 (by omega)).symm
theorem ZiX {β:Type} {k:Int} {v:β} {e:Int × β}:∀ {l:List (Int × β)},e∈Zbq k v l->e=(k,v)\/e∈l
  |[],h=>.inr h
  |a::l,h=>by
    have h:e∈(if k==a.1 then (a.1,v)::l else a::Zbq k v l):=h
    split at h
    · rename_i h1
      rcases List.mem_cons.1 h with h|h
      · exact .inl (by rw [h,beq_iff_eq.1 h1])
      · exact .inr (List.mem_cons_of_mem _ h)
    · rcases List.mem_cons.1 h with h|h
      · exact .inr (by rw [h];exact List.mem_cons_self)
      · exact (ZiX h).imp_right (List.mem_cons_of_mem _)
theorem ZiZ {β:Type} {k:Int} {v:β} {e:Int × β} {l:List (Int × β)} (h:e∈ZcG k v l):e=(k,v)\/e∈l:=by
  unfold ZcG at h;split at h
  · exact ZiX h
  · rcases List.mem_append.1 h with h|h
    · exact .inr h
    · exact .inl (List.mem_singleton.1 h)
theorem Zmv (x:Ey):eqE x x=true:=by
  unfold eqE;rw [beq_self_eq_true,beq_self_eq_true,beq_self_eq_true,decide_eq_true rfl];rfl
theorem Zi0 (I:Zaw g0 G):∀ (l:List Ey) (s:List (Int × Ey) × Bool),(∀ x∈l,Zki G (x.ix,x))->(∀ e∈s.1,Zki G e)->s.2=true->(∀ e∈(l.foldl Zd5 s).1,Zki G e)/\(l.foldl Zd5 s).2=true
  |[],s,_,h2,h3=>⟨h2,h3⟩
  |x::l,s,h1,h2,h3=>by
    have hx:=h1 x List.mem_cons_self;refine Zi0 I l (Zd5 s x) (λ z hz=>h1 z (List.mem_cons_of_mem _ hz)) (λ e he=>?_) ?_
    · rcases ZiZ he with rfl|he
      · exact hx
      · exact h2 e he
    · unfold Zd5
      dsimp only;rw [h3,Bool.true_and];split
      · rename_i z hz
        rw [(h2 _ (ZbT hz)).uni I hx];exact Zmv x
      · rfl
structure NdI (g0:Gp) (E:Nat) (G:Gh) (W:Wd) (k:Nat) (n:Rn):Prop where
  id:n.id=k + 1
  a:RnA n
  cl:Zb7 n
  dk:W.dk[k]? =some n.disk
  i:∃ F,NI ⟨g0,W.ask,W.tok,n.disk⟩ E G n F
structure Zas (g0:Gp) (E:Nat) (G:Gh) (W:Wd) (P:Nat->Prop):Prop where
  X:Zal g0 E G
  len:W.ns.length=W.dk.length
  nd:∀ k n,P k->W.ns[k]? =some n->NdI g0 E G W k n
  ms:∀ m∈W.sent,Zco g0 G m
  ent:∀ e∈W.ent,Zki G e
  most:G.h.CmA W.most
  lds:∀ e∈W.lds,G.h.el e.1/\G.ld e.1=e.2 + 1
  ask:∀ a∈W.ask,a.1<=W.tok
  t0:0<=W.tok
  good:W.good=true
  al:W.ask.length<=E
  t1:W.tok<=E
  nl:1<=W.ns.length/\W.ns.length<=7
theorem Zcf (W:Wd) (k:Nat) (n:Rn):(W.look k n).ns=W.ns/\(W.look k n).dk=W.dk/\(W.look k n).sent=W.sent/\(W.look k n).ask=W.ask/\(W.look k n).tok=W.tok/\
    (W.look k n).ent=((Zfc n).foldl Zd5 (W.ent,W.good)).1/\(W.look k n).most=max W.most n.log.com:=by
  unfold Wd.look;dsimp only;split<;>exact ⟨rfl,rfl,rfl,rfl,rfl,rfl,rfl⟩
theorem Zas.look (h:Zas g0 E G W P) (hid:n.id=k + 1) (hN:NI C E G n F):Zas g0 E G (W.look k n) P:=by
  obtain ⟨e1,e2,e3,e4,e5,e6,e7⟩:=Zcf W k n;obtain ⟨a1,a2⟩:=Zi0 h.X.I (Zfc n) (W.ent,W.good) hN.lookI h.ent h.good;have hL:(∀ e∈(W.look k n).lds,G.h.el e.1/\G.ld e.1=e.2 + 1)/\(W.look k n).good=true:=by
    unfold Wd.look;dsimp only;split
    · rename_i hr
      have hr:=beq_iff_eq.1 hr;obtain ⟨hel,hld,_⟩:=hN.l3 hr;refine ⟨λ e he=>?_,?_⟩
      · rcases ZiZ he with rfl|he
        · exact ⟨hel,hld.trans hid⟩
        · exact h.lds e he
      · rw [a2,Bool.true_and]
        split
        · rename_i x hx
          have:=(h.lds _ (ZbT hx)).2;dsimp only at this;rw [hld,hid] at this;exact beq_iff_eq.2 (by omega)
        · rfl
    · exact ⟨h.lds,a2⟩
  exact
    { X:=h.X
      len:=by rw [e1,e2];exact h.len
      nd:=λ j m hp hm=>by
        rw [e1] at hm;have a:=h.nd j m hp hm;exact ⟨a.id,a.a,a.cl,by rw [e2];exact a.dk,by rw [e4,e5];exact a.i⟩
      ms:=by rw [e3];exact h.ms
      ent:=by rw [e6];exact a1
      most:=by
        rw [e7];rcases Int.le_total W.most n.log.com with h1|h1
        · rw [Int.max_eq_right h1]
          exact hN.cm.imp_right λ⟨t,k,b,h1,_,h2⟩=>⟨t,k,b,h1,h2⟩
        · rw [Int.max_eq_left h1];exact h.most
      lds:=hL.1
      ask:=by rw [e4,e5];exact h.ask
      t0:=by rw [e5];exact h.t0
      good:=hL.2
      al:=by rw [e4];exact h.al
      t1:=by rw [e5];exact h.t1
      nl:=by rw [e1];exact h.nl }
end
section
open Go Go.VC Tryz
open Go.Rf
variable {G G':Gh} {y:Int} {E E':Nat} {n:Rn} {F:List Ey} {C:Ct} {g0:Gp} {W:Wd} {k:Nat} {P:Nat->Prop} {d:Dk}
theorem Zgp (n:Rn):n.out.2.told=n.e.hd:=by
  unfold Rn.out;dsimp only;cases h:(n.e.hd.tm !=n.told.tm||n.e.hd.vt !=n.told.vt) with
  |true=>rfl
  |false=>
    simp only [Bool.or_eq_false_iff,bne_eq_false_iff_eq] at h;show n.told=n.e.hd;obtain ⟨h1,h2⟩:=h;cases ha:n.told with
    |mk a b=>
      cases hb:n.e.hd with
      |mk c d=>
        rw [ha,hb] at h1 h2;dsimp only at h1 h2;rw [h1,h2]
theorem Zl7 {α:Type} {D:List α} {a:Int}:D.take (max 0 (min a D.length)).toNat=D.take a.toNat:=by
  rcases Int.le_total a D.length with h|h
  · rw [Int.min_eq_left h]
    congr 1;omega
  · rw [Int.min_eq_right h,List.take_of_length_le (by omega),List.take_of_length_le (by omega)]
theorem NI.out (h:NI C E G n F) (X:Zal C.g0 E G) (hE:E<=100000):Zb7 n.out.2/\C.d.write n.out.1 n.out.2=n.out.2.disk/\NI (C.wd n.out.2.disk) E G n.out.2 F:=by
  have hcl:Zb7 n.out.2:=⟨rfl,rfl,rfl,rfl,Zgp n⟩;refine ⟨hcl,?_,?_⟩
  · obtain ⟨D,hD⟩:∃ D,D=if n.rsn then [] else C.d.log:=⟨_,rfl⟩
    have hl:=h.dk.l;rw [<-hD] at hl;have hc0:=h.c0;have hFl:=X.len h.A.good;have e1:(C.d.hard n.out.1).hd=n.e.hd/\(C.d.hard n.out.1).sn=C.d.sn/\(C.d.hard n.out.1).log=C.d.log:=by
      have ht:=Zgp n;unfold Dk.hard;unfold Rn.out at ht ⊢;dsimp only at ht ⊢;cases hb:(n.e.hd.tm !=n.told.tm||n.e.hd.vt !=n.told.vt) with
      |true=>exact ⟨rfl,rfl,rfl⟩
      |false=>
        rw [hb] at ht;exact ⟨h.dk.hd.trans ht,rfl,rfl⟩
    have e2:(C.d.hard n.out.1).snap n.out.1=⟨n.e.hd,n.sn,D⟩:=by
      obtain ⟨a1,a2,a3⟩:=e1;unfold Dk.snap;have hs:n.out.1.sn'=n.rsn:=rfl;rw [hs,hD];have hd:=h.dk.sn;cases hr:n.rsn with
      |true=>
        have hsn:n.out.1.sn=n.sn:=by
          show (if n.rsn then n.sn else sn0)=n.sn
          rw [hr];rfl
        rw [if_pos rfl,if_pos rfl,hsn];show (⟨(C.d.hard n.out.1).hd,n.sn,[]⟩:Dk)=_;rw [a1]
      |false=>
        rw [if_neg (by decide),if_neg (by decide),<-hd hr,<-a1,<-a2,<-a3]
    have e3:C.d.write n.out.1 n.out.2=(⟨n.e.hd,n.sn,D⟩:Dk).ents n.out.1 n.out.2:=by
      unfold Dk.write;rw [e2]
    rw [e3];show _=(⟨n.out.2.told,n.sn,n.log.l⟩:Dk);rw [Zgp];unfold Dk.ents;have hf:n.out.1.fr=n.rfr:=rfl;rw [hf];rcases hl with ⟨h1,h2⟩|⟨h1,h2,h3⟩
    · rw [if_neg (by omega),h2]
    · rw [if_pos (by omega)]
      have e4:D.take ((⟨n.e.hd,n.sn,D⟩:Dk).keep n.rfr)=n.log.l.take (n.rfr - 1 - n.log.b.ix).toNat:=by
        unfold Dk.keep;dsimp only;rw [Zl7,h.sx];exact h3
      have e5:n.out.2.log.get (max n.rfr (n.sn.ix + 1)) 100000=n.log.l.drop (n.rfr - 1 - n.log.b.ix).toNat:=by
        show n.log.get _ _=_;rw [h.sx,Int.max_eq_left (by omega),show n.rfr=(n.rfr - 1) + 1 by omega,h.fl.get _ (by omega),<-h.fl.l,List.drop_drop,List.take_of_length_le (by rw [List.length_drop];omega)]
        congr 1;omega
      dsimp only;rw [e4,e5,List.take_append_drop]
  · exact { h with
      ms:=λ m hm=>by cases hm
      rs:=λ x hx=>by
        have a:=h.rs x hx;exact ⟨a.r1,a.tk,a.bn,a.bh,a.ok⟩
      rd:=λ x hx=>by cases hx
      bd:=⟨h.bd.rs,h.bd.bh,Nat.zero_le _,h.bd.rn,h.bd.wt⟩
      dk:=hcl.drel }
theorem Znv {as' rd:List (Int × Int)} (h:∀ x∈rd,RdO as' x):Zb5 as' rd=false:=by
  unfold Zb5;rw [List.any_eq_false];intro x hx;rw [Bool.not_eq_true,List.any_eq_false];intro a ha h1;rw [Bool.and_eq_true,beq_iff_eq,decide_eq_true_eq] at h1;have:=h x hx a ha h1.1;omega
theorem Zas.write (h:Zas g0 E G W (·≠k)) (hk:W.ns[k]? =some n) (hd:W.dk[k]? =some d) (hid:n.id=k + 1) (ha:RnA n) (hN:NI ⟨g0,W.ask,W.tok,d⟩ E G n F) (hE:E<=100000):Zas g0 E G (W.write k) (λ _=>True):=by
  obtain ⟨o1,o2,o3⟩:=hN.out h.X hE;have hkl:=ZR hk;have hdl:=ZR hd;unfold Wd.write;rw [hk,hd];dsimp only;refine Zas.look ?_ (n:=n.out.2) hid o3;exact
    { X:=h.X
      len:=by show (W.ns.set k _).length=(W.dk.set k _).length;rw [List.length_set,List.length_set];exact h.len
      nd:=λ j m _ hm=>by
        by_cases hj:j=k
        · subst hj
          have hm:(W.ns.set j n.out.2)[j]? =some m:=hm;rw [List.getElem?_set_self hkl] at hm;have hm:=Option.some.inj hm;subst hm;refine ⟨hid,ha.out,o1,?_,⟨F,o3⟩⟩;show (W.dk.set j _)[j]? =_;rw [List.getElem?_set_self hdl];exact congrArg some o2
        · have hm:(W.ns.set k n.out.2)[j]? =some m:=hm
          rw [List.getElem?_set_ne (Ne.symm hj)] at hm;have a:=h.nd j m hj hm;refine ⟨a.id,a.a,a.cl,?_,a.i⟩;show (W.dk.set k _)[j]? =_;rw [List.getElem?_set_ne (Ne.symm hj)];exact a.dk
      ms:=λ m hm=>by
        rcases List.mem_append.1 hm with hm|hm
        · exact h.ms m hm
        · exact hN.ms m hm
      ent:=h.ent
      most:=h.most
      lds:=h.lds
      ask:=h.ask
      t0:=h.t0
      good:=by
        show (W.good && !Zb5 W.ask n.rrd)=true;rw [h.good,Znv hN.rd];rfl
      al:=h.al
      t1:=h.t1
      nl:=by show 1<=(W.ns.set k _).length/\(W.ns.set k _).length<=7;rw [List.length_set];exact h.nl }
end
section
open Go Go.VC Tryz
open Go.Rf
variable {G G':Gh} {y:Int} {E E':Nat} {n m:Rn} {F:List Ey} {C:Ct} {g0:Gp} {W W':Wd} {k:Nat} {P:Nat->Prop} {d:Dk}
theorem NI.other (h:NI C E G n F) (I:Zaw C.g0 G) (l:Gs y G G') (hy:n.id≠y):NI C E G' n F:=
  h.le I l (h.A.frame I l.le hy) λ hr=>by
    obtain ⟨hel,hld,_⟩:=h.l3 hr;exact l.ro _ hel (by rw [hld];exact hy)
theorem Zas.weak (h:Zas g0 E G W (λ _=>True)) (k:Nat):Zas g0 E G W (·≠k):={ h with nd:=λ j n _=>h.nd j n trivial }
theorem Zas.grow (h:Zas g0 E G W (λ _=>True)) {k:Nat} (l:Gs ((k:Int) + 1) G G') (X:Zal g0 E' G') (hE:E<=E'):Zas g0 E' G' W (·≠k):=
  { X:=X
    len:=h.len
    nd:=λ j n hj hn=>by
      have a:=h.nd j n trivial hn;obtain ⟨F,hN⟩:=a.i;exact ⟨a.id,a.a,a.cl,a.dk,F,(hN.other h.X.I l (by rw [a.id];omega)).more hE⟩
    ms:=λ m hm=>(h.ms m hm).le l.le
    ent:=λ e he=>(h.ent e he).le h.X.I l.le
    most:=h.most.le l.le.h
    lds:=λ e he=>by
      obtain ⟨h1,h2⟩:=h.lds e he;exact ⟨l.le.h.el _ h1,by rw [l.le.ld _ h1];exact h2⟩
    ask:=h.ask
    t0:=h.t0
    good:=h.good
    al:=Nat.le_trans h.al hE
    t1:=by have:=h.t1;omega
    nl:=h.nl }
theorem Zas.putO (h:Zas g0 E G W (·≠k)) (n':Rn):Zas g0 E G (W.put k n') (·≠k):={ h with
  len:=by show (W.ns.set k n').length=_;rw [List.length_set];exact h.len
  nd:=λ j n hj hn=>by
    have hn:(W.ns.set k n')[j]? =some n:=hn;rw [List.getElem?_set_ne (Ne.symm hj)] at hn;have a:=h.nd j n hj hn;exact ⟨a.id,a.a,a.cl,a.dk,a.i⟩
  nl:=by show 1<=(W.ns.set k n').length/\(W.ns.set k n').length<=7;rw [List.length_set];exact h.nl }
structure Mid (g0:Gp) (E:Nat) (W:Wd) (k:Nat) (s:Nat):Prop where
  i:∃ G n d F,Zas g0 E G W (·≠k)/\W.ns[k]? =some n/\W.dk[k]? =some d/\n.id=k + 1/\RnA n/\ZmL d/\NI ⟨g0,W.ask,W.tok,d⟩ E G n F/\n.rms.length<=2000
  s:W.sent.length<=s
theorem NI.dkOk (h:NI C E G n F) (X:Zal C.g0 E G) (hE:E<=100000):ZmL n.disk:=by
  have hc0:=h.c0;have hFl:=X.len h.A.good;have hl:=h.fl.l;refine ⟨?_,by show 0<=n.sn.ix;rw [h.sx];omega,by show n.sn.ix<=_;rw [h.sx];omega,λ e he=>?_⟩
  · show n.log.l.length<=_
    rw [<-hl,List.length_drop];omega
  · have he:e∈n.log.l:=he
    rw [<-hl] at he;exact X.by' h.A.good e (List.mem_of_mem_drop he)
theorem Zas.put (h:Zas g0 E G W (λ _=>True)) (hE:E + 2<=100000) (hk:W.ns[k]? =some n) {n':Rn} (hid:n'.id=n.id) (ha:RnA n') (hr:n'.rms.length<=2000) (hG:ZaV ⟨g0,W.ask,W.tok,n.disk⟩ (E + 2) G n'):Mid g0 (E + 2) (W.put k n') k W.sent.length:=by
  have a:=h.nd k n trivial hk;obtain ⟨F0,hN0⟩:=a.i;obtain ⟨G',F,l,X,hN⟩:=hG;have l:Gs ((k:Int) + 1) G G':=by rw [<-a.id,<-hid];exact l
  refine ⟨⟨G',n',n.disk,F,(h.grow l X (by omega)).putO n',?_,a.dk,hid.trans a.id,ha,hN0.dkOk h.X (by omega),hN,hr⟩,Nat.le_refl _⟩;show (W.ns.set k n')[k]? =_;rw [List.getElem?_set_self (ZR hk)]
theorem Zas.asks (h:Zas g0 E G W (λ _=>True)) (hE:E + 2<=100000) (hk:W.ns[k]? =some n):Mid g0 (E + 2) (W.asks k n) k W.sent.length:=by
  have a:=h.nd k n trivial hk;obtain ⟨F0,hN0⟩:=a.i;have hkl:=ZR hk;have hl:(n.read (W.tok + 1)).2.rms.length<=2000:=by
    have:=a.a.readLen (W.tok + 1);have e:=a.cl.ms;rw [e] at this;simp only [List.length_nil] at this;omega
  have hself:(W.ns.set k (n.read (W.tok + 1)).2)[k]? =some (n.read (W.tok + 1)).2:=by rw [List.getElem?_set_self hkl]
  have hid:=(ZkR n (W.tok + 1)).trans a.id;have hra:=a.a.read (W.tok + 1);have hal:=h.al;by_cases h0:(n.read (W.tok + 1)).1=0
  · have e:W.asks k n={ W with tok:=W.tok + 1,ask:=W.ask++[(W.tok + 1,W.most)],ns:=W.ns.set k (n.read (W.tok + 1)).2 }:=by
      unfold Wd.asks;rw [h0];rfl
    rw [e];have hG:=hN0.read h.X a.cl.rd (t:=W.tok + 1) (m:=W.most) (by show W.tok<W.tok + 1;omega) h.ask h.most h0;obtain ⟨G',F,l,X,hN⟩:=hG;have l:Gs ((k:Int) + 1) G G':=by rw [<-a.id,<-ZkR n (W.tok + 1)];exact l
    have X:Zal g0 (E + 1) G':=X;have hw:=h.grow l (X.more (by omega:E + 1<=E + 2)) (by omega);refine ⟨⟨G',(n.read (W.tok + 1)).2,n.disk,F,?_,hself,a.dk,hid,hra,hN0.dkOk h.X (by omega),hN.more (by omega),hl⟩,Nat.le_refl _⟩;exact
      { X:=hw.X
        len:=by show (W.ns.set k _).length=_;rw [List.length_set];exact hw.len
        nd:=λ j n' hj hn=>by
          have hn:(W.ns.set k (n.read (W.tok + 1)).2)[j]? =some n':=hn;rw [List.getElem?_set_ne (Ne.symm hj)] at hn;have b:=hw.nd j n' hj hn;obtain ⟨F',hN'⟩:=b.i;exact ⟨b.id,b.a,b.cl,b.dk,F',hN'.asks b.cl.rd (t:=W.tok + 1) (m:=W.most) (by show W.tok<W.tok + 1;omega)⟩
        ms:=hw.ms
        ent:=hw.ent
        most:=hw.most
        lds:=hw.lds
        ask:=λ b hb=>by
          rcases List.mem_append.1 hb with hb|hb
          · have:=h.ask b hb
            show b.1<=W.tok + 1;omega
          · rw [List.mem_singleton] at hb;subst hb;exact Int.le_refl _
        t0:=by have:=h.t0;show 0<=W.tok + 1;omega
        good:=hw.good
        al:=by
          show (W.ask++[_]).length<=_;rw [List.length_append];simp only [List.length_cons,List.length_nil];omega
        t1:=by have:=h.t1;show W.tok + 1<=((E + 2:Nat):Int);omega
        nl:=by show 1<=(W.ns.set k _).length/\(W.ns.set k _).length<=7;rw [List.length_set];exact hw.nl }
  · have e2:=Znj h0
    have e:W.asks k n={ W with tok:=W.tok + 1,ns:=W.ns.set k (n.read (W.tok + 1)).2 }:=by
      unfold Wd.asks;have h0':((n.read (W.tok + 1)).1==0)=false:=by rw [beq_eq_false_iff_ne];exact h0
      rw [h0'];rfl
    rw [e];have hw:=h.grow (k:=k) (Gs.refl _ G) (h.X.more (by omega:E<=E + 2)) (by omega);refine ⟨⟨G,(n.read (W.tok + 1)).2,n.disk,F0,?_,hself,a.dk,hid,hra,hN0.dkOk h.X (by omega),?_,hl⟩,Nat.le_refl _⟩
    · exact
        { X:=hw.X
          len:=by show (W.ns.set k _).length=_;rw [List.length_set];exact hw.len
          nd:=λ j n' hj hn=>by
            have hn:(W.ns.set k (n.read (W.tok + 1)).2)[j]? =some n':=hn;rw [List.getElem?_set_ne (Ne.symm hj)] at hn;have b:=hw.nd j n' hj hn;obtain ⟨F',hN'⟩:=b.i;exact ⟨b.id,b.a,b.cl,b.dk,F',hN'.tk (t:=W.tok + 1) (by show W.tok<=W.tok + 1;omega)⟩
          ms:=hw.ms
          ent:=hw.ent
          most:=hw.most
          lds:=hw.lds
          ask:=λ b hb=>by
            have:=h.ask b hb;show b.1<=W.tok + 1;omega
          t0:=by have:=h.t0;show 0<=W.tok + 1;omega
          good:=hw.good
          al:=by show W.ask.length<=_;omega
          t1:=by have:=h.t1;show W.tok + 1<=((E + 2:Nat):Int);omega
          nl:=by show 1<=(W.ns.set k _).length/\(W.ns.set k _).length<=7;rw [List.length_set];exact hw.nl }
    · rw [e2]
      exact (hN0.tk (t:=W.tok + 1) (by show W.tok<=W.tok + 1;omega)).more (by omega)
end
section
open Go Go.VC Tryz
open Go.Rf
variable {G G':Gh} {y:Int} {E E':Nat} {n m:Rn} {F:List Ey} {C:Ct} {g0:Gp} {W W':Wd} {k:Nat} {P:Nat->Prop} {d:Dk}
theorem Zb7.new (h:Zb7 n):(n.e.hd.tm !=n.told.tm||n.e.hd.vt !=n.told.vt)=false:=by rw [h.told,bne_self_eq_false,bne_self_eq_false];rfl
theorem Zb7.out (h:Zb7 n):n.out.2=n:=by
  have h1:=h.new;obtain ⟨a1,a2,a3,a4,a5⟩:=h;unfold Rn.out;dsimp only;rw [h1];obtain ⟨b1,b2,b3,b4,b5,b6,b7,b8,b9,b10,b11,b12,b13,b14⟩:=n;dsimp only at a1 a2 a3 a4;subst a1 a2 a3 a4;rfl
theorem Zb7.write (h:Zb7 n):d.write n.out.1 n.out.2=d:=by
  have e1:n.out.1.hn=false:=h.new;have e2:n.out.1.sn'=false:=h.sn;have e3:n.out.1.fr=0:=h.fr;have f1:d.hard n.out.1=d:=by unfold Dk.hard;rw [e1];rfl
  have f2:d.snap n.out.1=d:=by unfold Dk.snap;rw [e2];rfl
  unfold Dk.write;rw [f1,f2];unfold Dk.ents;rw [e3,if_neg (by decide)]
theorem Zas.writeO (h:Zas g0 E G W (·≠k)) (hk:W.ns[k]? =some n) (hd:W.dk[k]? =some d) (hid:n.id=k + 1) (hN:NI C E G n F) (hcl:Zb7 n):
    Zas g0 E G (W.write k) (·≠k)/\(W.write k).ns[k]? =some n/\(W.write k).dk[k]? =some d/\(W.write k).sent=W.sent:=by
  have hkl:=ZR hk;have hdl:=ZR hd;have e1:n.out.1.ms=[]:=hcl.ms;have e2:n.out.1.rd=[]:=hcl.rd;have e:W.write k=Wd.look { W with ns:=W.ns.set k n,dk:=W.dk.set k d,sent:=W.sent++[],good:=W.good && !Zb5 W.ask [] } k n:=by
    unfold Wd.write;rw [hk,hd];dsimp only;rw [hcl.write,hcl.out,e1,e2]
  rw [e];obtain ⟨l1,l2,l3,l4,l5,l6,l7⟩:=Zcf { W with ns:=W.ns.set k n,dk:=W.dk.set k d,sent:=W.sent++[],good:=W.good && !Zb5 W.ask [] } k n;refine ⟨Zas.look ?_ hid hN,?_,?_,?_⟩
  · exact { h with
      len:=by show (W.ns.set k _).length=(W.dk.set k _).length;rw [List.length_set,List.length_set];exact h.len
      nd:=λ j m hj hm=>by
        have hm:(W.ns.set k n)[j]? =some m:=hm;rw [List.getElem?_set_ne (Ne.symm hj)] at hm;have a:=h.nd j m hj hm;refine ⟨a.id,a.a,a.cl,?_,a.i⟩;show (W.dk.set k _)[j]? =_;rw [List.getElem?_set_ne (Ne.symm hj)];exact a.dk
      ms:=λ m hm=>h.ms m (by
        have hm:m∈W.sent++[]:=hm;rwa [List.append_nil] at hm)
      good:=by
        show (W.good && !Zb5 W.ask [])=true;rw [h.good];rfl
      nl:=by show 1<=(W.ns.set k _).length/\(W.ns.set k _).length<=7;rw [List.length_set];exact h.nl }
  · rw [l1]
    show (W.ns.set k n)[k]? =_;rw [List.getElem?_set_self hkl]
  · rw [l2]
    show (W.dk.set k d)[k]? =_;rw [List.getElem?_set_self hdl]
  · rw [l3]
    show W.sent++[]=_;rw [List.append_nil]
theorem ZlD (n:Rn):n.comp.2.told=n.told:=by
  unfold Rn.comp Rn.compact;dsimp only;split
  · rfl
  · split<;>rfl
theorem Zas.comp (h:Zas g0 E G W (λ _=>True)) (hE:E<=100000) (hk:W.ns[k]? =some n) (h0:n.comp.1=0):
    Zas g0 E G (((W.put k n.comp.2).write k).sync k) (λ _=>True)/\(((W.put k n.comp.2).write k).sync k).ns[k]? =some n.comp.2/\(((W.put k n.comp.2).write k).sync k).sent=W.sent:=by
  have a:=h.nd k n trivial hk;obtain ⟨F,hN⟩:=a.i;obtain ⟨c1,c2,c3,_⟩:=hN.comp h.X (by omega:E<=1000000) a.cl;have hN1:=c3 h0;have hra:=a.a.comp hN1 h.X.I.gr;have ht:=ZlD n;have hid:n.comp.2.id=k + 1:=c2.trans a.id;generalize hn':n.comp.2=n' at c1 hN1 hra ht hid ⊢;have hkl:=ZR hk;obtain ⟨w1,w2,w3,w4⟩:=((h.weak k).putO n').writeO (k:=k) (n:=n') (d:=n.disk) (by
    show (W.ns.set k n')[k]? =_;rw [List.getElem?_set_self hkl]) a.dk hid hN1 c1
  have es:=Zky w2 w3;have hd:({ n.disk with sn:=n'.sn,log:=n'.log.get (n'.sn.ix + 1) 100000 }:Dk)=n'.disk:=by
    have hFl:=h.X.len hN1.A.good;show (⟨n.told,n'.sn,n'.log.get (n'.sn.ix + 1) 100000⟩:Dk)=⟨n'.told,n'.sn,n'.log.l⟩;rw [ht,hN1.sx,hN1.fl.get _ (Int.le_refl _),hN1.fl.l,List.take_of_length_le (by rw [<-hN1.fl.l,List.length_drop];omega)]
  rw [hd] at es;rw [es];have hdl:=ZR w3;refine ⟨{ w1 with
    len:=by show _=(List.set _ _ _).length;rw [List.length_set];exact w1.len
    nd:=λ j m _ hm=>by
      by_cases hj:j=k
      · subst hj
        have hm:((W.put j n').write j).ns[j]? =some m:=hm;rw [w2] at hm;have hm:=Option.some.inj hm;subst hm;refine ⟨hid,hra,c1,?_,F,?_⟩
        · show (List.set _ j _)[j]? =_
          rw [List.getElem?_set_self hdl]
        · have e1:((W.put j n').write j).ask=W.ask/\((W.put j n').write j).tok=W.tok:=by
            unfold Wd.write;split
            · exact ⟨(Zcf _ _ _).2.2.2.1,(Zcf _ _ _).2.2.2.2.1⟩
            · exact ⟨rfl,rfl⟩
          show NI ⟨g0,((W.put j n').write j).ask,((W.put j n').write j).tok,n'.disk⟩ E G n' F;rw [e1.1,e1.2];exact hN1
      · have b:=w1.nd j m hj hm
        refine ⟨b.id,b.a,b.cl,?_,b.i⟩;show (List.set _ k _)[j]? =_;rw [List.getElem?_set_ne (Ne.symm hj)];exact b.dk },w2,w4⟩
theorem NI.mid (h:Zas g0 E G W (λ _=>True)) (hE:E + 2<=100000) (hk:W.ns[k]? =some n) {s:Nat} (hs:W.sent.length<=s):Mid g0 (E + 2) W k s:=by
  have a:=h.nd k n trivial hk;obtain ⟨F,hN⟩:=a.i;refine ⟨⟨G,n,n.disk,F,h.grow (Gs.refl _ G) (h.X.more (by omega)) (by omega),hk,a.dk,a.id,a.a,hN.dkOk h.X (by omega),hN.more (by omega),by rw [a.cl.ms];exact Nat.zero_le _⟩,hs⟩
theorem Zl6 (n:Rn) (d:Int):(n.tick d).id=n.id:=by
  by_cases hr:n.e.role=3
  · rw [Zb9 hr]
    have tp:∀ (l:List Int) (n:Rn),(l.foldl Rn.tickP n).id=n.id:=by
      intro l
      induction l with
      |nil=>intro n;rfl
      |cons q l ih=>
        intro n;show (l.foldl Rn.tickP (n.tickP q)).id=n.id;rw [ih];unfold Rn.tickP;exact (Zba _ _).1.trans rfl
    exact tp _ n
  · unfold Rn.tick
    rw [if_pos (by simpa using hr)];exact Zcr _ _ _
theorem Zas.act (h:Zas g0 E G W (λ _=>True)) (hE:E + 2<=100000) {x:Ev} (hx:W.act x=some (W',k)):Mid g0 (E + 2) W' k W.sent.length:=by
  have hE1:E + 1<=1000000:=by omega
  have hE2:E + 2<=1000000:=by omega
  unfold Wd.act at hx;split at hx
  · cases hx
  · rename_i n hn
    have a:=h.nd _ n trivial hn;obtain ⟨F,hN⟩:=a.i;have z0:n.rms.length=0:=by rw [a.cl.ms];rfl
    split at hx
    · cases hx
      exact h.put hE hn (Zl6 n x.n) (a.a.tick _) (by have:=a.a.tickLen x.n;omega) (hN.tick h.X hE2 x.n)
    · split at hx
      · split at hx
        · cases hx
        · split at hx
          · cases hx
          · rename_i m hm
            split at hx
            · cases hx
            · split at hx
              · cases hx
              · rename_i n' hn'
                cases hx;have a':=h.nd _ n' trivial hn';obtain ⟨F',hN'⟩:=a'.i;have hM:=h.ms m (List.mem_of_getElem? hm);have z0':n'.rms.length=0:=by rw [a'.cl.ms];rfl
                exact h.put hE hn' (Zne n' m) (a'.a.step hN'.hr hM.ok) (by have:=a'.a.stepLen hN'.hr m;omega) ((hN'.step h.X hE1 hM).more (by omega))
      · split at hx
        · split at hx
          · cases hx
          · rename_i d hd
            rw [a.dk] at hd;have hd:=Option.some.inj hd;subst hd;obtain ⟨n',q1,q2,q3,q4,q5,q6⟩:=hN.anew h.X a.a;have hst:Wd.startN n.disk (W.who x.who)=some n':=by
              unfold Wd.startN;show (ZbO (((W.who x.who:Nat):Int) + 1) n.told n.sn n.log.l 3 2).2=_;rw [<-a.id,a.cl.told,q1]
            rw [hst] at hx;cases hx;have hdd:n'.disk=n.disk:=by
              rw [q4];show _=(⟨n.told,n.sn,n.log.l⟩:Dk);rw [a.cl.told]
            rw [hdd] at q6;have hf:=ZcQ (λ e he=>by
              have hl:=hN.fl.l;rw [<-hl] at he;exact h.X.by' hN.A.good e (List.mem_of_mem_drop he)) q1
            obtain ⟨f1,f2,f3,f4,f5,f6,f7,f8,f9,f10,f11,f12,f13,f14,f15,f16,f17,f18,f19,f20,f21⟩:=hf;have hra:RnA n':=⟨⟨f1,f2,f3,f7.trans f6.symm,f4⟩,(λ l hl=>by rw [f18] at hl;cases hl),λ hr=>by rw [f5] at hr;exact absurd hr (by decide)⟩;have hG:ZaV ⟨g0,W.ask,W.tok,n.disk⟩ E G n':=q6.goes h.X;exact h.put hE hn q2 hra (by rw [q3.ms];exact Nat.zero_le _) (hG.more (by omega))
        · split at hx
          · cases hx
            have hb:Zx [x.n % 256]:=λ z hz=>by
              rw [List.mem_singleton] at hz;omega
            exact h.put hE hn (ZjE n _) (a.a.propose hb) (by have:=a.a.proposeLen hb;omega) ((hN.propose h.X hE1 hb).more (by omega))
          · split at hx
            · cases hx
              exact h.put hE hn (ZlH n _ _) (a.a.change _ _) (by have:=a.a.changeLen x.kd x.n;omega) ((hN.change h.X hE1 x.kd x.n).more (by omega))
            · split at hx
              · cases hx
                exact h.asks hE hn
              · split at hx
                · split at hx
                  · rename_i h0
                    cases hx;obtain ⟨c1,c2,c3⟩:=h.comp (by omega) hn (beq_iff_eq.1 h0);exact NI.mid c1 hE c2 (Nat.le_of_eq (congrArg List.length c3))
                  · rename_i h0
                    cases hx;have h0:n.comp.1≠0:=λ e=>h0 (beq_iff_eq.2 e);obtain ⟨c1,c2,_,c4⟩:=hN.comp h.X (by omega:E<=1000000) a.cl;have hN1:=c4 h0;exact h.put hE hn c2 (a.a.comp hN1 h.X.I.gr) (by rw [c1.ms];exact Nat.zero_le _) ((hN1.goes h.X).more (by omega))
                · cases hx
                  exact NI.mid h hE hn (Nat.le_refl _)
end
section
open Go Go.VC Tryz
open Go.Rf
variable {G G':Gh} {y:Int} {E E':Nat} {n m:Rn} {F:List Ey} {C:Ct} {g0:Gp} {W W':Wd} {k:Nat} {P:Nat->Prop} {d:Dk}
theorem Zas.more (h:Zas g0 E G W (λ _=>True)) (hE:E<=E'):Zas g0 E' G W (λ _=>True):=
  { X:=h.X.more hE
    len:=h.len
    nd:=λ j n _ hn=>by
      have a:=h.nd j n trivial hn;obtain ⟨F,hN⟩:=a.i;exact ⟨a.id,a.a,a.cl,a.dk,F,hN.more hE⟩
    ms:=h.ms
    ent:=h.ent
    most:=h.most
    lds:=h.lds
    ask:=h.ask
    t0:=h.t0
    good:=h.good
    al:=Nat.le_trans h.al hE
    t1:=by have:=h.t1;omega
    nl:=h.nl }
theorem Zas.play (h:Zas g0 E G W (λ _=>True)) (hE:E + 2<=100000) (x:Ev):∃ G',Zas g0 (E + 2) G' (W.play x) (λ _=>True):=by
  unfold Wd.play;split
  · exact ⟨G,h.more (by omega)⟩
  · rename_i W' k hx
    obtain ⟨⟨G',n,d,F,a1,a2,a3,a4,a5,a6,a7,a8⟩,_⟩:=h.act hE hx;exact ⟨G',a1.write a2 a3 a4 a5 a7 hE⟩
def gh0:Gh:=⟨⟨λ _=>False,λ _=>[],λ _=>0,λ _ _ _=>False⟩,λ _=>0,λ _ _ _ _=>False,λ _ _ _=>False,λ _ _ _=>False,λ _ _ _=>False,λ _=>0⟩
theorem Zlo (h:gOk g0):Zal g0 0 gh0:=
  { I:=
      { ok:=
          { good:=λ _ h=>h.elim
            len:=λ _ h=>h.elim
            old:=λ _ _ _ h=>h.elim
            own:=λ _ _ _ h=>h.elim
            mono:=λ _ _ _ _ _ h=>h.elim
            rc:=λ _ _ _ h=>h.elim
            ch:=λ _ _ _ h=>h.elim }
        gr:=h
        lc:=λ _ _ _ _ h=>h.elim
        pos:=λ _ h=>h.elim
        win:=λ _ h=>h.elim
        led:=λ _ h=>h.elim
        vu:=λ _ _ _ _ _ _ h=>h.elim
        vn:=λ _ _ _ _ h=>h.elim
        cu:=λ _ _ _ _ h=>h.elim
        akl:=λ _ _ _ h=>h.elim
        vx:=λ _ _ _ _ _ _ h=>h.elim
        rcq:=λ _ _ _ h=>h.elim
        btr:=λ _ _ _ h=>h.elim }
    rz:=λ _=>.inr rfl
    cz:=λ _ _ _ h=>h.elim
    gb:=λ _ h=>h.elim
    oe:=λ _ h=>h.elim
    eb:=λ _ h=>h.elim }
def ndB (v i:Nat):Rn:=⟨Eln.new ((i:Int) + 1) ⟨0,0⟩ (Zb6 v) 3,(i:Int) + 1,2,Lg.new 0 0,(dk0 v).sn,Zb6 v,none,[],0,⟨0,0⟩,false,0,[],[]⟩
theorem Zo7 {v i:Nat} (h1:1<=v) (h6:v<=7) (hi:i<=6):NI ⟨Zb6 v,[],0,dk0 v⟩ 0 gh0 (ndB v i) []/\RnA (ndB v i):=by
  have hg:=Za7 h1 h6;have lok:ZD (Lg.new 0 0):=ZD.new (by decide) (by decide);refine ⟨?_,?_⟩
  · exact
      { id:=rfl
        i1:=by show (1:Int)<=(i:Int) + 1;omega
        t0:=Int.le_refl _
        fl:=.new (by decide) (by decide) trivial rfl rfl
        g:=rfl
        eg:=rfl
        sx:=rfl
        st:=rfl
        sg:=rfl
        sb:=λ z hz=>by cases hz
        A:=
          { good:=λ k e h=>by cases h
            mono:=λ j k d e h=>by cases h
            le:=λ k e h=>by cases h
            vts:=λ _ _ _ h=>h.elim
            vtn:=λ _ _ h=>h.elim
            aks:=λ _ _ h=>h.elim
            bts:=λ _ _ h=>h.elim
            cds:=λ _ _ h=>h.elim
            lds:=λ _ h=>h.elim
            l3:=λ h=>absurd h (by show (0:Int)≠3;decide)
            l2:=λ h=>absurd h (by show (0:Int)≠2;decide)
            cm:=⟨Nat.le_refl _,.inl rfl⟩ }
        vi:=λ h=>by rcases h with h|h<;>exact absurd h (by show (0:Int)≠_;decide)
        ys:=λ h=>absurd h (by show (0:Int)≠2;decide)
        hr:=λ hs=>by cases hs
        ps:=λ p x hx=>by cases hx
        ms:=λ m hm=>by cases hm
        rr:=λ h=>absurd h (by show (0:Int)≠3;decide)
        r0:=Int.le_refl _
        rs:=λ x hx=>by cases hx
        rl:=λ h=>absurd rfl h
        rd:=λ x hx=>by cases hx
        bd:=⟨by show 0<=64;decide,λ x hx=>(by cases hx),Nat.zero_le _,Int.le_refl _,Int.le_refl _⟩
        dk:=⟨rfl,λ _=>rfl,.inl ⟨rfl,rfl⟩⟩ }
  · refine ⟨⟨⟨lok,λ e he=>(by cases he),hg,by show (1:Int)<=2;decide,by show (2:Int)<=64;decide⟩,λ l hl=>(by cases hl),?_,rfl,?_⟩,λ l hl=>(by cases hl),λ hr=>absurd hr (by show (0:Int)≠3;decide)⟩
    · exact
        { id0:=by show (1:Int)<=(i:Int) + 1;omega
          id1:=by show (i:Int) + 1<=15;omega
          p0:=by show (1:Int)<=3;decide
          p1:=by show (3:Int)<=1000;decide
          t0:=Int.le_refl _
          t1:=by show (0:Int)<=_;decide
          v0:=Int.le_refl _
          v1:=by show (0:Int)<=15;decide
          g:=hg
          w0:=Int.le_refl _
          nd:=List.nodup_nil
          rg:=λ x hx=>by cases hx }
    · unfold ZE
      show (Z3 0 0 1099511627776 && Z3 0 0 1099511627776 && Zo (Zb6 v).vs (Zb6 v).ls && decide (([]:List Int).length<=60000))=true;rw [hg];rfl
theorem Zo8 {v i:Nat} (h1:1<=v) (h6:v<=7) (hi:i<=6):(nd0 v i).id=(i:Int) + 1/\RnA (nd0 v i)/\Zb7 (nd0 v i)/\(nd0 v i).disk=dk0 v/\NI ⟨Zb6 v,[],0,(nd0 v i).disk⟩ 0 gh0 (nd0 v i) []:=by
  obtain ⟨hN,hA⟩:=Zo7 h1 h6 hi;obtain ⟨n',q1,q2,q3,q4,q5,q6⟩:=hN.anew (Zlo (Za7 h1 h6)) hA;have hst:=ZmM h1 h6 hi;have e:nd0 v i=n':=by
    have h2:Wd.startN (dk0 v) i=some n':=by
      unfold Wd.startN;show (ZbO ((i:Int) + 1) ⟨0,0⟩ (dk0 v).sn [] 3 2).2=_;have q1:ZbO ((i:Int) + 1) ⟨0,0⟩ (dk0 v).sn [] 3 2=(0,some n'):=q1;rw [q1]
    rw [hst] at h2;exact Option.some.inj h2
  obtain ⟨f1,f2,f3,f4,f5,f6,f7,f8,f9,f10,f11,f12,f13,f14,f15,f16,f17,f18,f19,f20,f21⟩:=ZcQ (λ e he=>by cases he) q1;rw [e];exact ⟨q2,⟨⟨f1,f2,f3,f7.trans f6.symm,f4⟩,(λ l hl=>by rw [f18] at hl;cases hl),λ hr=>by rw [f5] at hr;exact absurd hr (by decide)⟩,q3,q4,q6⟩
theorem Zm7 {many v:Nat} (h1:1<=v) (h2:v<=many) (h6:many<=7):Zas (Zb6 v) 0 gh0 (wd0 many v) (λ _=>True):=
  { X:=Zlo (Za7 h1 (by omega))
    len:=by show ((List.range many).map (nd0 v)).length=(List.replicate many (dk0 v)).length;rw [List.length_map,List.length_range,List.length_replicate]
    nd:=λ j n _ hn=>by
      have hn:((List.range many).map (nd0 v))[j]? =some n:=hn;have hj:=ZR hn;rw [List.length_map,List.length_range] at hj;have e:n=nd0 v j:=by
        rw [List.getElem?_map,List.getElem?_range hj] at hn;exact (Option.some.inj hn).symm
      subst e;obtain ⟨a1,a2,a3,a4,a5⟩:=Zo8 (v:=v) (i:=j) h1 (by omega) (by omega);refine ⟨a1,a2,a3,?_,[],a5⟩;show (List.replicate many (dk0 v))[j]? =_;rw [List.getElem?_replicate,if_pos hj,a4]
    ms:=λ m hm=>by cases hm
    ent:=λ e he=>by cases he
    most:=.inl (Int.le_refl _)
    lds:=λ e he=>by cases he
    ask:=λ a ha=>by cases ha
    t0:=Int.le_refl _
    good:=rfl
    al:=Nat.le_refl _
    t1:=Int.le_refl _
    nl:=by show 1<=((List.range many).map (nd0 v)).length/\((List.range many).map (nd0 v)).length<=7;rw [List.length_map,List.length_range];omega }
theorem Zki.ok (X:Zal g0 E G) {e:Int × Ey} (h:Zki G e):Zx e.2.dt/\e.2.dt.length<=4096:=by
  obtain ⟨t,k,b,h1,h2,h3,h4⟩:=h;obtain ⟨r1,_⟩:=X.I.ok.rc _ _ _ h1;have hm:=List.mem_of_getElem? h4;exact ⟨X.eb _ r1 _ hm,(oddE_no ((X.oe _ r1).no _ hm)).2.2.2.2.2.2⟩
theorem Zas.wr (h:Zas g0 E G W P) (hE:E<=10000) (hk:W.ns[k]? =some n) (hd:W.dk[k]? =some d) (ha:RnA n) (hdk:ZmL d) (hN:NI C E G n F) (hX:C.g0=g0) (hs:W.sent.length<=20000) (hm:n.rms.length<=2000):ZoN W k n d:=by
  have hc0:=hN.c0;have hFl:=h.X.len hN.A.good;have hl:=hN.fl.last;have hrr:=hN.bd.rr;have hal:=h.al;have hll:n.log.l.length<=100000:=by
    rw [<-hN.fl.l,List.length_drop];omega
  have hf: -1099511627776<=n.rfr/\n.rfr<=1099511627776:=by
    rcases hN.dk.l with ⟨h1,_⟩|⟨h1,h2,_⟩
    · omega
    · omega
  exact ⟨hk,hd,ha,hdk,λ t ht=>(h.ent t ht).ok h.X,by omega,by omega,by omega,by omega,hf.1,hf.2,by omega⟩
theorem Mid.wr {s:Nat} (h:Mid g0 E W k s) (hE:E<=10000) (hs:s<=20000):∃ n d,ZoN W k n d:=by
  obtain ⟨⟨G,n,d,F,a1,a2,a3,a4,a5,a6,a7,a8⟩,a9⟩:=h;exact ⟨n,d,a1.wr hE a2 a3 a5 a6 a7 rfl (by omega) a8⟩
theorem Zas.wd (h:Zas g0 E G W (λ _=>True)) (hE:E<=100000):ZqE W:=by
  have node:∀ {n:Rn} {j:Nat},W.ns[j]? =some n->NdOk n/\ZmL n.disk:=λ {n j} hn=>by
    have a:=h.nd j n trivial hn;obtain ⟨F,hN⟩:=a.i;have hFl:=h.X.len hN.A.good;have hl:=hN.fl.last;have hwt:=hN.bd.wt;have hrn:=hN.bd.rn;have hrs:=hN.bd.rs;refine ⟨⟨a.a,⟨by omega,λ x hx=>by have:=hN.bd.bh x hx;omega,by rw [a.cl.rd];exact Nat.zero_le _,by rw [a.cl.ms];exact Nat.zero_le _,by omega⟩,hN.hr,by omega,hN.r0,by omega⟩,hN.dkOk h.X hE⟩
  have t1:=h.t1;have al:=h.al;refine ⟨h.len,h.nl.1,h.nl.2,λ n hn=>?_,λ d hd=>?_,λ m hm=>(h.ms m hm).ok,h.t0,by omega,by omega⟩
  · obtain ⟨j,hj,rfl⟩:=List.getElem_of_mem hn
    exact (node (List.getElem?_eq_getElem hj)).1
  · obtain ⟨j,hj,rfl⟩:=List.getElem_of_mem hd
    have hj2:j<W.ns.length:=by rw [h.len];exact hj
    have hn:=List.getElem?_eq_getElem hj2;have a:=h.nd j _ trivial hn;have e:W.dk[j]=(W.ns[j]).disk:=by
      have:=a.dk;rw [List.getElem?_eq_getElem hj] at this;exact Option.some.inj this
    rw [e];exact (node hn).2
theorem Zas.step (h:Zas g0 E G W (λ _=>True)) (hE:E + 2<=10000) (hs:W.sent.length<20000) (x:Ev):Zd2 W x where
  ok:=h.wd (by omega)
  act W' k hx:=(h.act (by omega) hx).wr hE (by omega)
  comp _ n hn h0:=by
    have a:=h.nd _ n trivial hn;obtain ⟨F,hN⟩:=a.i;obtain ⟨c1,c2,c3,_⟩:=hN.comp h.X (by omega:E<=1000000) a.cl;have hN1:=c3 h0;have hra:=a.a.comp hN1 h.X.I.gr;refine ⟨n.comp.2,n.disk,Zas.wr (G:=G) (E:=E) ((h.weak (W.who x.who)).putO n.comp.2) (by omega) ?_ a.dk hra (hN.dkOk h.X (by omega)) hN1 rfl (by show W.sent.length<=_;omega) (by rw [c1.ms];exact Nat.zero_le _)⟩;show (W.ns.set _ _)[W.who x.who]? =_;rw [List.getElem?_set_self (ZR hn)]
end
section
open Go Go.VC Tryz
open Go.Rf
def isA (q:Int) (m:Mg):Bool:=m.kd==5 && m.to'==q
def isK (q:Int) (m:Mg):Bool:=m.kd==6 && m.fr==q
def Zbz (q:Int) (Q:List Mg):List Mg:=Q.filter (isA q)
def ZcM (q:Int) (Q:List Mg):List Mg:=Q.filter (isK q)
def Mg.till (m:Mg):Int:=m.ix + m.es.length
def Ch:Int->List Mg->Int->Prop
 |a,[],b=>a=b
 |a,m::l,b=>m.ix=a/\m.es≠[]/\Ch m.till l b
def Up:Int->List Int->Int->Prop
 |a,[],b=>a=b
 |a,x::l,b=>a<x/\Up x l b
theorem Ch.app:∀ {l l':List Mg} {a b c:Int},Ch a l b->Ch b l' c->Ch a (l++l') c
 |[],_,_,_,_,h,h'=>by have h:_=_:=h;rw [h];exact h'
 |_::_,_,_,_,_,⟨h1,h2,h3⟩,h'=>⟨h1,h2,h3.app h'⟩
theorem Up.app:∀ {l l':List Int} {a b c:Int},Up a l b->Up b l' c->Up a (l++l') c
 |[],_,_,_,_,h,h'=>by have h:_=_:=h;rw [h];exact h'
 |_::_,_,_,_,_,⟨h1,h3⟩,h'=>⟨h1,h3.app h'⟩
theorem Mg.till_lt {m:Mg} (h:m.es≠[]):m.ix<m.till:=by
 have:=List.length_pos_iff.2 h;unfold Mg.till;omega
theorem Ch.le:∀ {l:List Mg} {a b:Int},Ch a l b->a<=b
 |[],_,_,h=>Int.le_of_eq h
 |m::l,a,b,⟨h1,h2,h3⟩=>by
  have:=Mg.till_lt h2;have:=h3.le;omega
theorem Up.le:∀ {l:List Int} {a b:Int},Up a l b->a<=b
 |[],_,_,h=>Int.le_of_eq h
 |x::l,a,b,⟨h1,h3⟩=>by have:=h3.le;omega
theorem Up.all:∀ {l:List Int} {a b:Int},Up a l b->∀ z∈l,a<z
 |x::l,a,b,⟨h1,h3⟩,z,hz=>by
  rcases List.mem_cons.1 hz with rfl|hz
  ·exact h1
  ·have:=h3.all z hz;omega
theorem Ch.up:∀ {l:List Mg} {a b:Int},Ch a l b->Up a (l.map Mg.till) b
 |[],_,_,h=>h
 |m::l,a,b,⟨h1,h2,h3⟩=>⟨by have:=Mg.till_lt h2;omega,h3.up⟩
theorem Zaa (q:Int) (a b:List Mg):Zbz q (a++b)=Zbz q a++Zbz q b:=List.filter_append ..
theorem Zak (q:Int) (a b:List Mg):ZcM q (a++b)=ZcM q a++ZcM q b:=List.filter_append ..
def Zf4 (f:Int->Int) (l:List Int):Int:=(l.map f).sum
theorem ZkB {f g:Int->Int} (h:∀ r,f r<=g r):∀ l,Zf4 f l<=Zf4 g l
 |[]=>Int.le_refl _
 |r::l=>by
  have:=ZkB h l;have:=h r;simp only [Zf4,List.map_cons,List.sum_cons] at *;omega
theorem ZkA {f g:Int->Int} {q d:Int} (h:∀ r,f r<=g r) (hq:f q + d<=g q):∀ {l},q∈l->Zf4 f l + d<=Zf4 g l
 |r::l,hm=>by
  rcases List.mem_cons.1 hm with rfl|hm
  ·have:=ZkB h l
   simp only [Zf4,List.map_cons,List.sum_cons] at *;omega
  ·have:=ZkA h hq hm
   have:=h r;simp only [Zf4,List.map_cons,List.sum_cons] at *;omega
theorem ZiF {f g:Int->Int} {d:Int} (h:∀ r,f r<=g r + d):∀ l,Zf4 f l<=Zf4 g l + d * l.length
 |[]=>by simp [Zf4]
 |r::l=>by
  have:=ZiF h l;have:=h r;simp only [Zf4,List.map_cons,List.sum_cons,List.length_cons] at *;rw [Int.natCast_add,Int.mul_add];omega
theorem Zkz {f:Int->Int} (h:∀ r,0<=f r):∀ l,0<=Zf4 f l
 |[]=>Int.le_refl _
 |r::l=>by
  have:=Zkz h l;have:=h r;simp only [Zf4,List.map_cons,List.sum_cons] at *;omega
def ids:List Int:=[1,2,3,4,5,6,7,8,9,10,11,12,13,14,15]
theorem Zns {q:Int} (h0:1<=q) (h1:q<=15):q∈ids:=by
 have:q=1\/q=2\/q=3\/q=4\/q=5\/q=6\/q=7\/q=8\/q=9\/q=10\/q=11\/q=12\/q=13\/q=14\/q=15:=by omega
 unfold ids;simp only [List.mem_cons,List.not_mem_nil,or_false];exact this
variable {n n' n'':Rn} {new new':List Mg} {c c':Int}
def Rn.gap (n:Rn) (q:Int):Int:=match n.peer q with|some x=>n.log.last + 1 - x.nx|none=>0
def Rn.pot (n:Rn):Int:=Zf4 n.gap ids + 15 * (n.log.last - n.log.com)
structure LR (n n':Rn) (new:List Mg) (c:Int):Prop where
 eq:n'={ n with log:={ n.log with com:=n'.log.com },ps:=n'.ps,rms:=n'.rms }
 ms:n'.rms=n.rms++new
 nw:∀ a∈new,(a.kd=5\/a.kd=7)/\a.fr=n.id/\a.tm=n.e.hd.tm/\(n.peer a.to').isSome=true
 com:n.log.com<=n'.log.com
 pe:∀ q x,n.peer q=some x->∃ x',n'.peer q=some x'/\x'.st=x.st/\x'.wn=x.wn/\x'.mt=x.mt/\Ch (x.nx - 1) (Zbz q new) (x'.nx - 1)/\x'.fl=x.fl++(Zbz q new).map Mg.till
 pn:∀ q,n.peer q=none->n'.peer q=none
 pot:n'.pot + new.length<=n.pot + c
theorem LR.refl (n:Rn):LR n n [] 0:=
 ⟨rfl,(List.append_nil _).symm,λ _ h=>(by cases h),Int.le_refl _,λ q x h=>⟨x,h,rfl,rfl,rfl,rfl,(List.append_nil _).symm⟩,λ _ h=>h,by simp⟩
theorem LR.fix (h:LR n n' new c):n'.e=n.e/\n'.id=n.id/\n'.g=n.g/\n'.rs=n.rs/\n'.log.l=n.log.l/\n'.log.b=n.log.b/\n'.sn=n.sn/\n'.log.last=n.log.last/\n'.rrd=n.rrd:=by
 rw [h.eq];exact ⟨rfl,rfl,rfl,rfl,rfl,rfl,rfl,rfl,rfl⟩
theorem LR.isS (h:LR n n' new c) (q:Int):(n'.peer q).isSome=(n.peer q).isSome:=by
 cases hq:n.peer q with
 |none=>rw [h.pn q hq]
 |some x=>
  obtain ⟨x',h1,_⟩:=h.pe q x hq;rw [h1];rfl
theorem LR.trans (a:LR n n' new c) (b:LR n' n'' new' c'):LR n n'' (new++new') (c + c'):=by
 obtain ⟨f1,f2,f3,f4,f5,f6,f7,f8,f9⟩:=a.fix;refine ⟨?_,by rw [b.ms,a.ms,List.append_assoc],λ m hm=>?_,Int.le_trans a.com b.com,λ q x hx=>?_,λ q hq=>b.pn q (a.pn q hq),by have:=a.pot;have:=b.pot;rw [List.length_append];omega⟩
 ·have h1:=b.eq
  rw [a.eq] at h1;exact h1
 ·rcases List.mem_append.1 hm with hm|hm
  ·exact a.nw m hm
  ·obtain ⟨h1,h2,h3,h4⟩:=b.nw m hm
   rw [f2] at h2;rw [f1] at h3;rw [a.isS] at h4;exact ⟨h1,h2,h3,h4⟩
 ·obtain ⟨x1,p1,p2,p3,p4,p5,p6⟩:=a.pe q x hx
  obtain ⟨x2,r1,r2,r3,r4,r5,r6⟩:=b.pe q x1 p1;refine ⟨x2,r1,r2.trans p2,r3.trans p3,r4.trans p4,?_,?_⟩
  ·rw [Zaa];exact p5.app r5
  ·rw [Zaa,List.map_append,r6,p6,List.append_assoc]
theorem LR.less (h:LR n n' new c) (hc:c<=c'):LR n n' new c':={ h with pot:=by have:=h.pot;omega }
end
section
open Go Go.VC Tryz
open Go.Rf
variable {n n' n'':Rn} {new new':List Mg} {c c':Int}
theorem ZeI {β:Type} {k k':Int} {v:β}:∀ {l:List (Int × β)},(ZB k l).isSome=true->ZB k' (Zbq k v l)=if k'=k then some v else ZB k' l
 |[],h=>by cases h
 |e::l,h=>by
  have h:(if k==e.1 then some e.2 else ZB k l).isSome=true:=h
  show ZB k' (if k==e.1 then (e.1,v)::l else e::Zbq k v l)=if k'=k then some v else (if k'==e.1 then some e.2 else ZB k' l)
  by_cases h1:k=e.1
  ·rw [if_pos (beq_iff_eq.2 h1)]
   show (if k'==e.1 then some v else ZB k' l)=_
   by_cases h2:k'=e.1
   ·rw [if_pos (beq_iff_eq.2 h2),if_pos (h2.trans h1.symm)]
   ·rw [if_neg (λ h=>h2 (beq_iff_eq.1 h)),if_neg (λ h=>h2 (h.trans h1)),if_neg (λ h=>h2 (beq_iff_eq.1 h))]
  ·rw [if_neg (λ h=>h1 (beq_iff_eq.1 h))] at h ⊢
   show (if k'==e.1 then some e.2 else ZB k' (Zbq k v l))=_
   rw [ZeI h];by_cases h2:k'=e.1
   ·rw [if_pos (beq_iff_eq.2 h2),if_pos (beq_iff_eq.2 h2),if_neg (λ h=>h1 (h.symm.trans h2))]
   ·rw [if_neg (λ h=>h2 (beq_iff_eq.1 h)),if_neg (λ h=>h2 (beq_iff_eq.1 h))]
theorem Zca {q q':Int} {v:Pe} (h:(n.peer q).isSome=true):(n.setP q v).peer q'=if q'=q then some v else n.peer q':=by
 unfold Rn.peer Rn.setP at *;dsimp only;cases hp:n.ps with
 |none=>rw [hp] at h;cases h
 |some l=>
  rw [hp] at h;exact ZeI h
theorem Zlp {g:Lg} (hb:g.b.ix=0) {i:Int} (h0:0<=i) (hi:i<=g.last):((g.get (i + 1) 8).length:Int)=min 8 (g.last - i):=by
 have hl:g.last=g.l.length:=by unfold Lg.last;omega
 unfold Lg.get;by_cases h1:i + 1<=g.last
 ·have hh:g.has (i + 1)=true:=Lg.has_iff.2 ⟨by omega,h1⟩
  rw [if_neg (by rw [hh,hb];rintro (h|h|h)<;>first|omega|cases h),List.length_take,List.length_drop,all_len,hb]
  show ((min 8 _:Nat):Int)=_;omega
 ·have hh:g.has (i + 1)=false:=by
   cases h:g.has (i + 1) with
   |false=>rfl
   |true=>have:=(Lg.has_iff.1 h).2;omega
  rw [if_pos (.inr (.inl hh))];show (0:Int)=_;omega
theorem Zkw {g:Lg} (hb:g.b.ix=0) {i:Int} (h0:0<=i) (hi:i<=g.last):(g.term i).2=true:=by
 unfold Lg.term;rw [if_pos (Lg.has_iff.2 ⟨by omega,hi⟩)]
structure PG (n:Rn) (x:Pe):Prop where
 st:x.st=1
 wn:x.wn=2
 n1:1<=x.nx
 nl:x.nx<=n.log.last + 1
 fl:x.fl.length<=2
structure PS (n:Rn) (x:Pe):Prop extends PG n x where
 full:x.fl.length<2->x.nx=n.log.last + 1
theorem LR.one {q:Int} {x:Pe} (hx:n.peer q=some x) (hq:q∈ids) {m:Mg} (hk:m.kd=5) (ht:m.to'=q) (hi:m.ix=x.nx - 1) (he:m.es≠[]):
  LR n ((n.put m).setP q { x with nx:=m.till + 1,fl:=x.fl++[m.till] }) [{ m with fr:=n.id,tm:=n.e.hd.tm }] 0:=by
 have hs:((n.put m).peer q).isSome=true:=by show (n.peer q).isSome=true;rw [hx];rfl
 have hp:∀ r,((n.put m).setP q { x with nx:=m.till + 1,fl:=x.fl++[m.till] }).peer r=if r=q then some { x with nx:=m.till + 1,fl:=x.fl++[m.till] } else n.peer r:=λ r=>Zca hs
 have hlt:=Mg.till_lt he;refine ⟨rfl,rfl,λ a ha=>?_,Int.le_refl _,λ r z hz=>?_,λ r hr=>?_,?_⟩
 ·rw [List.mem_singleton] at ha
  subst ha;exact ⟨.inl hk,rfl,rfl,by show (n.peer m.to').isSome=true;rw [ht,hx];rfl⟩
 ·rw [hp]
  by_cases h1:r=q
  ·subst h1
   rw [hx] at hz;have hz:=Option.some.inj hz;subst hz;have ea:Zbz r [{ m with fr:=n.id,tm:=n.e.hd.tm }]=[{ m with fr:=n.id,tm:=n.e.hd.tm }]:=by
    unfold Zbz;rw [List.filter_cons_of_pos]
    ·rfl
    ·unfold isA
     dsimp only;rw [hk,ht,beq_self_eq_true,beq_self_eq_true];rfl
   rw [if_pos rfl,ea];refine ⟨_,rfl,rfl,rfl,rfl,⟨hi,he,?_⟩,rfl⟩;show m.till=m.till + 1 - 1;omega
  ·have ea:Zbz r [{ m with fr:=n.id,tm:=n.e.hd.tm }]=[]:=by
    unfold Zbz;rw [List.filter_cons_of_neg]
    ·rfl
    ·unfold isA
     dsimp only;rw [ht,beq_eq_false_iff_ne.2 (λ h=>h1 h.symm),Bool.and_false];decide
   rw [if_neg h1,ea];exact ⟨z,hz,rfl,rfl,rfl,rfl,(List.append_nil _).symm⟩
 ·rw [hp,if_neg (λ h=>by rw [h,hx] at hr;cases hr)];exact hr
 ·have hg:Zf4 ((n.put m).setP q { x with nx:=m.till + 1,fl:=x.fl++[m.till] }).gap ids + 1<=Zf4 n.gap ids:=by
   refine ZkA (q:=q) (λ r=>?_) ?_ hq
   ·unfold Rn.gap
    rw [hp];by_cases h1:r=q
    ·rw [if_pos h1,h1,hx]
     show n.log.last + 1 - (m.till + 1)<=n.log.last + 1 - x.nx;omega
    ·rw [if_neg h1];exact Int.le_refl _
   ·unfold Rn.gap
    rw [hp,if_pos rfl,hx];show n.log.last + 1 - (m.till + 1) + 1<=n.log.last + 1 - x.nx;omega
  unfold Rn.pot;show _ + 15 * (n.log.last - n.log.com) + (1:Int)<=_;omega
theorem ZiK:∀ (f:Nat) {n:Rn} {q:Int} {x:Pe},n.log.b.ix=0->n.log.last<=1000000->n.peer q=some x->q∈ids->PG n x->3<=f + x.fl.length->
  ∃ new x',LR n (Rn.sendF q f n) new 0/\(∀ a∈new,a.kd=5/\a.to'=q)/\(Rn.sendF q f n).peer q=some x'/\PS n x'
 |0,n,q,x,hb,hl,hx,hq,hg,hf=>by have:=hg.fl;omega
 |f + 1,n,q,x,hb,hl,hx,hq,hg,hf=>by
  have h1:=hg.n1;have h2:=hg.nl;have h3:=hg.fl;unfold Rn.sendF;rw [hx];dsimp only;have hm:x.may=decide ((x.fl.length:Int)<2):=by
   unfold Pe.may;rw [hg.st,hg.wn];rfl
  by_cases h4:x.fl.length<2
  ·rw [if_pos (by rw [hm,decide_eq_true (by omega),decide_eq_true (by omega)];rfl),Zkw hb (by omega) (by omega),if_neg (by decide)]
   have hgl:=Zlp (g:=n.log) hb (i:=x.nx - 1) (by omega) (by omega);generalize hes:n.log.get (x.nx - 1 + 1) 8=es at hgl ⊢;have hst:(x.st==1)=true:=by rw [hg.st];rfl
   rw [hst,Bool.true_and];by_cases h5:es=[]
   ·rw [h5,if_pos rfl]
    rw [h5] at hgl;simp only [List.length_nil] at hgl;exact ⟨[],x,.refl n,(λ _ h=>by cases h),hx,⟨hg,λ _=>by omega⟩⟩
   ·have hpos:=List.length_pos_iff.2 h5
    rw [if_neg (by rw [List.isEmpty_iff];exact h5),if_pos rfl];have hsent:x.sent (x.nx - 1 + es.length)={ x with nx:=x.nx - 1 + es.length + 1,fl:=x.fl++[x.nx - 1 + es.length] }:=by
     unfold Pe.sent;rw [hm,decide_eq_true (by omega),decide_eq_false (by omega),decide_eq_false (by omega),if_neg (by decide),if_neg (by rw [hg.st];decide),if_pos (by omega)]
    rw [hsent];have h6:=LR.one (n:=n) hx hq (m:={ kd:=5,to':=q,ix:=x.nx - 1,lt:=(n.log.term (x.nx - 1)).1,com:=n.log.com,es:=es }) rfl rfl rfl h5;generalize hn1:((n.put { kd:=5,to':=q,ix:=x.nx - 1,lt:=(n.log.term (x.nx - 1)).1,com:=n.log.com,es:=es }).setP q { x with nx:=x.nx - 1 + es.length + 1,fl:=x.fl++[x.nx - 1 + es.length] })=n1;obtain ⟨m5,h6,hm5⟩:∃ m5:Mg,LR n n1 [m5] 0/\m5.kd=5/\m5.to'=q:=by
     refine ⟨_,by rw [<-hn1];exact h6,rfl,rfl⟩
    obtain ⟨f1,f2,f3,f4,f5,f6,f7,f8,f9⟩:=h6.fix;have hx1:n1.peer q=some { x with nx:=x.nx - 1 + es.length + 1,fl:=x.fl++[x.nx - 1 + es.length] }:=by
     rw [<-hn1,Zca (by show (n.peer q).isSome=true;rw [hx];rfl),if_pos rfl]
    have hg1:PG n1 { x with nx:=x.nx - 1 + es.length + 1,fl:=x.fl++[x.nx - 1 + es.length] }:=⟨hg.st,hg.wn,by dsimp only;omega,by dsimp only;rw [f8];omega,by dsimp only;rw [List.length_append];simp only [List.length_cons,List.length_nil];omega⟩;obtain ⟨new,x',r1,r2,r3,r4⟩:=ZiK f (n:=n1) (q:=q) (by rw [f6];exact hb) (by rw [f8];exact hl) hx1 hq hg1 (by dsimp only;rw [List.length_append];simp only [List.length_cons,List.length_nil];omega);refine ⟨_,x',h6.trans r1,λ a ha=>?_,r3,⟨⟨r4.st,r4.wn,r4.n1,by rw [<-f8];exact r4.nl,r4.fl⟩,λ h=>by rw [<-f8];exact r4.full h⟩⟩;rcases List.mem_append.1 ha with ha|ha
    ·rw [List.mem_singleton] at ha
     subst ha;exact hm5
    ·exact r2 a ha
  ·rw [if_neg (by rw [hm,decide_eq_false (by omega),Bool.false_and];decide)]
   exact ⟨[],x,.refl n,(λ _ h=>by cases h),hx,⟨hg,λ h=>absurd h h4⟩⟩
theorem Zh0 {q:Int} {x:Pe} (hb:n.log.b.ix=0) (hl:n.log.last<=1000000) (hx:n.peer q=some x) (hq:q∈ids) (hg:PG n x):
  ∃ new x',LR n (n.send q) new 0/\(∀ a∈new,a.kd=5/\a.to'=q)/\(n.send q).peer q=some x'/\PS n x':=ZiK 66 hb hl hx hq hg (by omega)
theorem ZgM {q q':Int} {new:List Mg} (h:∀ a∈new,a.kd=5/\a.to'=q) (hq:q'≠q):Zbz q' new=[]:=by
 unfold Zbz;rw [List.filter_eq_nil_iff];intro a ha;unfold isA;rw [(h a ha).2,beq_eq_false_iff_ne.2 (Ne.symm hq),Bool.and_false];decide
theorem ZbZ {q':Int} {new:List Mg} (h:∀ a∈new,a.kd=7):Zbz q' new=[]:=by
 unfold Zbz;rw [List.filter_eq_nil_iff];intro a ha;unfold isA;rw [h a ha];simp
end
section
open Go Go.VC Tryz
open Go.Rf
variable {n n' n'':Rn} {new new':List Mg} {c c':Int}
def ZoU (n:Rn) (P:Rn->Pe->Prop):Prop:=∀ q x,n.peer q=some x->q∈ids/\P n x
theorem LR.same (h:LR n n' new c) {q:Int} (ha:Zbz q new=[]) {x':Pe} (hx:n'.peer q=some x'):∃ x,n.peer q=some x/\x'.st=x.st/\x'.wn=x.wn/\x'.mt=x.mt/\x'.nx=x.nx/\x'.fl=x.fl:=by
 cases hq:n.peer q with
 |none=>rw [h.pn q hq] at hx;cases hx
 |some x=>
  obtain ⟨z,p1,p2,p3,p4,p5,p6⟩:=h.pe q x hq;rw [hx] at p1;have p1:=Option.some.inj p1;subst p1;rw [ha] at p5 p6;have p5:x.nx - 1=x'.nx - 1:=p5;exact ⟨x,rfl,p2,p3,p4,by omega,by rw [p6];exact List.append_nil _⟩
theorem LR.keepG (h:LR n n' new c) {q:Int} (ha:Zbz q new=[]) {x':Pe} (hx:n'.peer q=some x') {P:Rn->Pe->Prop} (hP:P=PG\/P=PS) (hn:∀ x,n.peer q=some x->P n x):P n' x':=by
 obtain ⟨x,e1,e2,e3,e4,e5,e6⟩:=h.same ha hx;have hl:=h.fix.2.2.2.2.2.2.2.1;have hx:=hn x e1;rcases hP with rfl|rfl
 ·exact ⟨e2.trans hx.st,e3.trans hx.wn,by rw [e5];exact hx.n1,by rw [e5,hl];exact hx.nl,by rw [e6];exact hx.fl⟩
 ·exact ⟨⟨e2.trans hx.st,e3.trans hx.wn,by rw [e5];exact hx.n1,by rw [e5,hl];exact hx.nl,by rw [e6];exact hx.fl⟩,λ h=>by rw [e6] at h;rw [e5,hl];exact hx.full h⟩
theorem Zea {q:Int} (h:q∈n.mem):(n.peer q).isSome=true:=by
 unfold Rn.mem at h;obtain ⟨v,hv⟩:=ZgC ((Z4 _).mem_iff.1 h);unfold Rn.peer;rw [hv];rfl
theorem LR.beat1 {q:Int} (hq:(n.peer q).isSome=true):LR n (n.beat q) [{ kd:=7,to':=q,com:=min ((n.peer q).getD (Pe.new 0 0)).mt n.log.com,rnd:=n.rnd,fr:=n.id,tm:=n.e.hd.tm }] 1:=by
 refine ⟨rfl,rfl,λ a ha=>?_,Int.le_refl _,λ r x hx=>⟨x,hx,rfl,rfl,rfl,?_,?_⟩,λ r hr=>hr,?_⟩
 ·rw [List.mem_singleton] at ha
  subst ha;exact ⟨.inr rfl,rfl,rfl,hq⟩
 ·rw [ZbZ (λ a ha=>by rw [List.mem_singleton] at ha;subst ha;rfl)];rfl
 ·rw [ZbZ (λ a ha=>by rw [List.mem_singleton] at ha;subst ha;rfl)];exact (List.append_nil _).symm
 ·show n.pot + (1:Int)<=_
  omega
theorem ZeY:∀ (l:List Int) {n:Rn},(∀ q∈l,(n.peer q).isSome=true)->∃ new,LR n (l.foldl Rn.beat n) new l.length/\∀ a∈new,a.kd=7
 |[],n,_=>⟨[],.refl n,λ _ h=>by cases h⟩
 |q::l,n,h=>by
  have h1:=LR.beat1 (h q List.mem_cons_self);obtain ⟨new,h2,h3⟩:=ZeY l (n:=n.beat q) (λ r hr=>by rw [h1.isS];exact h r (List.mem_cons_of_mem _ hr));refine ⟨_,(h1.trans h2).less (by rw [List.length_cons];omega),λ a ha=>?_⟩;rcases List.mem_append.1 ha with ha|ha
  ·rw [List.mem_singleton] at ha;subst ha;rfl
  ·exact h3 a ha
theorem LR.commit {i:Int} (h1:n.log.com<i) (h2:i<=n.log.last):LR n { n with log:=(n.log.commit i).2 } [] (-15)/\({ n with log:=(n.log.commit i).2 }:Rn).log.com=i:=by
 have e:(n.log.commit i).2={ n.log with com:=i }:=by
  unfold Lg.commit;rw [if_neg (by omega)]
 rw [e];refine ⟨⟨rfl,(List.append_nil _).symm,(λ _ h=>by cases h),Int.le_of_lt h1,λ q x hx=>⟨x,hx,rfl,rfl,rfl,rfl,(List.append_nil _).symm⟩,λ q hq=>hq,?_⟩,rfl⟩;show Zf4 n.gap ids + 15 * (n.log.last - i) + (0:Int)<=Zf4 n.gap ids + 15 * (n.log.last - n.log.com) + -15;omega
structure Zji (n:Rn):Prop where
 b:n.log.b.ix=0
 l:n.log.last<=1000000
 tm:∀ e∈n.log.l,e.tm=n.e.hd.tm
 rs:n.rs=[]
 c0:0<=n.log.com
theorem Zji.LR (o:Zji n) (h:LR n n' new c):Zji n':=by
 obtain ⟨f1,f2,f3,f4,f5,f6,f7,f8,f9⟩:=h.fix;have:=h.com;exact ⟨by rw [f6];exact o.b,by rw [f8];exact o.l,by rw [f5,f1];exact o.tm,by rw [f4];exact o.rs,by have:=o.c0;omega⟩
theorem Zji.term (o:Zji n) {i:Int} (h0:0<i) (h1:i<=n.log.last):n.log.term i=(n.e.hd.tm,true):=by
 have hh:n.log.has i=true:=Lg.has_iff.2 ⟨by rw [o.b];omega,h1⟩;obtain ⟨hl,e⟩:=Lg.at_eq hh;unfold Lg.term;rw [if_pos hh,e];have hb:=o.b;obtain ⟨k,hk⟩:∃ k,(i - n.log.b.ix).toNat=k + 1:=⟨(i - n.log.b.ix).toNat - 1,by omega⟩;have hm:n.log.all[(i - n.log.b.ix).toNat]∈n.log.l:=by
  have h2:n.log.all[(i - n.log.b.ix).toNat]? =n.log.l[k]?:=by rw [hk];rfl
  rw [List.getElem?_eq_getElem hl] at h2;exact List.mem_of_getElem? h2.symm
 rw [o.tm _ hm]
theorem ZfX (o:Zji n) (hm:n.mem.length<=15) (hmid:ZeA n.g.vs n.g.ls n.ats<=n.log.last):∃ new,LR n n.advance new 0/\(∀ a∈new,a.kd=7)/\ZeA n.g.vs n.g.ls n.ats<=n.advance.log.com:=by
 have hc:=o.c0;unfold Rn.advance;dsimp only;generalize ZeA n.g.vs n.g.ls n.ats=i at hmid ⊢;by_cases h1:i<=n.log.com
 ·rw [if_pos (by rw [decide_eq_true h1,Bool.or_true])]
  exact ⟨[],.refl n,(λ _ h=>by cases h),h1⟩
 ·rw [o.term (by omega) hmid]
  rw [if_neg (by
   dsimp only;rw [decide_eq_false h1,bne_self_eq_false];decide)]
  obtain ⟨h2,h3⟩:=LR.commit (n:=n) (by omega:n.log.com<i) hmid;obtain ⟨new,h4,h5⟩:=ZeY n.mem (n:={ n with log:=(n.log.commit i).2 }) (λ q hq=>Zea hq);have h4:LR { n with log:=(n.log.commit i).2 } (Rn.beats { n with log:=(n.log.commit i).2 }) new n.mem.length:=h4;refine ⟨new,(h2.trans h4).less (by omega),h5,?_⟩;have:=h4.com;rw [h3] at this;exact this
theorem Zm2:∀ (l:List Int) {n:Rn},n.log.b.ix=0->n.log.last<=1000000->(∀ q∈l,(n.peer q).isSome=true)->ZoU n PG->
  ∃ new,LR n (l.foldl Rn.send n) new 0/\(∀ a∈new,a.kd=5)/\∀ q x',(l.foldl Rn.send n).peer q=some x'->q∈ids/\PG (l.foldl Rn.send n) x'/\((q∈l\/∀ x,n.peer q=some x->PS n x)->PS (l.foldl Rn.send n) x')
 |[],n,hb,hl,hs,hg=>⟨[],.refl n,(λ _ h=>by cases h),λ q x' hx=>⟨(hg q x' hx).1,(hg q x' hx).2,λ h=>by
   rcases h with h|h
   ·cases h
   ·exact h x' hx⟩⟩
 |p::l,n,hb,hl,hs,hg=>by
  obtain ⟨x,hx⟩:=Option.isSome_iff_exists.1 (hs p List.mem_cons_self);obtain ⟨hp,hgx⟩:=hg p x hx;obtain ⟨new1,x1,a1,a2,a3,a4⟩:=Zh0 hb hl hx hp hgx;have e1:=a1.fix;have hps1:∀ {q z},(n.send p).peer q=some z->q∈ids/\PG (n.send p) z/\((q=p\/∀ x,n.peer q=some x->PS n x)->PS (n.send p) z):=λ {q z} hz=>by
   by_cases h1:q=p
   ·subst h1
    rw [a3] at hz;have hz:=Option.some.inj hz;subst hz;have hps:PS (n.send q) x1:=⟨⟨a4.st,a4.wn,a4.n1,by rw [e1.2.2.2.2.2.2.2.1];exact a4.nl,a4.fl⟩,λ h=>by rw [e1.2.2.2.2.2.2.2.1];exact a4.full h⟩;exact ⟨hp,hps.toPG,λ _=>hps⟩
   ·have ha:=ZgM a2 h1
    obtain ⟨x0,b1,_⟩:=a1.same ha hz;refine ⟨(hg q x0 b1).1,a1.keepG ha hz (.inl rfl) (λ x h=>(hg q x h).2),λ h=>?_⟩;rcases h with h|h
    ·exact absurd h h1
    ·exact a1.keepG ha hz (.inr rfl) h
  obtain ⟨new2,b1,b2,b3⟩:=Zm2 l (n:=n.send p) (by rw [e1.2.2.2.2.2.1];exact hb) (by rw [e1.2.2.2.2.2.2.2.1];exact hl) (λ q hq=>by rw [a1.isS];exact hs q (List.mem_cons_of_mem _ hq)) (λ q z hz=>⟨(hps1 hz).1,(hps1 hz).2.1⟩);refine ⟨new1++new2,(a1.trans b1).less (by omega),λ a ha=>?_,λ q x' hx'=>?_⟩
  ·rcases List.mem_append.1 ha with ha|ha
   ·exact (a2 a ha).1
   ·exact b2 a ha
  ·obtain ⟨c1,c2,c3⟩:=b3 q x' hx'
   refine ⟨c1,c2,λ h=>c3 ?_⟩;rcases h with h|h
   ·rcases List.mem_cons.1 h with h|h
    ·exact .inr λ z hz=>(hps1 hz).2.2 (.inl h)
    ·exact .inl h
   ·exact .inr λ z hz=>(hps1 hz).2.2 (.inr h)
end
section
open Go Go.VC Tryz
open Go.Rf
variable {n n' n'':Rn} {new new':List Mg} {c c':Int}
theorem LR.ats (h:LR n n' new c):n'.ats=n.ats:=by
 obtain ⟨f1,f2,f3,f4,f5,f6,f7,f8,f9⟩:=h.fix;unfold Rn.ats;refine List.map_congr_left λ k _=>?_;rw [f2,f8];cases hq:n.peer k with
 |none=>rw [h.pn _ hq]
 |some x=>
  obtain ⟨x',p1,_,_,p4,_⟩:=h.pe _ x hq;rw [p1];exact p4
def Rn.mid (n:Rn):Int:=ZeA n.g.vs n.g.ls n.ats
theorem LR.midE (h:LR n n' new c):n'.mid=n.mid:=by
 unfold Rn.mid;rw [h.ats,h.fix.2.2.1]
theorem ZmS (h0:0<=n.log.last) (hm:∀ q x,n.peer q=some x->x.mt<=n.log.last):n.mid<=n.log.last:=by
 unfold Rn.mid;by_cases hr:Zo n.g.vs n.g.ls=true
 ·have hm1:=(Zk4 (A:=n.ats) hr).mem
  obtain ⟨y,hy,e⟩:=List.mem_map.1 hm1;rw [<-e];obtain ⟨r1,r2⟩:=ZaK (Zp hr) y hy;have hk:y.toNat<n.ats.length:=by rw [Ze0];omega
  unfold pick;rw [List.getD_eq_getElem?_getD,List.getElem?_eq_getElem hk,Option.getD_some,Ze1 hk];cases hq:n.peer ((y.toNat:Nat):Int) with
  |some x=>exact hm _ x hq
  |none=>
   dsimp only;split
   ·exact Int.le_refl _
   ·exact h0
 ·unfold ZeA
  rw [if_neg hr];exact h0
theorem Znr (hr:Zo n.g.vs n.g.ls=true) (h:∀ y∈n.g.vs,(∃ x,n.peer y=some x/\x.mt=n.log.last)\/(n.peer y=none/\y=n.id)):n.log.last<=n.mid:=by
 unfold Rn.mid;refine (Zk4 (A:=n.ats) hr).le ?_;have e:Zt (λ x=>decide (x >= n.log.last)) (n.g.vs.map (pick n.ats))=n.g.vs.length:=by
  unfold Zt;rw [List.filter_eq_self.2,List.length_map];intro z hz;obtain ⟨y,hy,rfl⟩:=List.mem_map.1 hz;obtain ⟨r1,r2⟩:=ZaK (Zp hr) y hy;have hk:y.toNat<n.ats.length:=by rw [Ze0];omega
  rw [decide_eq_true_eq];unfold pick;rw [List.getD_eq_getElem?_getD,List.getElem?_eq_getElem hk,Option.getD_some,Ze1 hk,show ((y.toNat:Nat):Int)=y by omega];rcases h y hy with ⟨x,h1,h2⟩|⟨h1,h2⟩
  ·rw [h1]
   dsimp only;omega
  ·rw [h1,h2,beq_self_eq_true]
   exact Int.le_refl _
 rw [e,List.length_map];have:=Zde hr;omega
theorem Zl8 {q:Int} {x x1:Pe} (hx:n.peer q=some x) (hn:x1.nx=x.nx):(n.setP q x1).pot=n.pot:=by
 have e:(n.setP q x1).gap=n.gap:=by
  funext r
  unfold Rn.gap;rw [Zca (by rw [hx];rfl)];by_cases h:r=q
  ·rw [if_pos h,h,hx]
   show n.log.last + 1 - x1.nx=n.log.last + 1 - x.nx;rw [hn]
  ·rw [if_neg h];rfl
 unfold Rn.pot;rw [e];rfl
theorem Zl9 (n:Rn) (q:Int) (x:Pe):(n.setP q x).mem=n.mem:=by
 unfold Rn.mem Rn.setP;dsimp only;cases hp:n.ps with
 |none=>rfl
 |some l=>
  show ZaF ((Zbq q x l).map (·.1))=ZaF (l.map (·.1));rw [Zen]
theorem Zre (o:Zji n) (hm:n.mem.length<=15) {m:Mg} {x:Pe} {rest:List Int} (hx:n.peer m.fr=some x) (hq:m.fr∈ids) (hg:PG n x) (hkd:m.kd=6) (ht:m.tm=n.e.hd.tm) (hy:m.yes=true)
  (hf:x.fl=m.ix::rest) (hmt:x.mt<m.ix) (h0:0<=x.mt) (hr:∀ z∈rest,m.ix<z) (hnx:m.ix<x.nx) (hmts:∀ q x,n.peer q=some x->x.mt<=n.log.last):
  ∃ new x1,x1={ x with mt:=m.ix,fl:=rest }/\LR (n.setP m.fr x1) (n.said m) new 0/\(∀ a∈new,a.kd=5->a.to'=m.fr)/\(n.said m).mid<=(n.said m).log.com/\∃ x',(n.said m).peer m.fr=some x'/\PS (n.said m) x':=by
 have hl:=o.l;have hnl:=hg.nl;have hack:x.acked m.ix=(true,{ x with mt:=m.ix,fl:=rest }):=by
  unfold Pe.acked;rw [if_neg (by omega)];dsimp only;rw [hg.st,if_neg (by decide),if_pos (by decide),decide_eq_true (by omega),Int.max_eq_right (by omega),Int.max_eq_left (by omega)];have hfl:x.fl.filter (λ k=>decide (k>m.ix))=rest:=by
   rw [hf,List.filter_cons_of_neg (by simp),List.filter_eq_self.2 (λ z hz=>decide_eq_true (hr z hz))]
  rw [hfl]
 have e:n.said m=(n.setP m.fr { x with mt:=m.ix,fl:=rest }).advance.send m.fr:=by
  unfold Rn.said;rw [if_neg (by omega),if_neg (by omega),hx];dsimp only;rw [if_neg (by rw [hkd];decide),hy,decide_eq_true (by omega),if_pos (by decide),hack];rfl
 rw [e];have hs:(n.peer m.fr).isSome=true:=by rw [hx];rfl
 have o1:Zji (n.setP m.fr { x with mt:=m.ix,fl:=rest }):=⟨o.b,o.l,o.tm,o.rs,o.c0⟩;have hp1:∀ r,(n.setP m.fr { x with mt:=m.ix,fl:=rest }).peer r=if r=m.fr then some { x with mt:=m.ix,fl:=rest } else n.peer r:=λ r=>Zca hs
 have hg1:PG (n.setP m.fr { x with mt:=m.ix,fl:=rest }) { x with mt:=m.ix,fl:=rest }:=⟨hg.st,hg.wn,hg.n1,hg.nl,by have:=hg.fl;rw [hf,List.length_cons] at this;dsimp only;omega⟩;have hlast:(n.setP m.fr { x with mt:=m.ix,fl:=rest }).log=n.log:=rfl;have hmem:=Zl9 n m.fr { x with mt:=m.ix,fl:=rest };generalize hn1:n.setP m.fr { x with mt:=m.ix,fl:=rest }=n1 at o1 hp1 hg1 hlast hmem ⊢;have hmid:n1.mid<=n1.log.last:=by
  refine ZmS ?_ λ q z hz=>?_
  ·rw [hlast];omega
  ·rw [hp1] at hz
   rw [hlast];by_cases h:q=m.fr
   ·rw [if_pos h] at hz
    have hz:=Option.some.inj hz;subst hz;dsimp only;omega
   ·rw [if_neg h] at hz;exact hmts q z hz
 obtain ⟨new1,a1,a2,a3⟩:=ZfX o1 (by rw [hmem];exact hm) hmid;have ha:=ZbZ (q':=m.fr) a2;obtain ⟨x2,b1,_⟩:=a1.pe m.fr { x with mt:=m.ix,fl:=rest } (by rw [hp1,if_pos rfl]);have o2:=o1.LR a1;have hg2:=a1.keepG ha b1 (.inl rfl) (λ z hz=>by
  rw [hp1,if_pos rfl] at hz;have hz:=Option.some.inj hz;subst hz;exact hg1)
 obtain ⟨new2,x3,c1,c2,c3,c4⟩:=Zh0 o2.b o2.l b1 hq hg2;have hc:=a1.trans c1;refine ⟨new1++new2,{ x with mt:=m.ix,fl:=rest },rfl,(by rw [hn1];exact hc.less (Int.le_refl _)),λ a ha' hk=>?_,?_,x3,c3,⟨⟨c4.st,c4.wn,c4.n1,by rw [c1.fix.2.2.2.2.2.2.2.1];exact c4.nl,c4.fl⟩,λ h=>by rw [c1.fix.2.2.2.2.2.2.2.1];exact c4.full h⟩⟩
 ·rcases List.mem_append.1 ha' with ha'|ha'
  ·rw [a2 a ha'] at hk;exact absurd hk (by decide)
  ·exact (c2 a ha').2
 ·rw [hc.midE]
  exact Int.le_trans a3 c1.com
theorem Zrd (o:Zji n) {m:Mg} {x:Pe} (hx:n.peer m.fr=some x) (hq:m.fr∈ids) (hg:PS n x) (hkd:m.kd=8) (ht:m.tm=n.e.hd.tm):
  ∃ new,LR n (n.said m) new 0/\(∀ a∈new,a.kd=5/\a.to'=m.fr)/\∃ x',(n.said m).peer m.fr=some x'/\PS (n.said m) x':=by
 have hb:n.behind m.fr m.rnd=n:=by
  unfold Rn.behind;rw [o.rs];have h1:n.rrd++(((([]:List Rq).map (Rq.stand m.fr m.rnd)).filter (Rq.wins n.g)).map λ x=>(x.tok,x.ix))=n.rrd:=List.append_nil _;dsimp only;rw [h1];have h2:((([]:List Rq).map (Rq.stand m.fr m.rnd)).filter λ x=>!Rq.wins n.g x)=n.rs:=by rw [o.rs];rfl
  rw [h2]
 have e:n.said m=if x.mt<n.log.last then n.send m.fr else n:=by
  unfold Rn.said;rw [if_neg (by omega),if_neg (by omega),hx];dsimp only;rw [if_pos (by rw [hkd];decide),hb]
 rw [e];split
 ·obtain ⟨new,x',c1,c2,c3,c4⟩:=Zh0 o.b o.l hx hq hg.toPG
  exact ⟨new,c1,c2,x',c3,⟨⟨c4.st,c4.wn,c4.n1,by rw [c1.fix.2.2.2.2.2.2.2.1];exact c4.nl,c4.fl⟩,λ h=>by rw [c1.fix.2.2.2.2.2.2.2.1];exact c4.full h⟩⟩
 ·exact ⟨[],.refl n,(λ _ h=>by cases h),x,hx,hg⟩
theorem Zg2 {q:Int} {x:Pe} (hb:n.log.b.ix=0) (hx:n.peer q=some x) (hg:PS n x) (hf:x.fl=[]) (h0:0<=n.log.last):n.send q=n:=by
 have hnx:=hg.full (by rw [hf];decide);unfold Rn.send Rn.sendF;rw [hx];dsimp only;have hm:x.may=true:=by
  unfold Pe.may;rw [hg.st,hg.wn,hf];rfl
 have hgl:=Zlp (g:=n.log) hb (i:=x.nx - 1) (by omega) (by omega);have hge:n.log.get (x.nx - 1 + 1) 8=[]:=List.length_eq_zero_iff.1 (by omega);rw [hm,decide_eq_true (by omega),if_pos (by decide),Zkw hb (by omega) (by omega),if_neg (by decide),hge,hg.st,if_pos (by decide)]
theorem Zjp {q:Int} {x:Pe} (hb:n.log.b.ix=0) (hx:n.peer q=some x) (hg:PS n x) (hf:x.fl=[]) (h0:0<=n.log.last):n.tickP q=n.beat q:=by
 obtain ⟨l,hp⟩:=Option.isSome_iff_exists.1 (Zev hx);have hbt:x.beat=x:=by
  unfold Pe.beat;rw [hg.st,hg.wn,hf];rfl
 have hs:n.setP q x=n:=Za9 hp (by unfold Rn.peer at hx;rw [hp] at hx;exact hx);have hs2:n.send q=n:=Zg2 hb hx hg hf h0;unfold Rn.tickP;rw [hx,Option.getD_some,hbt];dsimp only;rw [show (x.st==2)=false by rw [hg.st];rfl];show Rn.send (Rn.beat (n.setP q x) q) q=n.beat q;rw [hs];exact Zg2 (n:=n.beat q) hb hx ⟨⟨hg.st,hg.wn,hg.n1,hg.nl,hg.fl⟩,hg.full⟩ hf h0
theorem Zeh (h0:0<=n.log.last):∀ (l:List Int) {m:Rn},m.log=n.log->m.ps=n.ps->n.log.b.ix=0->(∀ q∈l,∃ x,n.peer q=some x/\PS n x/\x.fl=[])->l.foldl Rn.tickP m=l.foldl Rn.beat m
 |[],m,_,_,_,_=>rfl
 |q::l,m,h1,h2,hb,h=>by
  obtain ⟨x,hx,hg,hf⟩:=h q List.mem_cons_self;have hxm:m.peer q=some x:=by unfold Rn.peer at *;rw [h2];exact hx
  have e:m.tickP q=m.beat q:=Zjp (by rw [h1];exact hb) hxm ⟨⟨hg.st,hg.wn,hg.n1,by rw [h1];exact hg.nl,hg.fl⟩,λ h=>by rw [h1];exact hg.full h⟩ hf (by rw [h1];exact h0);show l.foldl Rn.tickP (m.tickP q)=l.foldl Rn.beat (m.beat q);rw [e];exact Zeh h0 l (m:=m.beat q) h1 h2 hb λ r hr=>h r (List.mem_cons_of_mem _ hr)
theorem Zj8 {a:Mg}:∀ (l:List Int) (n:Rn),a∈n.rms->a∈(l.foldl Rn.beat n).rms:=by
 intro l
 induction l with
 |nil=>exact λ _ h=>h
 |cons r l ih=>exact λ n h=>ih (n.beat r) (List.mem_append_left _ h)
theorem Zj9 (l:List Int):∀ (n:Rn),∀ q∈l,∃ a∈(l.foldl Rn.beat n).rms,a.kd=7/\a.to'=q/\a.com=min ((n.peer q).getD (Pe.new 0 0)).mt n.log.com:=by
 induction l with
 |nil=>intro n q hq;cases hq
 |cons p l ih=>
  intro n q hq;rcases List.mem_cons.1 hq with h|h
  ·subst h
   have hin:({ ({ kd:=7,to':=q,com:=min ((n.peer q).getD (Pe.new 0 0)).mt n.log.com,rnd:=n.rnd }:Mg) with fr:=n.id,tm:=n.e.hd.tm })∈(n.beat q).rms:=List.mem_append_right _ (List.mem_singleton.2 rfl);exact ⟨_,Zj8 l (n.beat q) hin,rfl,rfl,rfl⟩
  ·obtain ⟨a,h1,h2,h3,h4⟩:=ih (n.beat p) q h
   exact ⟨a,h1,h2,h3,h4⟩
end
section
open Go Go.VC Tryz
open Go.Rf
variable {n n' n'':Rn} {new new':List Mg} {c c':Int} {C:Ct} {E:Nat} {G:Gh} {F:List Ey}
theorem ZeK {β:Type} {k:Int}:∀ {a b:List (Int × β)},ZB k a=none->ZB k (a++b)=ZB k b
 |[],_,_=>rfl
 |e::a,b,h=>by
  have h:(if k==e.1 then some e.2 else ZB k a)=none:=h
  show (if k==e.1 then some e.2 else ZB k (a++b))=_
  by_cases h1:(k==e.1)=true
  ·rw [if_pos h1] at h;cases h
  ·rw [if_neg h1] at h ⊢;exact ZeK h
theorem ZfG {β:Type} {k:Int} {v:β}:∀ {a b:List (Int × β)},ZB k a=some v->ZB k (a++b)=some v
 |[],_,h=>by cases h
 |e::a,b,h=>by
  have h:(if k==e.1 then some e.2 else ZB k a)=some v:=h
  show (if k==e.1 then some e.2 else ZB k (a++b))=_
  by_cases h1:(k==e.1)=true
  ·rw [if_pos h1] at h ⊢;exact h
  ·rw [if_neg h1] at h ⊢;exact ZfG h
theorem Zlr {β:Type} {k k':Int} {v:β} {l:List (Int × β)}:ZB k' (ZcG k v l)=if k'=k then some v else ZB k' l:=by
 unfold ZcG;split
 ·rename_i h;exact ZeI h
 ·rename_i h
  have hn:ZB k l=none:=by
   cases hg:ZB k l with
   |none=>rfl
   |some x=>rw [hg] at h;exact absurd rfl h
  by_cases h1:k'=k
  ·rw [h1,if_pos rfl,ZeK hn]
   show (if k==k then some v else none)=some v
   rw [beq_self_eq_true,if_pos rfl]
  ·rw [if_neg h1]
   cases hg:ZB k' l with
   |some x=>exact ZfG hg
   |none=>
    rw [ZeK hg];show (if k'==k then some v else none)=none
    rw [if_neg (λ h=>h1 (beq_iff_eq.1 h))]
theorem ZiW (n:Rn) (q:Int):∀ (D:List Int) (acc:List (Int × Pe)),ZB q (D.foldl n.addP acc)=if q∈D/\q≠n.id then some (n.peerN q) else ZB q acc
 |[],acc=>by rw [if_neg (λ h=>by cases h.1)];rfl
 |p::D,acc=>by
  show ZB q (D.foldl n.addP (n.addP acc p))=_;rw [ZiW n q D];have e:ZB q (n.addP acc p)=if q=p/\q≠n.id then some (n.peerN q) else ZB q acc:=by
   unfold Rn.addP;by_cases h1:p=n.id
   ·rw [if_pos (beq_iff_eq.2 h1),if_neg (λ h=>h.2 (h.1.trans h1))]
   ·rw [if_neg (λ h=>h1 (beq_iff_eq.1 h)),Zlr]
    by_cases h2:q=p
    ·rw [if_pos h2,if_pos ⟨h2,λ h=>h1 (h2 ▸ h)⟩,h2]
    ·rw [if_neg h2,if_neg (λ h=>h2 h.1)]
  rw [e];by_cases h1:q∈D/\q≠n.id
  ·rw [if_pos h1,if_pos ⟨List.mem_cons_of_mem _ h1.1,h1.2⟩]
  ·rw [if_neg h1]
   by_cases h2:q=p/\q≠n.id
   ·rw [if_pos h2,if_pos ⟨by rw [h2.1];exact List.mem_cons_self,h2.2⟩]
   ·rw [if_neg h2,if_neg]
    rintro ⟨h3,h4⟩;rcases List.mem_cons.1 h3 with h3|h3
    ·exact h2 ⟨h3,h4⟩
    ·exact h1 ⟨h3,h4⟩
theorem ZmT {q:Int} (h:(n.peer q).isSome=true):q∈n.mem:=by
 obtain ⟨x,hx⟩:=Option.isSome_iff_exists.1 h;unfold Rn.peer at hx;have:=ZbT hx;exact (Z4 _).mem_iff.2 (List.mem_map.2 ⟨_,this,rfl⟩)
theorem Znk (hN:NI C E G n F) (gr:gOk C.g0) (o:Zji n) (hl:n.log.last<1000000) (ha:RnA n) (hr:n.e.role=3) {b:Int} (hby:Zx [b])
  (hpk:∀ q,(n.peer q).isSome=true↔q∈n.g.vs++n.g.ls/\q≠n.id) (hg:ZoU n PG) (hmt:∀ q x,n.peer q=some x->x.mt<=n.log.last):
  ∃ n1 new,(n.propose [b]).1=(n.log.last + 1,0)/\LR n1 (n.propose [b]).2 new 0/\(∀ q,n1.peer q=n.peer q)/\n1.log.l=n.log.l++[⟨n.log.last + 1,n.e.hd.tm,1,[b]⟩]/\n1.log.b=n.log.b/\n1.log.com=n.log.com/\
   n1.e.role=3/\n1.e.hd=n.e.hd/\n1.rms=n.rms/\n1.g=n.g/\n1.id=n.id/\Zji n1/\ZoU (n.propose [b]).2 PS/\(n.propose [b]).2.mid<=(n.propose [b]).2.log.com/\n1.pot<=n.pot + 30/\n1.log.last=n.log.last + 1:=by
 have hc0:=hN.c0;have hlast:=hN.fl.last;obtain ⟨e,he⟩:∃ e:Ey,e=⟨n.log.last + 1,n.e.hd.tm,1,[b]⟩:=⟨_,rfl⟩;have htl:n.log.tail.tm<=n.e.hd.tm:=by
  rw [hN.fl.tail];by_cases h0:F=[]
  ·rw [h0];exact hN.t0
  ·have hp:=List.length_pos_iff.2 h0
   have hk:=List.getElem?_eq_getElem (l:=F) (i:=F.length - 1) (by omega);have h1:=Zbu hk;rw [show F.length - 1 + 1=F.length by omega,List.take_length] at h1;rw [h1];exact hN.A.le _ _ hk
 have hadd:n.log.add [e]=(0,{ n.log with l:=n.log.l++[e] }):=by
  have hodd:oddE e=false:=by
   have t0:=ha.b.e.t0;have t1:=ha.b.e.t1;unfold oddE inIx;rw [he];dsimp only;rw [decide_eq_false (by omega:¬ n.log.last + 1<1),decide_eq_true (by omega:0<=n.log.last + 1/\n.log.last + 1<=1099511627776),decide_eq_true (⟨t0,t1⟩:0<=n.e.hd.tm/\n.e.hd.tm<=1099511627776)];rfl
  unfold Lg.add;rw [List.any_cons,hodd];rw [if_neg (by decide),if_pos];unfold folE;rw [if_neg (by rw [he];dsimp only;omega)];rfl
 have hfl:=hN.fl.add (l:=[e]) (by rw [hadd]);rw [hadd] at hfl;have hent:n.enter 1 [b]=((n.log.last + 1,0),Rn.fresh { n with log:={ n.log with l:=n.log.l++[e] } } (n.log.last + 1)):=by
  unfold Rn.enter;dsimp only;rw [<-he,hadd];rfl
 have hgrp:grp C.g0 (F++[e])=n.g:=by
  rw [ZgB,<-hN.g];show ZV n.g e=n.g;unfold ZV;rw [he];rfl
 obtain ⟨n2,hn2⟩:∃ n2:Rn,n2={ n with log:={ n.log with l:=n.log.l++[e] },rfr:=if n.rfr==0||decide (n.log.last + 1<n.rfr) then n.log.last + 1 else n.rfr }:=⟨_,rfl⟩
 have hfold:n2.foldG n2.log.l.length=n.g:=by
  rw [Zhx (g0:=C.g0) (F:=F++[e]) (by rw [hn2];exact hfl) (by rw [hn2];exact hN.sx) (by
   rw [hn2];dsimp only;rw [List.take_append_of_le_length (by rw [hN.sx];omega)];exact hN.sg),hgrp]
 obtain ⟨n1,hn1⟩:∃ n1,n1=Rn.fresh { n with log:={ n.log with l:=n.log.l++[e] } } (n.log.last + 1):=⟨_,rfl⟩;have e1:n1={ n2 with g:=n.g,e:=n.e.join n.g,ps:=some (n2.newPs n.g) }:=by
  rw [hn1];have h1:Rn.fresh { n with log:={ n.log with l:=n.log.l++[e] } } (n.log.last + 1)=n2.regroup:=by rw [hn2];rfl
  rw [h1];unfold Rn.regroup;dsimp only;rw [hfold];have h2:n2.e=n.e:=by rw [hn2]
  rw [h2,hr];rfl
 have hp1:∀ q,n1.peer q=n.peer q:=λ q=>by
  have h1:n1.peer q=ZB q (n2.newPs n.g):=by rw [e1];rfl
  have hid2:n2.id=n.id:=by rw [hn2]
  have hpn:∀ x,n.peer q=some x->n2.peerN q=x:=λ x hx=>by
   have h2:n2.peer q=some x:=by rw [hn2];exact hx
   unfold Rn.peerN;rw [h2];rfl
  rw [h1];unfold Rn.newPs;rw [ZiW,hid2];cases hq:n.peer q with
  |some x=>rw [if_pos ((hpk q).1 (by rw [hq];rfl)),hpn x hq]
  |none=>rw [if_neg (λ h=>by have:=(hpk q).2 h;rw [hq] at this;cases this)];rfl
 have hlog1:n1.log={ n.log with l:=n.log.l++[e] }:=by rw [e1,hn2]
 have hlast1:n1.log.last=n.log.last + 1:=by
  rw [hlog1];show n.log.b.ix + ((n.log.l++[e]).length:Int)=n.log.b.ix + (n.log.l.length:Int) + 1;rw [List.length_append];simp only [List.length_cons,List.length_nil];omega
 have hhd:n1.e.hd=n.e.hd:=by rw [e1];exact Zif _ _
 have hro:n1.e.role=3:=by rw [e1];exact (Zbf _ _).trans hr
 have o1:Zji n1:=⟨by rw [hlog1];exact o.b,by omega,λ z hz=>by
  rw [hlog1] at hz;rw [hhd];rcases List.mem_append.1 hz with hz|hz
  ·exact o.tm z hz
  ·rw [List.mem_singleton] at hz;subst hz;rw [he],by rw [e1,hn2];exact o.rs,by rw [hlog1];exact o.c0⟩
 have hra:RnA n1:=by
  have h1:=(ha.enter hr 1 hby).1;rw [hent] at h1;rw [hn1];exact h1
 have hprop:n.propose [b]=((n.log.last + 1,0),n1.advance.all):=by
  unfold Rn.propose;rw [hr,if_neg (by decide),if_neg (by show ¬ (1:Int)>4096;decide)];unfold Rn.lead;rw [hent,<-hn1];rfl
 have hg1:ZoU n1 PG:=λ q x hx=>by
  rw [hp1] at hx;obtain ⟨z1,z2⟩:=hg q x hx;exact ⟨z1,⟨z2.st,z2.wn,z2.n1,by have:=z2.nl;omega,z2.fl⟩⟩
 have hmid:n1.mid<=n1.log.last:=ZmS (by omega) λ q x hx=>by
  rw [hp1] at hx;have:=hmt q x hx;omega
 obtain ⟨new1,a1,a2,a3⟩:=ZfX o1 hra.memLen hmid;have o2:=o1.LR a1;have hg2:ZoU n1.advance PG:=λ q x hx=>by
  obtain ⟨z,z1,_⟩:=a1.same (ZbZ a2) hx;exact ⟨(hg1 q z z1).1,a1.keepG (ZbZ a2) hx (.inl rfl) λ x h=>(hg1 q x h).2⟩
 obtain ⟨new2,b1,b2,b3⟩:=Zm2 n1.advance.mem o2.b o2.l (λ q hq=>Zea hq) hg2;have b1:LR n1.advance n1.advance.all new2 0:=b1;rw [hprop];have hab:=a1.trans b1;refine ⟨n1,new1++new2,rfl,hab,hp1,by rw [hlog1,he],by rw [hlog1],by rw [hlog1],hro,hhd,by rw [e1,hn2],by rw [e1],by rw [e1,hn2],o1,λ q x hx=>?_,?_,?_,hlast1⟩
 ·obtain ⟨c1,c2,c3⟩:=b3 q x hx
  refine ⟨c1,c3 (.inl (ZmT ?_))⟩;rw [<-b1.isS];show (n1.advance.all.peer q).isSome=true;have hx:n1.advance.all.peer q=some x:=hx;rw [hx];rfl
 ·show n1.advance.all.mid<=n1.advance.all.log.com
  rw [hab.midE];exact Int.le_trans a3 b1.com
 ·have hgap:∀ r,n1.gap r<=n.gap r + 1:=λ r=>by
   unfold Rn.gap;rw [hp1];cases n.peer r with
   |none=>show (0:Int)<=0 + 1;decide
   |some x=>show n1.log.last + 1 - x.nx<=n.log.last + 1 - x.nx + 1;omega
  have h1:=ZiF hgap ids;have h2:(ids.length:Int)=15:=rfl;have h3:n1.log.com=n.log.com:=by rw [hlog1]
  unfold Rn.pot;omega
end
section
open Go Go.VC Tryz
open Go.Rf
variable {n n' n'':Rn} {new new':List Mg} {c c':Int} {C:Ct} {E:Nat} {G:Gh} {F:List Ey}
structure FN (n:Rn):Prop where
 ro:n.e.role=0
 tm:n.e.hd.tm=1
 b:n.log.b.ix=0
theorem Zhy (hid:n.e.id=n.id) (f:FN n) {m:Mg} (hk:m.kd=5\/m.kd=7) (ht:m.tm=1) (hto:m.to'=n.id) (hf1:1<=m.fr) (hf2:m.fr<=15) (hf3:m.fr≠n.id):
  ∃ n1,n1={ n with e:={ n.e with role:=0,lead:=m.fr,wait:=0 },ps:=none,rs:=[] }/\
   n.step m=if m.kd==5 then n1.app m else if m.kd==7 then (n1.commit (min m.com n1.log.last)).put { kd:=8,to':=m.fr,yes:=true,rnd:=m.rnd,ix:=n1.log.last } else if m.kd==9 then n1.install m else n1:=by
 have h1:n.hears m=true:=by
  unfold Rn.hears Z3;rw [hto,ht,bne_self_eq_false,decide_eq_true (⟨hf1,hf2⟩:1<=m.fr/\m.fr<=15),beq_eq_false_iff_ne.2 hf3];rfl
 have h2:n.e.heardOk m.fr m.tm=true:=by
  unfold Eln.heardOk Eln.other;rw [ht,f.tm,f.ro,hid,decide_eq_true (⟨hf1,hf2⟩:1<=m.fr/\m.fr<=15),bne_iff_ne.2 hf3];rfl
 have h3:n.e.heard m.fr m.tm={ n.e with role:=0,lead:=m.fr,wait:=0 }:=by
  unfold Eln.heard;rw [if_pos h2,if_neg (by rw [ht,f.tm];decide)]
 refine ⟨_,rfl,?_⟩;unfold Rn.step;rw [h1,if_neg (by decide),if_neg (by rcases hk with hk|hk<;>rw [hk]<;>decide),if_pos (by rcases hk with hk|hk<;>rw [hk]<;>decide)];unfold Rn.asked;rw [if_neg (by rw [ht,f.tm];decide),h2,if_neg (by decide),h3,ZgT (by show (0:Int)≠3;decide)]
theorem fol5 (hN:NI C E G n F) (X:Zal C.g0 E G) (f:FN n) {m:Mg} (hk:m.kd=5) (ht:m.tm=1) (hto:m.to'=n.id) (hf1:1<=m.fr) (hf2:m.fr<=15) (hf3:m.fr≠n.id)
  (hm:ZqH G m) (hix:m.ix=n.log.last) (hes:m.es≠[]):
  FN (n.step m)/\(n.step m).log.last=m.till/\(n.step m).rms=n.rms++[{ kd:=6,to':=m.fr,ix:=m.till,yes:=true,fr:=n.id,tm:=1 }]:=by
 obtain ⟨n1,hn1,e1⟩:=Zhy hN.id f (.inl hk) ht hto hf1 hf2 hf3;rw [e1,if_pos (by rw [hk];decide)];have hlast:=hN.fl.last;have hc0:=hN.c0;have hel:=hm.el;have hlen:=hm.len;have hes2:=hm.es;have hlt:=hm.lt;have hi0:=hm.i0;rw [ht] at hel hlen hes2 hlt;have hpos:=List.length_pos_iff.2 hes;have hj:m.ix.toNat + m.es.length=(m.till).toNat:=by unfold Mg.till;omega
 have hF:F=(G.h.ll 1).take F.length:=by
  by_cases h0:F=[]
  ·rw [h0];rfl
  ·have hp:=List.length_pos_iff.2 h0
   have hk:=List.getElem?_eq_getElem (l:=F) (i:=F.length - 1) (by omega);obtain ⟨g1,g2⟩:=hN.A.good _ _ hk;have h1:=hN.A.le _ _ hk;have h2:=X.I.pos _ g1;rw [f.tm] at h1;have h3:F[F.length - 1].tm=1:=by omega
   rw [h3,show F.length - 1 + 1=F.length by omega,List.take_length] at g2;exact g2
 have hixF:m.ix.toNat=F.length:=by omega
 have hcomF:F.take n.log.com.toNat=(G.h.ll 1).take n.log.com.toNat:=by
  have h1:F.take n.log.com.toNat=((G.h.ll 1).take F.length).take n.log.com.toNat:=by rw [<-hF]
  rw [h1,List.take_take,Nat.min_eq_left (by omega)]
 have hfo:=hN.fl.merge hN.A.good (X.I.ok.good _ hel) hi0 hlen hes2 hlt ⟨by omega,hcomF⟩;have hOk:OkE m.es m.ix m.lt:=by
  have h1:=X.oe _ hel;have h2:OkE ((G.h.ll 1).take m.ix.toNat) 0 0:=OkE.left (b:=⟨0,0,0,[]⟩) (m:=(G.h.ll 1).drop m.ix.toNat) (by rw [List.take_append_drop];exact h1);have h3:=OkE.right (b:=⟨0,0,0,[]⟩) (l:=(G.h.ll 1).take m.ix.toNat) (m:=(G.h.ll 1).drop m.ix.toNat) (by rw [List.take_append_drop];exact h1);obtain ⟨q1,q2⟩:=OkE.lastE0 h2;rw [q1,q2,hlt,List.length_take,Nat.min_eq_left (by omega),Int.toNat_of_nonneg hi0] at h3;rw [<-hes2];refine OkE.left (b:=⟨m.ix,m.lt,0,[]⟩) (m:=((G.h.ll 1).drop m.ix.toNat).drop m.es.length) ?_;rw [List.take_append_drop];exact h3
 have hno:(n.log.merge m.ix m.lt m.es).1.2=0:=by
  obtain ⟨o1,o2⟩:=hOk.fol;unfold Lg.merge;rw [o1,o2,if_neg (by decide),if_neg (by rw [f.b];omega)];unfold Lg.mergeAt;have hh:n.log.has m.ix=true:=hN.fl.has.2 ⟨by omega,by omega⟩;have hul:n.log.unlike ⟨m.ix,m.lt,0,[]⟩=false:=by
   have h2:(n.log.term m.ix).2=true:=by unfold Lg.term;rw [if_pos hh]
   have h3:=(hN.fl.term h2).2.2;unfold Lg.unlike;dsimp only;rw [h2,h3,hixF,List.take_length];have h4:ltm F=m.lt:=by
    rw [<-hlt,hixF]
    conv=>lhs;rw [hF]
   rw [h4,beq_self_eq_true];rfl
  rw [hul,if_neg (by decide)];split
  ·rfl
  ·rename_i k hfk
   obtain ⟨hkl,_,_⟩:=List.findIdx?_eq_some_iff_getElem.1 hfk;have hix2:=hOk.ix k hkl;have hd:(m.es.getD k ⟨0,0,0,[]⟩).ix=m.ix + 1 + k:=by rw [List.getD_eq_getElem?_getD,List.getElem?_eq_getElem hkl];exact hix2
   dsimp only;rw [hd,if_neg (by omega)]
 have hM:Zm4 n.log F (G.h.ll 1) (m.ix.toNat + m.es.length) (n.log.merge m.ix m.lt m.es):=by
  rcases hfo with ⟨h1,_⟩|⟨_,_,h3,_⟩|h4
  ·exact absurd hno h1
  ·omega
  ·exact h4
 have a0:=hM.at0;rw [f.b] at a0;have hlg:n1.log=n.log:=by rw [hn1]
 unfold Rn.app;rw [hlg];dsimp only;rw [if_pos (by rw [hno];decide),if_pos a0];obtain ⟨n2,hn2⟩:∃ n2,n2=Rn.fresh { n1 with log:=(n.log.merge m.ix m.lt m.es).2 } (n.log.merge m.ix m.lt m.es).1.1:=⟨_,rfl⟩;rw [<-hn2];have d1:n2.e.role=0:=by
  rw [hn2];refine (Zbf _ _).trans ?_;rw [hn1]
 have d2:n2.e.hd.tm=1:=by
  rw [hn2];show (Eln.join _ _).hd.tm=1;rw [Zif,hn1];exact f.tm
 have d3:n2.log=(n.log.merge m.ix m.lt m.es).2:=by rw [hn2];rfl
 have d4:n2.rms=n.rms:=by rw [hn2];show n1.rms=_;rw [hn1]
 have d5:n2.id=n.id:=by rw [hn2];show n1.id=_;rw [hn1]
 obtain ⟨c1,c2⟩:=Za4 n2 (min m.com (m.ix + m.es.length));have c3:=ZbK n2 (min m.com (m.ix + m.es.length));have c4:(n2.commit (min m.com (m.ix + m.es.length))).log.b=n2.log.b/\(n2.commit (min m.com (m.ix + m.es.length))).log.l=n2.log.l:=by
  unfold Rn.commit;split
  ·dsimp only
   unfold Lg.commit;split<;>exact ⟨rfl,rfl⟩
  ·exact ⟨rfl,rfl⟩
 have hlast2:(n.log.merge m.ix m.lt m.es).2.last=m.till:=by
  rw [hM.fl.last,List.length_take,hj];have:m.till=((m.till).toNat:Int):=by unfold Mg.till;omega
  rw [<-hj] at this ⊢;omega
 refine ⟨⟨?_,?_,?_⟩,?_,?_⟩
 ·show (n2.commit _).e.role=0
  rw [c1];exact d1
 ·show (n2.commit _).e.hd.tm=1
  rw [c1];exact d2
 ·show (n2.commit _).log.b.ix=0
  rw [c4.1,d3,hM.b];exact f.b
 ·show (n2.commit _).log.last=m.till
  unfold Lg.last;rw [c4.1,c4.2,d3];exact hlast2
 ·show (n2.commit _).rms++[_]=_
  rw [c1,c2,c3,d4,d5,d2];rfl
theorem Znw {a b:Lg} (h1:a.b=b.b) (h2:a.l=b.l):a.last=b.last:=by
 unfold Lg.last;rw [h1,h2]
theorem fol7 (hN:NI C E G n F) (f:FN n) {m:Mg} (hk:m.kd=7) (ht:m.tm=1) (hto:m.to'=n.id) (hf1:1<=m.fr) (hf2:m.fr<=15) (hf3:m.fr≠n.id):
  FN (n.step m)/\(n.step m).log.last=n.log.last/\(∃ a:Mg,(n.step m).rms=n.rms++[a]/\a.kd=8/\a.to'=m.fr/\a.fr=n.id/\a.tm=1)/\n.log.com<=(n.step m).log.com/\min m.com n.log.last<=(n.step m).log.com:=by
 obtain ⟨n1,hn1,e1⟩:=Zhy hN.id f (.inr hk) ht hto hf1 hf2 hf3;rw [e1,if_neg (by rw [hk];decide),if_pos (by rw [hk];decide)];have hlg:n1.log=n.log:=by rw [hn1]
 have hc0:=hN.c0;have hlast:=hN.fl.last;rw [hlg];obtain ⟨c1,c2⟩:=Za4 n1 (min m.com n.log.last);have c3:=ZbK n1 (min m.com n.log.last);have c4:(n1.commit (min m.com n.log.last)).log.b=n.log.b/\(n1.commit (min m.com n.log.last)).log.l=n.log.l/\n.log.com<=(n1.commit (min m.com n.log.last)).log.com/\min m.com n.log.last<=(n1.commit (min m.com n.log.last)).log.com:=by
  unfold Rn.commit;split
  ·rename_i h1
   rw [hlg] at h1;dsimp only;rw [hlg];unfold Lg.commit;rw [if_neg (by omega)];exact ⟨rfl,rfl,by dsimp only;omega,Int.le_refl _⟩
  ·rename_i h1
   rw [hlg] at h1 ⊢;exact ⟨rfl,rfl,Int.le_refl _,by omega⟩
 have d1:n1.e.role=0:=by rw [hn1]
 have d2:n1.e.hd.tm=1:=by rw [hn1];exact f.tm
 have d3:n1.rms=n.rms:=by rw [hn1]
 have d4:n1.id=n.id:=by rw [hn1]
 refine ⟨⟨?_,?_,?_⟩,?_,⟨{ kd:=8,to':=m.fr,yes:=true,rnd:=m.rnd,ix:=n.log.last,fr:=(n1.commit (min m.com n.log.last)).id,tm:=(n1.commit (min m.com n.log.last)).e.hd.tm },?_,rfl,rfl,?_,?_⟩,?_,?_⟩
 ·show (n1.commit _).e.role=0
  rw [c1];exact d1
 ·show (n1.commit _).e.hd.tm=1
  rw [c1];exact d2
 ·show (n1.commit _).log.b.ix=0
  rw [c4.1];exact f.b
 ·exact Znw c4.1 c4.2.1
 ·show (n1.commit _).rms++[_]=_
  rw [c3,d3]
 ·show (n1.commit _).id=n.id
  rw [c2,d4]
 ·show (n1.commit _).e.hd.tm=1
  rw [c1,d2]
 ·exact c4.2.2.1
 ·exact c4.2.2.2
end
section
open Go Go.VC Tryz
open Go.Rf
variable {n n':Rn} {new:List Mg} {E:Nat} {G:Gh} {W W':Wd} {v k i j:Nat} {Lk:List Ey} {Ψ:Int} {g0:Gp}
def evM (i:Nat):Ev:=⟨1,0,i,0⟩
theorem Zgn (h:Zas g0 E G W (λ _=>True)) {x:Ev} (hj:j<W.ns.length) (hx:W.act x=some (W.put j n',j)):(W.play x).ns=W.ns.set j n'.out.2/\(W.play x).sent=W.sent++n'.rms:=by
 have hd:j<W.dk.length:=by rw [<-h.len];exact hj
 unfold Wd.play;rw [hx];dsimp only;unfold Wd.write;have h1:(W.put j n').ns[j]? =some n':=by
  show (W.ns.set j n')[j]? =_;rw [List.getElem?_set_self hj]
 have h2:(W.put j n').dk[j]? =some W.dk[j]:=List.getElem?_eq_getElem hd;rw [h1,h2];dsimp only;obtain ⟨l1,l2,l3,_⟩:=Zcf { W.put j n' with ns:=(W.put j n').ns.set j n'.out.2,dk:=(W.put j n').dk.set j (W.dk[j].write n'.out.1 n'.out.2),sent:=(W.put j n').sent++n'.out.1.ms,good:=(W.put j n').good && !Zb5 (W.put j n').ask n'.out.1.rd } j n'.out.2;refine ⟨l1.trans ?_,l3⟩;show (W.ns.set j n').set j n'.out.2=_;rw [List.set_set]
theorem ZlT (h:Zas g0 E G W (λ _=>True)) {m:Mg} (hi:W.sent[i]? =some m) (hto:m.to'=j + 1) (hn:W.ns[j]? =some n):W.act (evM i)=some (W.put j (n.step m),j):=by
 have hpos:0<W.ns.length:=h.nl.1;have h0:W.ns[W.who 0]? =some (W.ns[0]'hpos):=by
  have:W.who 0=0:=by unfold Wd.who;simp
  rw [this,List.getElem?_eq_getElem]
 unfold Wd.act evM;dsimp only;rw [h0];dsimp only;rw [if_neg (by decide),if_pos (by decide),if_neg (by omega),Int.toNat_natCast,hi];dsimp only;rw [if_neg (by omega),show (m.to' - 1).toNat=j by omega,hn]
theorem ZiC (hk:k<W.ns.length):W.who k=k:=by
 unfold Wd.who;rw [Int.emod_eq_of_lt (by omega) (by omega)];exact Int.toNat_natCast k
theorem ZmJ (hk:k<W.ns.length) (hn:W.ns[k]? =some n):W.act ⟨0,k,0,0⟩=some (W.put k (n.tick 0),k):=by
 unfold Wd.act;dsimp only;rw [ZiC hk,hn];rfl
theorem Zjf (hk:k<W.ns.length) (hn:W.ns[k]? =some n) {b:Int} (h0:0<=b) (h1:b<256):W.act ⟨3,k,b,0⟩=some (W.put k (n.propose [b]).2,k):=by
 unfold Wd.act;dsimp only;rw [ZiC hk,hn,Int.emod_eq_of_lt h0 h1];rfl
structure PW (x:Pe) (m:Rn) (q:Int) (Q:List Mg):Prop where
 fl:x.fl=(ZcM q Q).map (·.ix)++(Zbz q Q).map Mg.till
 ap:Ch m.log.last (Zbz q Q) (x.nx - 1)
 ak:Up x.mt ((ZcM q Q).map (·.ix)) m.log.last
 m0:0<=x.mt
def QM (v k:Nat) (a:Mg):Prop:=a.tm=1/\(((a.kd=5\/a.kd=7)/\a.fr=k + 1/\(1<=a.to'/\a.to'<=v)/\a.to'≠k + 1)\/((a.kd=6/\a.yes=true\/a.kd=8)/\a.to'=k + 1/\(1<=a.fr/\a.fr<=v)/\a.fr≠k + 1))
def isO (a:Mg):Bool:=a.kd==5||a.kd==7
def c57 (Q:List Mg):Nat:=(Q.filter isO).length
structure LN (v k:Nat) (Lk:List Ey) (n:Rn):Prop where
 ro:n.e.role=3
 tm:n.e.hd.tm=1
 o:Zji n
 lk:n.log.l=Lk
 pk:∀ q,(n.peer q).isSome=true↔(1<=q/\q<=(v:Int))/\q≠(k:Int) + 1
 g:n.g=Zb6 v
 mid:n.mid<=n.log.com
 ps:ZoU n PS
theorem LN.out (h:LN v k Lk n):LN v k Lk n.out.2:=⟨h.ro,h.tm,⟨h.o.b,h.o.l,h.o.tm,h.o.rs,h.o.c0⟩,h.lk,h.pk,h.g,h.mid,λ q x hx=>by
 obtain ⟨a,b⟩:=h.ps q x hx;exact ⟨a,⟨⟨b.st,b.wn,b.n1,b.nl,b.fl⟩,b.full⟩⟩⟩
structure LP (v k:Nat) (Lk:List Ey) (Ψ:Int) (W:Wd) (i:Nat) (n:Rn):Prop where
 vk:k<v/\v<=7
 len:W.ns.length=v
 hn:W.ns[k]? =some n
 ln:LN v k Lk n
 fol:∀ j m,j≠k->W.ns[j]? =some m->FN m
 pw:∀ j m x,j≠k->W.ns[j]? =some m->n.peer ((j:Int) + 1)=some x->PW x m ((j:Int) + 1) (W.sent.drop i)
 ms:∀ a∈W.sent.drop i,QM v k a
 psi:(W.sent.length:Int) + c57 (W.sent.drop i) + 2 * n.pot<=Ψ
 il:i<=W.sent.length
def ZlZ (k:Nat) (L:Int) (W:Wd) (i:Nat):Prop:=∀ j m,j≠k->W.ns[j]? =some m->m.log.last=L/\(L<=m.log.com\/∃ a∈W.sent.drop i,a.kd=7/\a.to'=j + 1/\L<=a.com)
theorem ZgO {q:Int} {new:List Mg} (h:∀ a∈new,a.kd=5\/a.kd=7):ZcM q new=[]:=by
 unfold ZcM;rw [List.filter_eq_nil_iff];intro a ha;unfold isK;rcases h a ha with h|h<;>(rw [h];simp)
theorem ZlO {new:List Mg} (h:∀ a∈new,a.kd=5\/a.kd=7):c57 new=new.length:=by
 unfold c57;rw [List.filter_eq_self.2];intro a ha;unfold isO;rcases h a ha with h|h<;>(rw [h];simp)
theorem Zir (a b:List Mg):c57 (a++b)=c57 a + c57 b:=by
 unfold c57;rw [List.filter_append,List.length_append]
theorem ZgI (a:Mg) (Q:List Mg):c57 (a::Q)=(if isO a then 1 else 0) + c57 Q:=by
 unfold c57;rw [List.filter_cons];split
 ·rw [List.length_cons];omega
 ·omega
theorem Zad {q:Int} {a:Mg} {Q:List Mg} (h:a.kd≠5\/a.to'≠q):Zbz q (a::Q)=Zbz q Q:=by
 unfold Zbz;rw [List.filter_cons_of_neg];unfold isA;rw [Bool.and_eq_true,beq_iff_eq,beq_iff_eq];rintro ⟨h1,h2⟩;rcases h with h|h
 ·exact h h1
 ·exact h h2
theorem ZaD {q:Int} {a:Mg} {Q:List Mg} (h:a.kd≠6\/a.fr≠q):ZcM q (a::Q)=ZcM q Q:=by
 unfold ZcM;rw [List.filter_cons_of_neg];unfold isK;rw [Bool.and_eq_true,beq_iff_eq,beq_iff_eq];rintro ⟨h1,h2⟩;rcases h with h|h
 ·exact h h1
 ·exact h h2
theorem ZlR {q:Int} {a:Mg} {Q:List Mg} (h1:a.kd=5) (h2:a.to'=q):Zbz q (a::Q)=a::Zbz q Q:=by
 unfold Zbz;rw [List.filter_cons_of_pos];unfold isA;rw [h1,h2,beq_self_eq_true,beq_self_eq_true];rfl
theorem Ze7 {q:Int} {a:Mg} {Q:List Mg} (h1:a.kd=6) (h2:a.fr=q):ZcM q (a::Q)=a::ZcM q Q:=by
 unfold ZcM;rw [List.filter_cons_of_pos];unfold isK;rw [h1,h2,beq_self_eq_true,beq_self_eq_true];rfl
theorem LP.mts (h:LP v k Lk Ψ W i n):∀ q x,n.peer q=some x->x.mt<=n.log.last:=λ q x hx=>by
 obtain ⟨⟨h1,h2⟩,h3⟩:=(h.ln.pk q).1 (by rw [hx];rfl);obtain ⟨j,rfl⟩:∃ j:Nat,q=(j:Int) + 1:=⟨(q - 1).toNat,by omega⟩;have hj:j<W.ns.length:=by rw [h.len];omega
 have hp:=h.pw j _ x (by omega) (List.getElem?_eq_getElem hj) hx;have:=hp.ak.le;have:=hp.ap.le;have:=(h.ln.ps _ x hx).2.nl;omega
theorem LP.atF (h:LP v k Lk Ψ W i n) (hW:Zas (Zb6 v) E G W (λ _=>True)) {m:Mg} (hm:W.sent[i]? =some m) (hq:QM v k m) (hk:m.kd=5\/m.kd=7):
  ∃ n',LP v k Lk Ψ (W.play (evM i)) (i + 1) n'/\(ZlZ k Lk.length W i->ZlZ k Lk.length (W.play (evM i)) (i + 1)):=by
 obtain ⟨hv,hv7⟩:=h.vk;obtain ⟨htm,hq⟩:=hq;have hq:(m.kd=5\/m.kd=7)/\m.fr=k + 1/\(1<=m.to'/\m.to'<=v)/\m.to'≠k + 1:=by
  rcases hq with hq|⟨hq,_⟩
  ·exact hq
  ·rcases hk with hk|hk<;>rcases hq with hq|hq<;>omega
 obtain ⟨_,hfr,⟨ht1,ht2⟩,ht3⟩:=hq;obtain ⟨j,hj⟩:∃ j:Nat,m.to'=(j:Int) + 1:=⟨(m.to' - 1).toNat,by omega⟩;have hjl:j<W.ns.length:=by rw [h.len];omega
 have hjk:j≠k:=by omega
 have hnf:=List.getElem?_eq_getElem hjl;generalize W.ns[j]=nf at hnf;have f:=h.fol j nf hjk hnf;have a:=hW.nd j nf trivial hnf;obtain ⟨F,hN⟩:=a.i;have hmi:=hW.ms m (List.mem_of_getElem? hm);obtain ⟨p1,p2⟩:=Zgn hW hjl (ZlT hW hm hj hnf);have hil:=ZR hm;have hdrop:W.sent.drop i=m::W.sent.drop (i + 1):=by
  rw [List.drop_eq_getElem_cons hil]
  congr 1
  rw [List.getElem?_eq_getElem hil] at hm;exact Option.some.inj hm
 have hdrop2:(W.play (evM i)).sent.drop (i + 1)=W.sent.drop (i + 1)++(nf.step m).rms:=by
  rw [p2,List.drop_append_of_le_length (by omega)]
 have hx0:∃ x,n.peer ((j:Int) + 1)=some x:=Option.isSome_iff_exists.1 ((h.ln.pk _).2 ⟨⟨by omega,by omega⟩,by omega⟩);obtain ⟨x,hx⟩:=hx0;have hpw:=h.pw j nf x hjk hnf hx;have hps:=h.ln.ps _ x hx;have hlkl:n.log.last=(Lk.length:Int):=by
  unfold Lg.last;rw [h.ln.o.b,h.ln.lk];omega
 have hrms0:nf.rms=[]:=a.cl.ms
 -- what the node does
 have key:FN (nf.step m)/\(∃ r:Mg,(nf.step m).rms=[r]/\QM v k r/\isO r=false/\(∀ q',Zbz q' [r]=[])/\(∀ q',q'≠(j:Int) + 1->ZcM q' [r]=[])/\
   PW x (nf.step m) ((j:Int) + 1) (W.sent.drop (i + 1)++[r]))/\(nf.log.last=n.log.last->m.kd=7/\(nf.step m).log.last=nf.log.last/\nf.log.com<=(nf.step m).log.com/\min m.com nf.log.last<=(nf.step m).log.com):=by
  rcases hk with hk|hk
  ·have hap:Zbz ((j:Int) + 1) (W.sent.drop i)=m::Zbz ((j:Int) + 1) (W.sent.drop (i + 1)):=by rw [hdrop,ZlR hk hj]
   have hac:ZcM ((j:Int) + 1) (W.sent.drop i)=ZcM ((j:Int) + 1) (W.sent.drop (i + 1)):=by rw [hdrop,ZaD (.inl (by omega))]
   have hch:=hpw.ap;rw [hap] at hch;obtain ⟨c1,c2,c3⟩:=hch;obtain ⟨g1,g2,g3⟩:=fol5 hN hW.X f hk htm (by rw [a.id];exact hj) (by omega) (by omega) (by rw [a.id];omega) (hmi.m5 hk) c1 c2;rw [hrms0,List.nil_append] at g3;have htl:=Mg.till_lt c2;refine ⟨g1,⟨_,g3,⟨rfl,.inr ⟨.inl ⟨rfl,rfl⟩,hfr,⟨?_,?_⟩,?_⟩⟩,rfl,λ q'=>rfl,λ q' hq'=>?_,?_,?_,?_,hpw.m0⟩,λ hl=>?_⟩
   ·show 1<=nf.id;rw [a.id];omega
   ·show nf.id<=v;rw [a.id];omega
   ·show nf.id≠k + 1;rw [a.id];omega
   ·unfold ZcM
    rw [List.filter_cons_of_neg]
    ·rfl
    ·unfold isK
     dsimp only;rw [a.id,beq_eq_false_iff_ne.2 (Ne.symm hq'),Bool.and_false];decide
   ·rw [hpw.fl,hap,hac,Zaa,Zak,Ze7 (Q:=[]) (by rfl) (by exact a.id)]
    have e1:∀ r:Mg,r.kd=6->Zbz ((j:Int) + 1) [r]=[]:=λ r hr=>Zad (Q:=[]) (.inl (by omega));rw [e1 _ rfl];simp [ZcM]
   ·rw [g2,Zaa]
    have e1:∀ r:Mg,r.kd=6->Zbz ((j:Int) + 1) [r]=[]:=λ r hr=>Zad (Q:=[]) (.inl (by omega));rw [e1 _ rfl,List.append_nil];exact c3
   ·rw [g2,Zak,Ze7 (Q:=[]) (by rfl) (by exact a.id),List.map_append]
    have hak:=hpw.ak;rw [hac] at hak;refine hak.app ?_;exact ⟨by show nf.log.last<m.till;omega,rfl⟩
   ·have:=c3.le
    have:=hps.2.nl;omega
  ·obtain ⟨g1,g2,⟨r,g3,g4,g5,g6,g7⟩,g8,g9⟩:=fol7 hN f hk htm (by rw [a.id];exact hj) (by omega) (by omega) (by rw [a.id];omega)
   rw [hrms0,List.nil_append] at g3;have hap:Zbz ((j:Int) + 1) (W.sent.drop i)=Zbz ((j:Int) + 1) (W.sent.drop (i + 1)):=by rw [hdrop,Zad (.inl (by omega))]
   have hac:ZcM ((j:Int) + 1) (W.sent.drop i)=ZcM ((j:Int) + 1) (W.sent.drop (i + 1)):=by rw [hdrop,ZaD (.inl (by omega))]
   have e1:∀ q',Zbz q' [r]=[]:=λ q'=>Zad (Q:=[]) (.inl (by omega));have e2:∀ q',ZcM q' [r]=[]:=λ q'=>ZaD (Q:=[]) (.inl (by omega));refine ⟨g1,⟨r,g3,⟨g7,.inr ⟨.inr g4,g5.trans hfr,⟨by rw [g6,a.id];omega,by rw [g6,a.id];omega⟩,by rw [g6,a.id];omega⟩⟩,?_,e1,λ q' _=>e2 q',?_,?_,?_,hpw.m0⟩,λ hl=>⟨hk,g2,g8,g9⟩⟩
   ·unfold isO;rw [g4];rfl
   ·rw [hpw.fl,hap,hac,Zaa,Zak,e1,e2,List.append_nil,List.append_nil]
   ·rw [g2,Zaa,e1,List.append_nil,<-hap];exact hpw.ap
   ·rw [g2,Zak,e2,List.append_nil,<-hac];exact hpw.ak
 obtain ⟨key1,⟨r,k1,k2,k3,k4,k5,k6⟩,key3⟩:=key;rw [k1] at hdrop2 p2;have hO:isO m=true:=by unfold isO;rcases hk with hk|hk<;>rw [hk]<;>rfl
 refine ⟨n,⟨h.vk,?_,?_,h.ln,?_,?_,?_,?_,?_⟩,?_⟩
 ·rw [p1,List.length_set];exact h.len
 ·rw [p1,List.getElem?_set_ne hjk];exact h.hn
 ·intro j' m' hj' hm'
  rw [p1] at hm';by_cases h1:j=j'
  ·subst h1
   rw [List.getElem?_set_self hjl] at hm';have hm':=Option.some.inj hm';subst hm';exact ⟨key1.ro,key1.tm,key1.b⟩
  ·rw [List.getElem?_set_ne h1] at hm'
   exact h.fol j' m' hj' hm'
 ·intro j' m' x' hj' hm' hx'
  rw [p1] at hm';rw [hdrop2];by_cases h1:j=j'
  ·subst h1
   rw [List.getElem?_set_self hjl] at hm';have hm':=Option.some.inj hm';subst hm';rw [hx] at hx';have hx':=Option.some.inj hx';subst hx';exact ⟨k6.fl,k6.ap,k6.ak,k6.m0⟩
  ·rw [List.getElem?_set_ne h1] at hm'
   have hp:=h.pw j' m' x' hj' hm' hx';have hq':((j':Int) + 1)≠(j:Int) + 1:=by omega
   have hap:Zbz ((j':Int) + 1) (W.sent.drop i)=Zbz ((j':Int) + 1) (W.sent.drop (i + 1)):=by rw [hdrop,Zad (.inr (by omega))]
   have hac:ZcM ((j':Int) + 1) (W.sent.drop i)=ZcM ((j':Int) + 1) (W.sent.drop (i + 1)):=by rw [hdrop,ZaD (.inl (by omega))]
   exact ⟨by rw [hp.fl,hap,hac,Zaa,Zak,k4,k5 _ hq',List.append_nil,List.append_nil],by rw [Zaa,k4,List.append_nil,<-hap];exact hp.ap,by rw [Zak,k5 _ hq',List.append_nil,<-hac];exact hp.ak,hp.m0⟩
 ·intro b hb
  rw [hdrop2] at hb;rcases List.mem_append.1 hb with hb|hb
  ·exact h.ms b (by rw [hdrop];exact List.mem_cons_of_mem _ hb)
  ·rw [List.mem_singleton] at hb;subst hb;exact k2
 ·have hpsi:=h.psi
  rw [hdrop,ZgI,hO,if_pos rfl] at hpsi;rw [hdrop2,p2,Zir,ZgI,k3,if_neg (by decide),List.length_append];have:c57 []=0:=rfl;simp only [List.length_cons,List.length_nil];omega
 ·rw [p2,List.length_append];omega
 ·intro hT j' m' hj' hm'
  rw [p1] at hm';rw [hdrop2];by_cases h1:j=j'
  ·subst h1
   rw [List.getElem?_set_self hjl] at hm';have hm':=Option.some.inj hm';subst hm';obtain ⟨t1,t2⟩:=hT j nf hjk hnf;obtain ⟨s1,s2,s3,s4⟩:=key3 (by rw [t1,hlkl]);refine ⟨by show (nf.step m).log.last=_;rw [s2];exact t1,?_⟩;show (Lk.length:Int)<=(nf.step m).log.com\/_;rcases t2 with t2|⟨b,b1,b2,b3,b4⟩
   ·exact .inl (by omega)
   ·rw [hdrop] at b1
    rcases List.mem_cons.1 b1 with rfl|b1
    ·exact .inl (by omega)
    ·exact .inr ⟨b,List.mem_append_left _ b1,b2,b3,b4⟩
  ·rw [List.getElem?_set_ne h1] at hm'
   obtain ⟨t1,t2⟩:=hT j' m' hj' hm';refine ⟨t1,?_⟩;rcases t2 with t2|⟨b,b1,b2,b3,b4⟩
   ·exact .inl t2
   ·rw [hdrop] at b1
    rcases List.mem_cons.1 b1 with rfl|b1
    ·omega
    ·exact .inr ⟨b,List.mem_append_left _ b1,b2,b3,b4⟩
end
section
open Go Go.VC Tryz
open Go.Rf
variable {n n':Rn} {new:List Mg} {E:Nat} {G:Gh} {W W':Wd} {v k i j:Nat} {Lk:List Ey} {Ψ:Int} {g0:Gp}
theorem LN.LR (h:LN v k Lk n) {n1:Rn} (f1:n1.e=n.e/\n1.id=n.id/\n1.g=n.g/\n1.log=n.log/\n1.rs=n.rs) (f2:∀ q,(n1.peer q).isSome=(n.peer q).isSome) {c:Int} (r:LR n1 n' new c) (hm:n'.mid<=n'.log.com) (hp:ZoU n' PS):LN v k Lk n':=by
 obtain ⟨a1,a2,a3,a4,a5⟩:=f1;have o1:Zji n1:=⟨by rw [a4];exact h.o.b,by rw [a4];exact h.o.l,by rw [a4,a1];exact h.o.tm,by rw [a5];exact h.o.rs,by rw [a4];exact h.o.c0⟩;obtain ⟨g1,g2,g3,g4,g5,g6,g7,g8,g9⟩:=r.fix;exact ⟨by rw [g1,a1];exact h.ro,by rw [g1,a1];exact h.tm,o1.LR r,by rw [g5,a4];exact h.lk,λ q=>by rw [r.isS,f2];exact h.pk q,by rw [g3,a3];exact h.g,hm,hp⟩
theorem LP.atL (h:LP v k Lk Ψ W i n) (hW:Zas (Zb6 v) E G W (λ _=>True)) {m:Mg} (hm:W.sent[i]? =some m) (hq:QM v k m) (hk:m.kd=6\/m.kd=8):
  ∃ n',LP v k Lk Ψ (W.play (evM i)) (i + 1) n'/\(ZlZ k Lk.length W i->ZlZ k Lk.length (W.play (evM i)) (i + 1)):=by
 obtain ⟨hv,hv7⟩:=h.vk;obtain ⟨htm,hq⟩:=hq;have hq:(m.kd=6/\m.yes=true\/m.kd=8)/\m.to'=k + 1/\(1<=m.fr/\m.fr<=v)/\m.fr≠k + 1:=by
  rcases hq with ⟨hq,_⟩|hq
  ·rcases hk with hk|hk<;>rcases hq with hq|hq<;>omega
  ·exact hq
 obtain ⟨hky,hto,⟨ht1,ht2⟩,ht3⟩:=hq;obtain ⟨j,hj⟩:∃ j:Nat,m.fr=(j:Int) + 1:=⟨(m.fr - 1).toNat,by omega⟩;have hjl:j<W.ns.length:=by rw [h.len];omega
 have hjk:j≠k:=by omega
 have hkl:k<W.ns.length:=by rw [h.len];omega
 have hnf:=List.getElem?_eq_getElem hjl;generalize W.ns[j]=nf at hnf;have a:=hW.nd k n trivial h.hn;obtain ⟨F,hN⟩:=a.i;obtain ⟨p1,p2⟩:=Zgn hW hkl (ZlT hW hm hto h.hn);have hil:=ZR hm;have hdrop:W.sent.drop i=m::W.sent.drop (i + 1):=by
  rw [List.drop_eq_getElem_cons hil]
  congr 1
  rw [List.getElem?_eq_getElem hil] at hm;exact Option.some.inj hm
 have hdrop2:(W.play (evM i)).sent.drop (i + 1)=W.sent.drop (i + 1)++(n.step m).rms:=by
  rw [p2,List.drop_append_of_le_length (by omega)]
 obtain ⟨x,hx⟩:∃ x,n.peer ((j:Int) + 1)=some x:=Option.isSome_iff_exists.1 ((h.ln.pk _).2 ⟨⟨by omega,by omega⟩,by omega⟩);have hpw:=h.pw j nf x hjk hnf hx;obtain ⟨hqi,hps⟩:=h.ln.ps _ x hx;have hrms0:n.rms=[]:=a.cl.ms;have hst:n.step m=n.said m:=by
  have h1:n.hears m=true:=by
   unfold Rn.hears Z3;rw [hto,a.id,htm,bne_self_eq_false,decide_eq_true (⟨by omega,by omega⟩:1<=m.fr/\m.fr<=15),beq_eq_false_iff_ne.2 ht3];rfl
  unfold Rn.step;rw [h1,if_neg (by decide),if_neg (by rcases hk with hk|hk<;>rw [hk]<;>decide),if_neg (by rcases hk with hk|hk<;>rw [hk]<;>decide),if_pos (by rcases hk with hk|hk<;>rw [hk]<;>decide)]
 have htn:m.tm=n.e.hd.tm:=by rw [htm,h.ln.tm]
 rw [<-hj] at hx hqi
 -- what the leader does
 have key:∃ new,(n.said m).rms=new/\(∀ b∈new,(b.kd=5\/b.kd=7)/\b.fr=n.id/\b.tm=n.e.hd.tm/\(n.peer b.to').isSome=true)/\(∀ b∈new,b.kd=5->b.to'=m.fr)/\LN v k Lk (n.said m)/\(n.said m).pot + new.length<=n.pot/\
   (∀ q',q'≠m.fr->∀ x',(n.said m).peer q'=some x'->∃ z,n.peer q'=some z/\x'.mt=z.mt/\x'.nx=z.nx/\x'.fl=z.fl)/\(∀ x',(n.said m).peer m.fr=some x'->PW x' nf m.fr (W.sent.drop (i + 1)++new)):=by
  rcases hk with hk|hk
  ·have hy:m.yes=true:=by
    rcases hky with h1|h1
    ·exact h1.2
    ·omega
   have hap:Zbz m.fr (W.sent.drop i)=Zbz m.fr (W.sent.drop (i + 1)):=by rw [hdrop,Zad (.inl (by omega))]
   have hac:ZcM m.fr (W.sent.drop i)=m::ZcM m.fr (W.sent.drop (i + 1)):=by rw [hdrop,Ze7 hk rfl]
   rw [<-hj] at hpw;have hfl:=hpw.fl;have hak:=hpw.ak;have hapc:=hpw.ap;rw [hac,List.map_cons] at hak;rw [hap,hac,List.map_cons,List.cons_append] at hfl;rw [hap] at hapc;obtain ⟨k1,k2⟩:=hak;have hale:=k2.le;have haple:=hapc.le;have hrest:∀ z∈(ZcM m.fr (W.sent.drop (i + 1))).map (·.ix)++(Zbz m.fr (W.sent.drop (i + 1))).map Mg.till,m.ix<z:=λ z hz=>by
    rcases List.mem_append.1 hz with hz|hz
    ·exact k2.all z hz
    ·have:=hapc.up.all z hz;omega
   obtain ⟨new,x1,hx1,r1,r2,r3,x',r4,r5⟩:=Zre h.ln.o a.a.memLen hx hqi hps.toPG hk htn hy hfl k1 hpw.m0 hrest (by omega) h.mts;have hp1:∀ q',(n.setP m.fr x1).peer q'=if q'=m.fr then some x1 else n.peer q':=λ q'=>Zca (by rw [hx];rfl)
   have hs1:∀ q',((n.setP m.fr x1).peer q').isSome=(n.peer q').isSome:=λ q'=>by
    rw [hp1];by_cases h1:q'=m.fr
    ·rw [if_pos h1,h1,hx];rfl
    ·rw [if_neg h1]
   have hno:∀ q',q'≠m.fr->Zbz q' new=[]:=λ q' hq'=>by
    unfold Zbz;rw [List.filter_eq_nil_iff];intro b hb;unfold isA;rw [Bool.and_eq_true,beq_iff_eq,beq_iff_eq];rintro ⟨h1,h2⟩;exact hq' (h2.symm.trans (r2 b hb h1))
   have hoth:∀ q',q'≠m.fr->∀ x',(n.said m).peer q'=some x'->∃ z,n.peer q'=some z/\x'.st=z.st/\x'.wn=z.wn/\x'.mt=z.mt/\x'.nx=z.nx/\x'.fl=z.fl:=λ q' hq' x' hx'=>by
    obtain ⟨z,z1,z2⟩:=r1.same (hno q' hq') hx';rw [hp1,if_neg hq'] at z1;exact ⟨z,z1,z2⟩
   refine ⟨new,by rw [r1.ms];show n.rms++new=new;rw [hrms0];rfl,λ b hb=>?_,r2,?_,?_,λ q' hq' x' hx'=>?_,λ z hz=>?_⟩
   ·obtain ⟨b1,b2,b3,b4⟩:=r1.nw b hb
    exact ⟨b1,b2,b3,by rw [<-hs1];exact b4⟩
   ·refine h.ln.LR (n1:=n.setP m.fr x1) ⟨rfl,rfl,rfl,rfl,rfl⟩ hs1 r1 r3 λ q' x'' hx''=>?_
    by_cases h1:q'=m.fr
    ·subst h1
     rw [r4] at hx'';have hx'':=Option.some.inj hx'';subst hx'';exact ⟨hqi,r5⟩
    ·obtain ⟨z,z1,z2,z3,z4,z5,z6⟩:=hoth q' h1 x'' hx''
     obtain ⟨y1,y2⟩:=h.ln.ps q' z z1;have hl:=r1.fix.2.2.2.2.2.2.2.1;have hl:(n.said m).log.last=n.log.last:=hl;exact ⟨y1,⟨⟨z2.trans y2.st,z3.trans y2.wn,by rw [z5];exact y2.n1,by rw [z5,hl];exact y2.nl,by rw [z6];exact y2.fl⟩,λ h=>by rw [z6] at h;rw [z5,hl];exact y2.full h⟩⟩
   ·have h1:=r1.pot
    rw [Zl8 hx (by rw [hx1])] at h1;omega
   ·obtain ⟨z,z1,_,_,z4⟩:=hoth q' hq' x' hx'
    exact ⟨z,z1,z4⟩
   ·rw [r4] at hz
    have hz:=Option.some.inj hz;subst hz;obtain ⟨y,y1,y2,y3,y4,y5,y6⟩:=r1.pe m.fr x1 (by rw [hp1,if_pos rfl]);rw [r4] at y1;have y1:=Option.some.inj y1;subst y1;have hnk:=ZgO (q:=m.fr) (λ b hb=>(r1.nw b hb).1);rw [hx1] at y4 y5 y6;refine ⟨?_,?_,?_,?_⟩
    ·rw [y6,Zaa,Zak,hnk,List.append_nil,List.map_append,List.append_assoc]
    ·rw [Zaa];exact hapc.app y5
    ·rw [Zak,hnk,List.append_nil,y4];exact k2
    ·rw [y4]
     have:=hpw.m0;dsimp only;omega
  ·have hap:Zbz m.fr (W.sent.drop i)=Zbz m.fr (W.sent.drop (i + 1)):=by rw [hdrop,Zad (.inl (by omega))]
   have hac:ZcM m.fr (W.sent.drop i)=ZcM m.fr (W.sent.drop (i + 1)):=by rw [hdrop,ZaD (.inl (by omega))]
   rw [<-hj] at hpw;obtain ⟨new,r1,r2,x',r4,r5⟩:=Zrd h.ln.o hx hqi hps hk htn;refine ⟨new,by rw [r1.ms];show n.rms++new=new;rw [hrms0];rfl,r1.nw,λ b hb _=>(r2 b hb).2,?_,(by have:=r1.pot;omega),λ q' hq' x' hx'=>?_,λ z hz=>?_⟩
   ·refine h.ln.LR (n1:=n) ⟨rfl,rfl,rfl,rfl,rfl⟩ (λ _=>rfl) r1 (by rw [r1.midE];exact Int.le_trans h.ln.mid r1.com) λ q' x'' hx''=>?_
    by_cases h1:q'=m.fr
    ·subst h1
     rw [r4] at hx'';have hx'':=Option.some.inj hx'';subst hx'';exact ⟨hqi,r5⟩
    ·obtain ⟨z,z1,_⟩:=r1.same (ZgM r2 h1) hx''
     exact ⟨(h.ln.ps q' z z1).1,r1.keepG (ZgM r2 h1) hx'' (.inr rfl) λ x h2=>(h.ln.ps q' x h2).2⟩
   ·obtain ⟨z,z1,_,_,z4⟩:=r1.same (ZgM r2 hq') hx'
    exact ⟨z,z1,z4⟩
   ·rw [r4] at hz
    have hz:=Option.some.inj hz;subst hz;obtain ⟨y,y1,y2,y3,y4,y5,y6⟩:=r1.pe m.fr x hx;rw [r4] at y1;have y1:=Option.some.inj y1;subst y1;have hnk:=ZgO (q:=m.fr) (λ b hb=>(r1.nw b hb).1);refine ⟨?_,?_,?_,?_⟩
    ·rw [y6,Zaa,Zak,hnk,List.append_nil,List.map_append,<-List.append_assoc,hpw.fl,hap,hac]
    ·rw [Zaa,<-hap];exact hpw.ap.app y5
    ·rw [Zak,hnk,List.append_nil,y4,<-hac];exact hpw.ak
    ·rw [y4];exact hpw.m0
 obtain ⟨new,s2,s3,s4,s5,s6,s7,s8⟩:=key;rw [hst] at p1 p2 hdrop2;rw [s2] at p2 hdrop2;have hO:isO m=false:=by unfold isO;rcases hk with hk|hk<;>rw [hk]<;>rfl
 have hnk:∀ q,ZcM q new=[]:=λ q=>ZgO λ b hb=>(s3 b hb).1;refine ⟨(n.said m).out.2,⟨h.vk,?_,?_,s5.out,?_,?_,?_,?_,?_⟩,?_⟩
 ·rw [p1,List.length_set];exact h.len
 ·rw [p1,List.getElem?_set_self hkl]
 ·intro j' m' hj' hm'
  rw [p1,List.getElem?_set_ne (Ne.symm hj')] at hm';exact h.fol j' m' hj' hm'
 ·intro j' m' x' hj' hm' hx'
  rw [p1,List.getElem?_set_ne (Ne.symm hj')] at hm';rw [hdrop2];have hx':(n.said m).peer ((j':Int) + 1)=some x':=hx';by_cases h1:j'=j
  ·subst h1
   rw [hnf] at hm';have hm':=Option.some.inj hm';subst hm';rw [<-hj] at hx' ⊢;exact s8 x' hx'
  ·have hne:((j':Int) + 1)≠m.fr:=by omega
   obtain ⟨z,z1,z2,z3,z4⟩:=s7 _ hne x' hx';have hp:=h.pw j' m' z hj' hm' z1;have hap:Zbz ((j':Int) + 1) (W.sent.drop i)=Zbz ((j':Int) + 1) (W.sent.drop (i + 1)):=by rw [hdrop,Zad (.inl (by omega))]
   have hac:ZcM ((j':Int) + 1) (W.sent.drop i)=ZcM ((j':Int) + 1) (W.sent.drop (i + 1)):=by rw [hdrop,ZaD (.inr (by omega))]
   have hno:Zbz ((j':Int) + 1) new=[]:=by
    unfold Zbz;rw [List.filter_eq_nil_iff];intro b hb;unfold isA;rw [Bool.and_eq_true,beq_iff_eq,beq_iff_eq];rintro ⟨h1,h2⟩;exact hne (h2.symm.trans (s4 b hb h1))
   exact ⟨by rw [z4,hp.fl,hap,hac,Zaa,Zak,hno,hnk,List.append_nil,List.append_nil],by rw [Zaa,hno,List.append_nil,<-hap,z3];exact hp.ap,by rw [Zak,hnk,List.append_nil,<-hac,z2];exact hp.ak,by rw [z2];exact hp.m0⟩
 ·intro b hb
  rw [hdrop2] at hb;rcases List.mem_append.1 hb with hb|hb
  ·exact h.ms b (by rw [hdrop];exact List.mem_cons_of_mem _ hb)
  ·obtain ⟨b1,b2,b3,b4⟩:=s3 b hb
   obtain ⟨b5,b6⟩:=(h.ln.pk _).1 b4;exact ⟨b3.trans h.ln.tm,.inl ⟨b1,b2.trans a.id,b5,b6⟩⟩
 ·have hpsi:=h.psi
  rw [hdrop,ZgI,hO,if_neg (by decide)] at hpsi;rw [hdrop2,p2,Zir,ZlO (λ b hb=>(s3 b hb).1),List.length_append];have:(n.said m).out.2.pot=(n.said m).pot:=rfl;omega
 ·rw [p2,List.length_append];omega
 ·intro hT j' m' hj' hm'
  rw [p1,List.getElem?_set_ne (Ne.symm hj')] at hm';rw [hdrop2];obtain ⟨t1,t2⟩:=hT j' m' hj' hm';refine ⟨t1,?_⟩;rcases t2 with t2|⟨b,b1,b2,b3,b4⟩
  ·exact .inl t2
  ·rw [hdrop] at b1
   rcases List.mem_cons.1 b1 with rfl|b1
   ·omega
   ·exact .inr ⟨b,List.mem_append_left _ b1,b2,b3,b4⟩
theorem LP.step (h:LP v k Lk Ψ W i n) (hW:Zas (Zb6 v) E G W (λ _=>True)) (hi:i<W.sent.length):
  ∃ n',LP v k Lk Ψ (W.play (evM i)) (i + 1) n'/\(ZlZ k Lk.length W i->ZlZ k Lk.length (W.play (evM i)) (i + 1)):=by
 have hm:=List.getElem?_eq_getElem hi;generalize W.sent[i]=m at hm;have hq:=h.ms m (by
  rw [List.drop_eq_getElem_cons hi];rw [List.getElem?_eq_getElem hi] at hm;have hm:=Option.some.inj hm;rw [hm];exact List.mem_cons_self)
 rcases hq.2 with ⟨h1|h1,_⟩|⟨⟨h1,_⟩|h1,_⟩
 ·exact h.atF hW hm hq (.inl h1)
 ·exact h.atF hW hm hq (.inr h1)
 ·exact h.atL hW hm hq (.inl h1)
 ·exact h.atL hW hm hq (.inr h1)
end
section
open Go Go.VC Tryz
open Go.Rf
variable {n n':Rn} {new:List Mg} {E:Nat} {G:Gh} {W W':Wd} {v k i j:Nat} {Lk:List Ey} {Ψ:Int} {g0:Gp}
def runM:Nat->Wd->Nat->Wd
 |0,W,_=>W
 |d + 1,W,i=>runM d (W.play (evM i)) (i + 1)
theorem ZiO:∀ (d:Nat) (W:Wd) (i:Nat),(runM d W i).play (evM (i + d))=runM (d + 1) W i
 |0,W,i=>rfl
 |d + 1,W,i=>by
  have h:=ZiO d (W.play (evM i)) (i + 1);rw [show i + 1 + d=i + (d + 1) by omega] at h;exact h
theorem LP.sentLe (h:LP v k Lk Ψ W i n) (hW:Zas (Zb6 v) E G W (λ _=>True)):(W.sent.length:Int)<=Ψ:=by
 have h1:=h.psi;have a:=hW.nd k n trivial h.hn;obtain ⟨F,hN⟩:=a.i;have hc0:=hN.c0;have hl:=hN.fl.last;have h2:0<=Zf4 n.gap ids:=Zkz (λ r=>by
  unfold Rn.gap;cases hq:n.peer r with
  |none=>exact Int.le_refl _
  |some x=>
   have:=(h.ln.ps r x hq).2.nl;show 0<=n.log.last + 1 - x.nx;omega) ids
 unfold Rn.pot at h1;omega
structure ZrF (v k:Nat) (Lk:List Ey) (Ψ:Int) (E:Nat) (W:Wd) (i d:Nat) (W':Wd):Prop where
 more:∀ j,j<d->i + j<(runM j W i).sent.length
 eq:W'=runM d W i
 fin:W'.sent.length=i + d
 lp:∃ n',LP v k Lk Ψ W' (i + d) n'
 told:ZlZ k Lk.length W i->ZlZ k Lk.length W' (i + d)
 inv:∀ j,j<=d->∃ G',Zas (Zb6 v) (E + 2 * j) G' (runM j W i) (λ _=>True)
 le:∀ j,j<=d->((runM j W i).sent.length:Int)<=Ψ
theorem LP.flow:∀ (f:Nat) {E:Nat} {G:Gh} {W:Wd} {i:Nat} {n:Rn},LP v k Lk Ψ W i n->Zas (Zb6 v) E G W (λ _=>True)->Ψ<=i + f->E + 2 * f + 2<=100000->∃ d W',d<=f/\ZrF v k Lk Ψ E W i d W'
 |f,E,G,W,i,n,h,hW,hf,hE=>by
  have hle:=h.sentLe hW;by_cases hi:i<W.sent.length
  ·match f,hf,hE with
   |0,hf,hE=>omega
   |f + 1,hf,hE=>
    obtain ⟨n1,h1,h2⟩:=h.step hW hi;obtain ⟨G1,hW1⟩:=hW.play (by omega) (evM i);obtain ⟨d,W',hd,F⟩:=LP.flow f h1 hW1 (by omega) (by omega);refine ⟨d + 1,W',by omega,⟨λ j hj=>?_,F.eq,by rw [F.fin];omega,?_,λ ht=>?_,λ j hj=>?_,λ j hj=>?_⟩⟩
    ·cases j with
     |zero=>exact hi
     |succ j=>
      have:=F.more j (by omega);show i + (j + 1)<(runM j (W.play (evM i)) (i + 1)).sent.length;omega
    ·rw [show i + (d + 1)=i + 1 + d by omega];exact F.lp
    ·rw [show i + (d + 1)=i + 1 + d by omega];exact F.told (h2 ht)
    ·cases j with
     |zero=>exact ⟨G,hW⟩
     |succ j=>
      obtain ⟨G',h'⟩:=F.inv j (by omega);exact ⟨G',by rw [show E + 2 * (j + 1)=E + 2 + 2 * j by omega];exact h'⟩
    ·cases j with
     |zero=>exact hle
     |succ j=>exact F.le j (by omega)
  ·have hil:=h.il
   exact ⟨0,W,Nat.zero_le _,⟨λ j hj=>by omega,rfl,by omega,⟨n,h⟩,λ ht=>ht,λ j hj=>by
    have:j=0:=by omega
    subst this;exact ⟨G,hW⟩,λ j hj=>by
    have:j=0:=by omega
    subst this;exact hle⟩⟩
theorem LP.quiet (h:LP v k Lk Ψ W i n) (hid:n.id=k + 1) (hi:i=W.sent.length):n.log.last=Lk.length/\(∀ j m,j≠k->W.ns[j]? =some m->m.log.last=Lk.length)/\(Lk.length:Int)<=n.log.com/\∀ q x,n.peer q=some x->x.fl=[]/\x.mt=Lk.length/\x.nx=Lk.length + 1:=by
 have hl:n.log.last=(Lk.length:Int):=by
  unfold Lg.last;rw [h.ln.o.b,h.ln.lk];omega
 have hd:W.sent.drop i=[]:=by rw [hi,List.drop_length]
 have one:∀ j m x,j≠k->W.ns[j]? =some m->n.peer ((j:Int) + 1)=some x->m.log.last=Lk.length/\x.fl=[]/\x.mt=Lk.length/\x.nx=Lk.length + 1:=λ j m x hj hm hx=>by
  have hp:=h.pw j m x hj hm hx;rw [hd] at hp;have h1:x.fl=[]:=hp.fl;have h2:=(h.ln.ps _ x hx).2.full (by rw [h1];decide);have h3:m.log.last=x.nx - 1:=hp.ap;have h4:x.mt=m.log.last:=hp.ak;exact ⟨by omega,h1,by omega,by omega⟩
 have all:∀ q x,n.peer q=some x->x.fl=[]/\x.mt=Lk.length/\x.nx=Lk.length + 1:=λ q x hx=>by
  obtain ⟨⟨h1,h2⟩,h3⟩:=(h.ln.pk q).1 (by rw [hx];rfl);obtain ⟨j,rfl⟩:∃ j:Nat,q=(j:Int) + 1:=⟨(q - 1).toNat,by omega⟩;have hj:j<W.ns.length:=by rw [h.len];omega
  exact (one j _ x (by omega) (List.getElem?_eq_getElem hj) hx).2
 refine ⟨hl,λ j m hj hm=>?_,?_,all⟩
 ·have hjl:=ZR hm
  rw [h.len] at hjl;obtain ⟨x,hx⟩:=Option.isSome_iff_exists.1 ((h.ln.pk ((j:Int) + 1)).2 ⟨⟨by omega,by omega⟩,by omega⟩);exact (one j m x hj hm hx).1
 ·have hr:Zo n.g.vs n.g.ls=true:=by rw [h.ln.g];exact Za7 (by have:=h.vk.1;omega) h.vk.2
  have hm:=Znr (n:=n) hr (λ y hy=>by
   rw [h.ln.g] at hy;have hy:y∈(List.range v).map λ (i:Nat)=>(i:Int) + 1:=hy;obtain ⟨j,hj,rfl⟩:=List.mem_map.1 hy;rw [List.mem_range] at hj;cases hq:n.peer ((j:Int) + 1) with
   |some x=>exact .inl ⟨x,rfl,by rw [(all _ x hq).2.1,hl]⟩
   |none=>
    refine .inr ⟨rfl,?_⟩;refine Classical.byContradiction λ hne=>?_;have:=(h.ln.pk ((j:Int) + 1)).2 ⟨⟨by omega,by omega⟩,by rw [<-hid];exact hne⟩;rw [hq] at this;cases this)
  have:=h.ln.mid;omega
end
section
open Go Go.VC Tryz
open Go.Rf
variable {n n' n1:Rn} {new:List Mg} {E:Nat} {G:Gh} {W W':Wd} {v k i j:Nat} {Lk Lk':List Ey} {Ψ Ψ' c:Int} {g0:Gp}
theorem LP.lead (h:LP v k Lk Ψ W i n) (hW:Zas (Zb6 v) E G W (λ _=>True)) {x:Ev} (hx:W.act x=some (W.put k n',k)) (hid:n.id=k + 1)
  (h1:∀ q,n1.peer q=n.peer q) (h2:n1.id=n.id) (h3:n1.e.hd.tm=1) (h4:n1.rms=[]) (r:LR n1 n' new c) (ln:LN v k Lk' n') (hp:(W.sent.length:Int) + c57 (W.sent.drop i) + 2 * (n1.pot + c)<=Ψ'):
  LP v k Lk' Ψ' (W.play x) i n'.out.2/\(∀ j,j≠k->(W.play x).ns[j]? =W.ns[j]?)/\(W.play x).sent.drop i=W.sent.drop i++new:=by
 obtain ⟨hv,hv7⟩:=h.vk;have hkl:k<W.ns.length:=by rw [h.len];omega
 obtain ⟨p1,p2⟩:=Zgn hW hkl hx;have hm:n'.rms=new:=by rw [r.ms,h4];rfl
 rw [hm] at p2;have hil:=h.il;have hdrop:(W.play x).sent.drop i=W.sent.drop i++new:=by rw [p2,List.drop_append_of_le_length hil]
 have hnk:∀ q,ZcM q new=[]:=λ q=>ZgO λ b hb=>(r.nw b hb).1;refine ⟨⟨h.vk,?_,?_,ln.out,?_,?_,?_,?_,?_⟩,?_,hdrop⟩
 ·rw [p1,List.length_set];exact h.len
 ·rw [p1,List.getElem?_set_self hkl]
 ·intro j' m' hj' hm'
  rw [p1,List.getElem?_set_ne (Ne.symm hj')] at hm';exact h.fol j' m' hj' hm'
 ·intro j' m' x' hj' hm' hx'
  rw [p1,List.getElem?_set_ne (Ne.symm hj')] at hm';rw [hdrop];have hx':n'.peer ((j':Int) + 1)=some x':=hx';cases hq:n1.peer ((j':Int) + 1) with
  |none=>rw [r.pn _ hq] at hx';cases hx'
  |some z=>
   obtain ⟨y,y1,y2,y3,y4,y5,y6⟩:=r.pe _ z hq;rw [hx'] at y1;have y1:=Option.some.inj y1;subst y1;rw [h1] at hq;have hpw:=h.pw j' m' z hj' hm' hq;refine ⟨?_,?_,?_,?_⟩
   ·rw [y6,Zaa,Zak,hnk,List.append_nil,List.map_append,<-List.append_assoc,hpw.fl]
   ·rw [Zaa];exact hpw.ap.app y5
   ·rw [Zak,hnk,List.append_nil,y4];exact hpw.ak
   ·rw [y4];exact hpw.m0
 ·intro b hb
  rw [hdrop] at hb;rcases List.mem_append.1 hb with hb|hb
  ·exact h.ms b hb
  ·obtain ⟨b1,b2,b3,b4⟩:=r.nw b hb
   rw [h1] at b4;obtain ⟨b5,b6⟩:=(h.ln.pk _).1 b4;exact ⟨b3.trans h3,.inl ⟨b1,b2.trans (h2.trans hid),b5,b6⟩⟩
 ·have hpot:=r.pot
  rw [hdrop,p2,Zir,ZlO (λ b hb=>(r.nw b hb).1),List.length_append];have:n'.out.2.pot=n'.pot:=rfl;omega
 ·rw [p2,List.length_append];omega
 ·intro j' hj'
  rw [p1,List.getElem?_set_ne (Ne.symm hj')]
theorem LP.tick (h:LP v k Lk Ψ W i n) (hW:Zas (Zb6 v) E G W (λ _=>True)) (hi:i=W.sent.length):∃ n',LP v k Lk (Ψ + 30) (W.play ⟨0,k,0,0⟩) i n'/\ZlZ k Lk.length (W.play ⟨0,k,0,0⟩) i:=by
 have a:=hW.nd k n trivial h.hn;obtain ⟨F,hN⟩:=a.i;obtain ⟨hv,hv7⟩:=h.vk;have hkl:k<W.ns.length:=by rw [h.len];omega
 have hid:n.id=k + 1:=a.id;obtain ⟨q1,q2,q3,q4⟩:=h.quiet hid hi;have hc0:=hN.c0;have hlast:=hN.fl.last;have hrms0:n.rms=[]:=a.cl.ms;have htk:n.tick 0=n.mem.foldl Rn.beat n:=by
  rw [Zb9 h.ln.ro];refine Zeh (n:=n) (by omega) n.mem rfl rfl h.ln.o.b λ q hq=>?_;obtain ⟨x,hx⟩:=Option.isSome_iff_exists.1 (Zea hq);exact ⟨x,hx,(h.ln.ps q x hx).2,(q4 q x hx).1⟩
 obtain ⟨new,r1,r2⟩:=ZeY n.mem (n:=n) (λ q hq=>Zea hq);have hact:=ZmJ (W:=W) hkl h.hn;rw [htk] at hact;have hml:=a.a.memLen;have hpsi:=h.psi;have hln:LN v k Lk (n.mem.foldl Rn.beat n):=h.ln.LR (n1:=n) ⟨rfl,rfl,rfl,rfl,rfl⟩ (λ _=>rfl) r1 (by rw [r1.midE];exact Int.le_trans h.ln.mid r1.com) λ q x hx=>by
  obtain ⟨z,z1,_⟩:=r1.same (ZbZ r2) hx;exact ⟨(h.ln.ps q z z1).1,r1.keepG (ZbZ r2) hx (.inr rfl) λ x h2=>(h.ln.ps q x h2).2⟩
 obtain ⟨l1,l2,l3⟩:=h.lead hW hact hid (λ _=>rfl) rfl h.ln.tm hrms0 r1 hln (Ψ':=Ψ + 30) (by omega);refine ⟨_,l1,λ j m hj hm=>?_⟩;rw [l2 j hj] at hm;refine ⟨q2 j m hj hm,.inr ?_⟩;have hjl:=ZR hm;rw [h.len] at hjl;obtain ⟨x,hx⟩:=Option.isSome_iff_exists.1 ((h.ln.pk ((j:Int) + 1)).2 ⟨⟨by omega,by omega⟩,by omega⟩);obtain ⟨b,b1,b2,b3,b4⟩:=Zj9 n.mem n _ (ZmT (by rw [hx];rfl));refine ⟨b,?_,b2,b3,?_⟩
 ·rw [l3]
  rw [r1.ms,hrms0,List.nil_append] at b1;exact List.mem_append_right _ b1
 ·rw [b4,hx]
  have:=(q4 _ x hx).2.1;show (Lk.length:Int)<=min x.mt _;omega
theorem LP.prop (h:LP v k Lk Ψ W i n) (hW:Zas (Zb6 v) E G W (λ _=>True)) (hl:Lk.length<1000) {b:Int} (h0:0<=b) (h1:b<256):
  (n.propose [b]).1=((Lk.length:Int) + 1,0)/\∃ n',LP v k (Lk++[⟨(Lk.length:Int) + 1,1,1,[b]⟩]) (Ψ + 60) (W.play ⟨3,k,b,0⟩) i n':=by
 have a:=hW.nd k n trivial h.hn;obtain ⟨F,hN⟩:=a.i;obtain ⟨hv,hv7⟩:=h.vk;have hkl:k<W.ns.length:=by rw [h.len];omega
 have hid:n.id=k + 1:=a.id;have hrms0:n.rms=[]:=a.cl.ms;have hlast:n.log.last=(Lk.length:Int):=by
  unfold Lg.last;rw [h.ln.o.b,h.ln.lk];omega
 obtain ⟨n1,new,e1,r1,e2,e3,e4,e5,e6,e7,e8,e9,e10,e11,e12,e13,e14,e15⟩:=Znk hN (Za7 (by omega) hv7) h.ln.o (by omega) a.a h.ln.ro (b:=b) (λ z hz=>by rw [List.mem_singleton] at hz;omega)
  (λ q=>by
   rw [h.ln.pk,h.ln.g,hid];have:(Zb6 v).vs++(Zb6 v).ls=(List.range v).map λ (i:Nat)=>(i:Int) + 1:=List.append_nil _;rw [this];constructor
   ·rintro ⟨⟨h1,h2⟩,h3⟩
    exact ⟨List.mem_map.2 ⟨(q - 1).toNat,List.mem_range.2 (by omega),by omega⟩,h3⟩
   ·rintro ⟨h1,h3⟩
    obtain ⟨z,z1,z2⟩:=List.mem_map.1 h1;rw [List.mem_range] at z1;exact ⟨⟨by omega,by omega⟩,h3⟩)
  (λ q x hx=>⟨(h.ln.ps q x hx).1,(h.ln.ps q x hx).2.toPG⟩) h.mts
 rw [hlast] at e1 e3;refine ⟨e1,?_⟩;have hact:=Zjf (W:=W) hkl h.hn h0 h1;have hpsi:=h.psi;obtain ⟨g1,g2,g3,g4,g5,g6,g7,g8,g9⟩:=r1.fix;have hln:LN v k (Lk++[⟨(Lk.length:Int) + 1,1,1,[b]⟩]) (n.propose [b]).2:=⟨by rw [g1];exact e6,by rw [g1,e7];exact h.ln.tm,e11.LR r1,by rw [g5,e3,h.ln.lk,h.ln.tm],λ q=>by rw [r1.isS,e2];exact h.ln.pk q,by rw [g3,e9];exact h.ln.g,e13,e12⟩;obtain ⟨l1,_⟩:=h.lead hW hact hid e2 e10 (by rw [e7];exact h.ln.tm) (by rw [e8];exact hrms0) r1 hln (Ψ':=Ψ + 60) (by omega);exact ⟨_,l1⟩
end
section
open Go Go.VC Tryz
open Go.Rf
variable {n n' n1:Rn} {new:List Mg} {E:Nat} {G:Gh} {W W':Wd} {v k i j:Nat} {Lk Lk':List Ey} {Ψ Ψ' c:Int} {g0:Gp}
def ZfI:Nat->Wd->Nat->Bool × Wd
 |0,W,i=>(W.sent.length==i && decide (W.sent.length<=100),W)
 |d + 1,W,i=>if i<W.sent.length/\W.sent.length<=100 then ZfI d (W.play (evM i)) (i + 1) else (false,W)
theorem ZhA:∀ {d:Nat} {W:Wd} {i:Nat},(ZfI d W i).1=true->(∀ j,j<d->i + j<(runM j W i).sent.length)/\(ZfI d W i).2=runM d W i/\(runM d W i).sent.length=i + d/\∀ j,j<=d->(runM j W i).sent.length<=100
 |0,W,i,h=>by
  have h:(W.sent.length==i && decide (W.sent.length<=100))=true:=h;rw [Bool.and_eq_true,beq_iff_eq,decide_eq_true_eq] at h;exact ⟨λ j hj=>(by omega),rfl,h.1,λ j hj=>by
   have:j=0:=by omega
   subst this;exact h.2⟩
 |d + 1,W,i,h=>by
  unfold ZfI at h ⊢;by_cases h1:i<W.sent.length/\W.sent.length<=100
  ·rw [if_pos h1] at h ⊢
   obtain ⟨a,b,c,e⟩:=ZhA h;refine ⟨λ j hj=>?_,b,by show (runM d (W.play (evM i)) (i + 1)).sent.length=_;omega,λ j hj=>?_⟩
   ·cases j with
    |zero=>exact h1.1
    |succ j=>
     have:=a j (by omega);show i + (j + 1)<(runM j (W.play (evM i)) (i + 1)).sent.length;omega
   ·cases j with
    |zero=>exact h1.2
    |succ j=>exact e j (by omega)
  ·rw [if_neg h1] at h;cases h
def Zf1 (v k:Nat):Wd:=(((wd0 v v).play ⟨0,k,0,0⟩).play ⟨0,k,0,0⟩).play ⟨0,k,0,0⟩
def pkB (v k:Nat):List Int:=((List.range v).map λ (i:Nat)=>(i:Int) + 1).filter λ q=>q !=(k:Int) + 1
def peB (t:Int × Pe):Bool:=t.2.st==1 && t.2.wn==2 && t.2.nx==2 && t.2.fl.length==0 && t.2.mt==1
def lnB (v k:Nat) (n:Rn):Bool:=
 n.e.role==3 && n.e.hd.tm==1 && n.log.b.ix==0 && n.log.l.length==1 && (n.log.l.all λ e=>e.ix==1 && e.tm==1 && e.kd==0 && e.dt.length==0) && n.rs.length==0 && n.log.com==1 &&
  (n.ps.getD []).map (·.1)==pkB v k && (n.ps.getD []).all peB && n.g.vs==(Zb6 v).vs && n.g.ls.length==0 && decide (n.mid<=1) && decide (n.pot<=0)
def fnB (n:Rn):Bool:=n.e.role==0 && n.e.hd.tm==1 && n.log.b.ix==0 && n.log.last==1
def lpB (v k:Nat) (W:Wd):Bool:=
 W.ns.length==v && (match W.ns[k]? with|some n=>lnB v k n|none=>false) && (List.range v).all (λ j=>j==k||match W.ns[j]? with|some m=>fnB m|none=>false) && decide (W.sent.length<=48)
def phB (v k:Nat):Bool:=(ZfI (8 * (v - 1)) (Zf1 v k) 0).1 && lpB v k (ZfI (8 * (v - 1)) (Zf1 v k) 0).2 && decide (((wd0 v v).play ⟨0,k,0,0⟩).sent.length<=100) && decide ((((wd0 v v).play ⟨0,k,0,0⟩).play ⟨0,k,0,0⟩).sent.length<=100)
set_option maxRecDepth 100000 in
theorem Zo5:((List.range 7).all λ v=>(List.range (v + 1)).all λ k=>phB (v + 1) k)=true:=by decide +kernel
theorem Zrf (hk:k<v) (hv:v<=7):phB v k=true:=by
 have h:=Zo5;rw [List.all_eq_true] at h;have h1:=h (v - 1) (List.mem_range.2 (by omega));rw [List.all_eq_true] at h1;have h2:=h1 k (List.mem_range.2 (by omega));rwa [show v - 1 + 1=v by omega] at h2
theorem ZdW {β:Type} {q:Int}:∀ {l:List (Int × β)},(ZB q l).isSome=true↔q∈l.map (·.1)
 |[]=>⟨λ h=>(by cases h),λ h=>(by cases h)⟩
 |e::l=>by
  show (if q==e.1 then some e.2 else ZB q l).isSome=true↔_
  rw [List.map_cons,List.mem_cons];by_cases h:q=e.1
  ·rw [if_pos (beq_iff_eq.2 h)]
   exact ⟨λ _=>.inl h,λ _=>rfl⟩
  ·rw [if_neg (λ h2=>h (beq_iff_eq.1 h2)),ZdW]
   exact ⟨.inr,λ h2=>h2.resolve_left h⟩
def Lk0:List Ey:=[⟨1,1,0,[]⟩]
theorem Zpc (hv:v<=7) (h:lnB v k n=true):LN v k Lk0 n/\n.pot<=0/\∀ q x,n.peer q=some x->x.fl=[]/\x.nx=2/\x.mt=1:=by
 unfold lnB at h;simp only [Bool.and_eq_true,beq_iff_eq,decide_eq_true_eq,List.all_eq_true] at h;obtain ⟨⟨⟨⟨⟨⟨⟨⟨⟨⟨⟨⟨a1,a2⟩,a3⟩,a4⟩,a5⟩,a6⟩,a7⟩,a8⟩,a9⟩,a10⟩,a11⟩,a12⟩,a13⟩:=h;have hl:n.log.l=Lk0:=by
  obtain ⟨e,he⟩:=List.length_eq_one_iff.1 a4;rw [he] at a5 ⊢;obtain ⟨⟨⟨b1,b2⟩,b3⟩,b4⟩:=a5 e List.mem_cons_self;obtain ⟨x1,x2,x3,x4⟩:=e;dsimp only at b1 b2 b3 b4;rw [b1,b2,b3,List.length_eq_zero_iff.1 b4];rfl
 have hlast:n.log.last=1:=by unfold Lg.last;rw [a3,a4];rfl
 have hpe:∀ q x,n.peer q=some x->x.st=1/\x.wn=2/\x.nx=2/\x.fl=[]/\x.mt=1:=λ q x hx=>by
  have:=a9 _ (ZbT hx);unfold peB at this;simp only [Bool.and_eq_true,beq_iff_eq] at this;obtain ⟨⟨⟨⟨b1,b2⟩,b3⟩,b4⟩,b5⟩:=this;exact ⟨b1,b2,b3,List.length_eq_zero_iff.1 b4,b5⟩
 have hpk:∀ q,(n.peer q).isSome=true↔(1<=q/\q<=(v:Int))/\q≠(k:Int) + 1:=λ q=>by
  unfold Rn.peer;rw [ZdW,a8];unfold pkB;rw [List.mem_filter,bne_iff_ne];constructor
  ·rintro ⟨h1,h2⟩
   obtain ⟨z,z1,z2⟩:=List.mem_map.1 h1;rw [List.mem_range] at z1;exact ⟨⟨by omega,by omega⟩,h2⟩
  ·rintro ⟨⟨h1,h2⟩,h3⟩
   exact ⟨List.mem_map.2 ⟨(q - 1).toNat,List.mem_range.2 (by omega),by omega⟩,h3⟩
 refine ⟨⟨a1,a2,⟨a3,by omega,λ e he=>?_,List.length_eq_zero_iff.1 a6,by omega⟩,hl,hpk,?_,by omega,λ q x hx=>?_⟩,a13,λ q x hx=>?_⟩
 ·rw [hl] at he
  unfold Lk0 at he;rw [List.mem_singleton] at he;rw [he,a2]
 ·have h1:n.g=⟨n.g.vs,n.g.ls⟩:=rfl
  rw [h1,a10,List.length_eq_zero_iff.1 a11];rfl
 ·obtain ⟨b1,b2,b3,b4,b5⟩:=hpe q x hx
  obtain ⟨⟨c1,c2⟩,c3⟩:=(hpk q).1 (by rw [hx];rfl);exact ⟨Zns (by omega) (by omega),⟨⟨b1,b2,by omega,by omega,by rw [b4];exact Nat.zero_le _⟩,λ _=>by omega⟩⟩
 ·obtain ⟨b1,b2,b3,b4,b5⟩:=hpe q x hx
  exact ⟨b4,b3,b5⟩
theorem Zpb (hk:k<v) (hv:v<=7) (h:lpB v k W=true):∃ n,LP v k Lk0 48 W W.sent.length n:=by
 unfold lpB at h;simp only [Bool.and_eq_true,beq_iff_eq,decide_eq_true_eq,List.all_eq_true,List.mem_range,Bool.or_eq_true] at h;obtain ⟨⟨⟨a1,a2⟩,a3⟩,a4⟩:=h;cases hn:W.ns[k]? with
 |none=>rw [hn] at a2;cases a2
 |some n=>
  rw [hn] at a2;obtain ⟨b1,b2,b3⟩:=Zpc hv a2;have hf:∀ j m,j≠k->W.ns[j]? =some m->FN m/\m.log.last=1:=λ j m hj hm=>by
   have hjl:=ZR hm;rcases a3 j (by omega) with h1|h1
   ·exact absurd h1 hj
   ·rw [hm] at h1
    have h1:fnB m=true:=h1;unfold fnB at h1;simp only [Bool.and_eq_true,beq_iff_eq] at h1;obtain ⟨⟨⟨c1,c2⟩,c3⟩,c4⟩:=h1;exact ⟨⟨c1,c2,c3⟩,c4⟩
  have hd:W.sent.drop W.sent.length=[]:=List.drop_length;refine ⟨n,⟨⟨hk,hv⟩,a1,hn,b1,λ j m hj hm=>(hf j m hj hm).1,λ j m x hj hm hx=>?_,λ a ha=>(by rw [hd] at ha;cases ha),?_,Nat.le_refl _⟩⟩
  ·obtain ⟨d1,d2,d3⟩:=b3 _ x hx
   have hl:=(hf j m hj hm).2;rw [hd];exact ⟨d1,by show m.log.last=x.nx - 1;omega,by show x.mt=m.log.last;omega,by omega⟩
  ·rw [hd]
   have:c57 []=0:=rfl;omega
end
section
open Go Go.VC Tryz
open Go.Rf
variable {n n' n1:Rn} {new:List Mg} {E:Nat} {G:Gh} {W W':Wd} {v k i j:Nat} {Lk Lk':List Ey} {Ψ Ψ' c:Int} {g0:Gp}
structure Fl (W:Wd) (i d:Nat) (W':Wd):Prop where
 more:∀ j,j<d->i + j<(runM j W i).sent.length
 eq:W'=runM d W i
 fin:W'.sent.length=i + d
 small:i + d<=20000
 ok:∀ j,j<=d->∀ x,Zd2 (runM j W i) x
theorem ZrF.fl {d:Nat} (h:ZrF v k Lk Ψ E W i d W') (hΨ:Ψ<20000) (hE:E + 2 * d + 2<=10000):Fl W i d W' where
 more:=h.more
 eq:=h.eq
 fin:=h.fin
 small:=by
  have h1:=h.le d (Nat.le_refl _);rw [<-h.eq,h.fin] at h1;omega
 ok j hj x:=by
  obtain ⟨G',h1⟩:=h.inv j hj;have h2:=h.le j hj;exact h1.step (by omega) (by omega) x
def ZlV (l:List Int):List Ey:=l.foldl (λ L b=>L++[⟨(L.length:Int) + 1,1,1,[b]⟩]) Lk0
theorem ZlU (l:List Int) (b:Int):ZlV (l++[b])=ZlV l++[⟨((ZlV l).length:Int) + 1,1,1,[b]⟩]:=by
 unfold ZlV;rw [List.foldl_append];rfl
theorem Ze8 {l:List Int} {m:Nat} (h:m<l.length):ZlV (l.take (m + 1))=ZlV (l.take m)++[⟨((ZlV (l.take m)).length:Int) + 1,1,1,[l[m]]⟩]:=by
 rw [List.take_succ_eq_append_getElem h,ZlU]
theorem Zdv {l:List Int}:∀ {m:Nat},m<=l.length->(ZlV (l.take m)).length=m + 1
 |0,_=>rfl
 |m + 1,h=>by
  rw [Ze8 (by omega),List.length_append,Zdv (by omega)];rfl
theorem Zjj {l:List Int}:∀ {m:Nat},m<=l.length->∀ (j:Nat) (hj:j<m),∃ e,(ZlV (l.take m))[j + 1]? =some e/\e.dt=[l.getD j 0]
 |0,_,j,hj=>by omega
 |m + 1,h,j,hj=>by
  have hl:=Zdv (l:=l) (m:=m) (by omega);rw [Ze8 (by omega)];by_cases h1:j<m
  ·obtain ⟨e,e1,e2⟩:=Zjj (l:=l) (m:=m) (by omega) j h1
   exact ⟨e,by rw [List.getElem?_append_left (by omega)];exact e1,e2⟩
  ·have h2:j=m:=by omega
   subst h2;refine ⟨_,by rw [List.getElem?_append_right (by omega),hl,Nat.sub_self];rfl,?_⟩;show [l[j]]=[l.getD j 0];rw [List.getD_eq_getElem?_getD,List.getElem?_eq_getElem (by omega)];rfl
def Zdh (k:Nat) (W:Wd) (l:List Int):Wd:=l.foldl (λ W b=>W.play ⟨3,k,b,0⟩) W
theorem ZdC {k:Nat} {W:Wd} {l:List Int} {m:Nat} (h:m<l.length):Zdh k W (l.take (m + 1))=(Zdh k W (l.take m)).play ⟨3,k,l[m],0⟩:=by
 rw [List.take_succ_eq_append_getElem h];unfold Zdh;rw [List.foldl_append];rfl
theorem LP.props (hW:Zas (Zb6 v) E G W (λ _=>True)) (h:LP v k Lk0 48 W i n) {l:List Int} (hb:∀ b∈l,0<=b/\b<256):∀ {m:Nat},m<=l.length->m<=50->E + 2 * m + 2<=10000->
  ∃ G' n',Zas (Zb6 v) (E + 2 * m) G' (Zdh k W (l.take m)) (λ _=>True)/\LP v k (ZlV (l.take m)) (48 + 60 * m) (Zdh k W (l.take m)) i n'
 |0,_,_,_=>⟨G,n,hW,h⟩
 |m + 1,hm,h50,hE=>by
  obtain ⟨G',n',h1,h2⟩:=LP.props hW h hb (m:=m) (by omega) (by omega) (by omega);have hl:=Zdv (l:=l) (m:=m) (by omega);obtain ⟨b0,b1⟩:=hb l[m] (List.getElem_mem _);obtain ⟨e1,n2,e2⟩:=h2.prop h1 (by omega) b0 b1;obtain ⟨G2,h3⟩:=h1.play (by omega) ⟨3,k,l[m],0⟩;refine ⟨G2,n2,?_,?_⟩
  ·rw [ZdC (by omega),show E + 2 * (m + 1)=E + 2 * m + 2 by omega];exact h3
  ·rw [ZdC (by omega),Ze8 (by omega),show (48 + 60 * ((m + 1:Nat):Int))=48 + 60 * (m:Int) + 60 by omega]
   exact e2
structure ZrD (v k:Nat) (l:List Int) (dA dB dC:Nat) (WA WB WC WD:Wd):Prop where
 t0:∀ x,Zd2 (wd0 v v) x
 t1:∀ x,Zd2 ((wd0 v v).play ⟨0,k,0,0⟩) x
 t2:∀ x,Zd2 (((wd0 v v).play ⟨0,k,0,0⟩).play ⟨0,k,0,0⟩) x
 fA:Fl (Zf1 v k) 0 dA WA
 rA:∃ n,WA.ns[k]? =some n/\n.e.role=3
 pr:∀ m,m<l.length->(∀ x,Zd2 (Zdh k WA (l.take m)) x)/\∃ n,(Zdh k WA (l.take m)).ns[k]? =some n/\(n.propose [l.getD m 0]).1=((m:Int) + 2,0)
 fB:Fl (Zdh k WA l) dA dB WB
 tk:∀ x,Zd2 WB x
 wc:WC=WB.play ⟨0,k,0,0⟩
 fC:Fl WC (dA + dB) dC WD
 good:WD.good=true
 okD:ZqE WD
 len:WD.ns.length=v
 nd:∀ (i:Nat) (n:Rn),WD.ns[i]? =some n->n.log.com=(l.length:Int) + 1/\n.log.last=(l.length:Int) + 1/\∀ j,j<l.length->∃ e:Ey,n.log.get ((j:Int) + 2) 1=[e]/\e.dt=[l.getD j 0]
theorem Zas.runM:∀ {j:Nat} {E:Nat} {G:Gh} {W:Wd} {i:Nat},Zas g0 E G W (λ _=>True)->E + 2 * j<=100000->∃ G',Zas g0 (E + 2 * j) G' (runM j W i) (λ _=>True)
 |0,E,G,W,i,h,_=>⟨G,h⟩
 |j + 1,E,G,W,i,h,hE=>by
  obtain ⟨G1,h1⟩:=h.play (by omega) (evM i);obtain ⟨G2,h2⟩:=Zas.runM (j:=j) (i:=i + 1) h1 (by omega);exact ⟨G2,by rw [show E + 2 * (j + 1)=E + 2 + 2 * j by omega];exact h2⟩
theorem LP.ends (h:LP v k Lk Ψ W i n) (hW:Zas (Zb6 v) E G W (λ _=>True)) (hi:i=W.sent.length) (ht:ZlZ k Lk.length W i):∀ (j:Nat) (m:Rn),W.ns[j]? =some m->m.log.com=(Lk.length:Int)/\m.log.last=(Lk.length:Int)/\
  ∀ q,q<Lk.length->∃ e:Ey,Lk[q]? =some e/\m.log.get ((q:Int) + 1) 1=[e]:=by
 have ak:=hW.nd k n trivial h.hn;obtain ⟨Fk,hNk⟩:=ak.i;obtain ⟨q1,q2,q3,q4⟩:=h.quiet ak.id hi;obtain ⟨hel,hld,hll⟩:=hNk.l3 h.ln.ro;rw [h.ln.tm] at hel hll;have hFk:Fk=Lk:=by
  have h1:=hNk.fl.l;rw [h.ln.o.b,h.ln.lk] at h1;exact h1
 rw [hFk] at hll;intro j m hm;have a:=hW.nd j m trivial hm;obtain ⟨F,hN⟩:=a.i;have hc0:=hN.c0;have hlast:=hN.fl.last;have fin:m.log.last=(Lk.length:Int)->(Lk.length:Int)<=m.log.com->F=Lk->m.log.b.ix=0->m.log.com=(Lk.length:Int)/\m.log.last=(Lk.length:Int)/\∀ q,q<Lk.length->∃ e:Ey,Lk[q]? =some e/\m.log.get ((q:Int) + 1) 1=[e]:=λ h1 h2 h3 h4=>by
  refine ⟨by omega,h1,λ q hq=>?_⟩;refine ⟨Lk[q],List.getElem?_eq_getElem hq,?_⟩;rw [hN.fl.get 1 (by omega),h3,Int.toNat_natCast,List.drop_eq_getElem_cons hq];rfl
 by_cases hj:j=k
 ·subst hj
  rw [h.hn] at hm;have hm:=Option.some.inj hm;subst hm;have hF:F=Lk:=by
   have h1:=hN.fl.l;rw [h.ln.o.b,h.ln.lk] at h1;exact h1
  exact fin q1 q3 hF h.ln.o.b
 ·have f:=h.fol j m hj hm
  obtain ⟨t1,t2⟩:=ht j m hj hm;have hd:W.sent.drop i=[]:=by rw [hi,List.drop_length]
  have t2:(Lk.length:Int)<=m.log.com:=by
   rcases t2 with t2|⟨b,b1,_⟩
   ·exact t2
   ·rw [hd] at b1;cases b1
  have hF:F=(G.h.ll 1).take F.length:=by
   by_cases h0:F=[]
   ·rw [h0];rfl
   ·have hp:=List.length_pos_iff.2 h0
    have hk:=List.getElem?_eq_getElem (l:=F) (i:=F.length - 1) (by omega);obtain ⟨g1,g2⟩:=hN.A.good _ _ hk;have h1:=hN.A.le _ _ hk;have h2:=hW.X.I.pos _ g1;rw [f.tm] at h1;have h3:F[F.length - 1].tm=1:=by omega
    rw [h3,show F.length - 1 + 1=F.length by omega,List.take_length] at g2;exact g2
  have hF2:F=Lk:=by
   rw [hF,hll,List.take_of_length_le (by omega)]
  exact fin t1 t2 hF2 f.b
theorem Zic (hk:k<v) (hv:v<=7) {l:List Int} (hl:l.length<=50) (hb:∀ b∈l,0<=b/\b<256):∃ dA dB dC WA WB WC WD,ZrD v k l dA dB dC WA WB WC WD:=by
 have h0:=Zm7 (many:=v) (v:=v) (by omega) (Nat.le_refl v) hv;obtain ⟨G1,h1⟩:=h0.play (by omega) ⟨0,k,0,0⟩;obtain ⟨G2,h2⟩:=h1.play (by omega) ⟨0,k,0,0⟩;obtain ⟨G3,h3⟩:=h2.play (by omega) ⟨0,k,0,0⟩;have hph:=Zrf hk hv;unfold phB at hph;simp only [Bool.and_eq_true,decide_eq_true_eq] at hph;obtain ⟨⟨⟨hp1,hlp⟩,hp3⟩,hp4⟩:=hph;obtain ⟨f1,f2,f3,f4⟩:=ZhA hp1;rw [f2] at hlp;have hd:8 * (v - 1)<=48:=by omega
 generalize 8 * (v - 1)=dA at f1 f2 f3 f4 hlp hd;obtain ⟨n0,hA⟩:=Zpb hk hv hlp;obtain ⟨GA,hWA⟩:=Zas.runM (j:=dA) (i:=0) h3 (by omega);have hWA0:∀ j,j<=dA->∃ G',Zas (Zb6 v) (0 + 2 + 2 + 2 + 2 * j) G' (Go.Proofs.YthpmfnffkjjlnaaGreat.runM j (Zf1 v k) 0) (λ _=>True):=λ j hj=>Zas.runM (j:=j) (i:=0) h3 (by omega);rw [f3,Nat.zero_add] at hA;have flA:Fl (Zf1 v k) 0 dA (Go.Proofs.YthpmfnffkjjlnaaGreat.runM dA (Zf1 v k) 0):=⟨f1,rfl,f3,by omega,λ j hj x=>by
  obtain ⟨G',h⟩:=hWA0 j hj;have:=f4 j hj;exact h.step (by omega) (by omega) x⟩
 have hWA:Zas (Zb6 v) (0 + 2 + 2 + 2 + 2 * dA) GA (Go.Proofs.YthpmfnffkjjlnaaGreat.runM dA (Zf1 v k) 0) (λ _=>True):=hWA;generalize Go.Proofs.YthpmfnffkjjlnaaGreat.runM dA (Zf1 v k) 0=WA at hA hWA flA;obtain ⟨GB,nB,hWB0,hB0⟩:=hA.props hWA hb (Nat.le_refl l.length) hl (by omega);rw [List.take_length] at hWB0 hB0;have hLl:(ZlV l).length=l.length + 1:=by
  have:=Zdv (l:=l) (Nat.le_refl _);rwa [List.take_length] at this
 obtain ⟨dB,WB,hdB,FB⟩:=LP.flow 3100 hB0 hWB0 (by omega) (by omega);have hleB:=FB.le dB (Nat.le_refl _);rw [<-FB.eq,FB.fin] at hleB;obtain ⟨nB2,hB2⟩:=FB.lp;obtain ⟨GB2,hWB2⟩:=FB.inv dB (Nat.le_refl _);rw [<-FB.eq] at hWB2;obtain ⟨nC,hC,hTC⟩:=hB2.tick hWB2 FB.fin.symm;obtain ⟨GC,hWC⟩:=hWB2.play (by omega) ⟨0,k,0,0⟩;obtain ⟨dC,WD,hdC,FC⟩:=LP.flow 3100 hC hWC (by omega) (by omega);have hleC:=FC.le dC (Nat.le_refl _);rw [<-FC.eq,FC.fin] at hleC;obtain ⟨nD,hD⟩:=FC.lp;obtain ⟨GD,hWD⟩:=FC.inv dC (Nat.le_refl _);rw [<-FC.eq] at hWD;have hends:=hD.ends hWD FC.fin.symm (FC.told hTC);refine ⟨dA,dB,dC,WA,WB,_,WD,⟨?_,?_,?_,flA,⟨n0,hA.hn,hA.ln.ro⟩,λ m hm=>?_,FB.fl (by omega) (by omega),?_,rfl,FC.fl (by omega) (by omega),hWD.good,hWD.wd (by omega),hD.len,λ i n hn=>?_⟩⟩
 ·exact λ x=>h0.step (by omega) (by show 0<20000;decide) x
 ·exact λ x=>h1.step (by omega) (by omega) x
 ·exact λ x=>h2.step (by omega) (by omega) x
 ·obtain ⟨Gm,nm,hWm,hm2⟩:=hA.props hWA hb (m:=m) (by omega) (by omega) (by omega)
  have hle:=hm2.sentLe hWm;obtain ⟨b0,b1⟩:=hb l[m] (List.getElem_mem _);have hlm:=Zdv (l:=l) (m:=m) (by omega);obtain ⟨p1,_⟩:=hm2.prop hWm (by omega) b0 b1;refine ⟨λ x=>hWm.step (by omega) (by omega) x,nm,hm2.hn,?_⟩;rw [show l.getD m 0=l[m] by rw [List.getD_eq_getElem?_getD,List.getElem?_eq_getElem hm];rfl,p1,hlm];show (((m + 1:Nat):Int) + 1,(0:Int))=((m:Int) + 2,0);rw [show ((m + 1:Nat):Int) + 1=(m:Int) + 2 by omega]
 ·exact λ x=>hWB2.step (by omega) (by rw [FB.fin];omega) x
 ·obtain ⟨c1,c2,c3⟩:=hends i n hn
  rw [hLl] at c1 c2 c3;refine ⟨by omega,by omega,λ j hj=>?_⟩;obtain ⟨e,e1,e2⟩:=c3 (j + 1) (by omega);obtain ⟨e',e3,e4⟩:=Zjj (l:=l) (Nat.le_refl _) j hj;rw [List.take_length,e1] at e3;have e3:=Option.some.inj e3;subst e3;exact ⟨e,by rw [show (j:Int) + 2=((j + 1:Nat):Int) + 1 by omega];exact e2,e4⟩
end
section
open Go Go.VC Tryz
open Go.Rf (Ey Lg ZD)
variable {R R' R1 R2:Cx} {Hs Rest Rest2:List HP} {w:World} {p q:Nat} {pp:List Nat} {n m:Rn}
theorem Zd1.back {W:Wd} {k:Nat} {ps:List (Nat × Rn)} (h:Zd1 W k n ps p) (hw:Sat R (NAt R1 p n::Zu R1 ps k::Hs) w):Sat R (ZH R1 ps::Hs) w:=by
 have hw:Sat R (NAt R1 (p,n).1 (p,n).2::Zu R1 ps k::Hs) w:=hw;have h2:=Zu.close h.hkp hw;have e:ps.set k (p,n)=ps:=by rw [<-h.hp h.hkp,List.set_getElem_self]
 rwa [e] at h2
set_option maxRecDepth 20000 in
theorem ZeN {W W':Wd} {i d:Nat} (hF:Fl W i d W') (hw:Sat R (ZaH R q pp W::Hs) w):
  Zj prog 29 #[.pointer (some ⟨q,0,none⟩),.int .i64 (i:Int)] w λ v w'=>v=.int .i64 ((i + d:Nat):Int)/\∃ R' pp',R.Ext R'/\Sat R' (ZaH R' q pp' W'::Hs) w':=by
 have hsm:=hF.small;apply Zqd;refine ⟨λ z w=>∃ (j:Nat) (R2:Cx) (pp2:List Nat),z=((i + j:Nat):Int)/\j<=d/\R.Ext R2/\Sat R2 (ZaH R2 q pp2 (runM j W i)::Hs) w,λ z _=>(30000 - z).toNat,⟨0,R,pp,rfl,Nat.zero_le _,.refl,hw⟩,?_⟩;clear hw;rintro _ _ w ⟨j,R2,pp2,rfl,hj,e2,hw⟩;obtain ⟨L,ps,hps,hwo⟩:=ZaH.iff.1 hw;have hsn:=Zq.len (hwo.take (Zq R2 L.sn (runM j W i).sent));refine Zb.mk rfl ⟨L.sn,At.own (eqS hwo) (by exact ⟨rfl,trivial⟩),Br.d (λ h=>Br.d (λ h2=>by omega) λ h2=>?_) λ h=>?_⟩
 ·have hjd:j<d:=by
   refine Classical.byContradiction λ hn=>?_;have:j=d:=by omega
   subst this;have:=hF.fin;rw [hF.eq] at this;omega
  have st:=hF.ok j hj (evM (i + j));refine (Zeu st.ok st.act st.comp hw).use ?_;clear hw hwo;rintro _ w ⟨rfl,R3,pp3,e3,hw⟩;rw [ZiO] at hw;rw [Zh (by omega) (by omega)];exact ⟨rfl,⟨j + 1,R3,pp3,by omega,hjd,e2.trans e3,hw⟩,by dsimp only;omega⟩
 ·have hjd:j=d:=by
   refine Classical.byContradiction λ hn=>?_;have:=hF.more j (by omega);omega
  subst hjd;have hfin:=hF.fin;have heq:=hF.eq;rw [heq] at hfin;refine Zb.mk rfl ⟨L.sn,At.own (eqS hwo) (by exact ⟨rfl,trivial⟩),?_⟩;exact ⟨by rw [hsn,hfin],R2,pp2,e2,by rw [heq];exact hw⟩
end
section
open Go Go.VC Tryz
open Go.Rf (Ey Lg ZD)
variable {R R' R1 R2:Cx} {Hs Rest Rest2:List HP} {w:World} {p q:Nat} {pp:List Nat} {n m:Rn}
def Zm9 (v k:Nat):Nat->Wd
 |0=>wd0 v v
 |j + 1=>(Zm9 v k j).play ⟨0,k,0,0⟩
theorem SlR.one {h:ZK} {s:Sl} {xs:List Int} {kd:IntKind} (a:SlR h s (xs.map (Value.int kd))) {k:Nat} (hk:k<xs.length):SlR h ⟨ZbB s.a k s.cap 1,1,s.cap - k⟩ ([xs[k]].map (Value.int kd)):=by
 have hl:=a.len;rw [List.length_map] at hl;have hc:=a.cap;have d:=a.drop (k:=k) (by rw [List.length_map];omega);refine ⟨rfl,by show 1<=s.cap - k;omega,λ _=>?_⟩;obtain ⟨b,off,c,T,fr,e1,e2,e3⟩:=d.mem (by
  intro h0;have:=congrArg List.length h0;rw [List.length_drop,List.length_map] at this;simp only [List.length_nil] at this;omega)
 refine ⟨b,off,c,T,fr,e1,e2,λ i v hv=>?_⟩;cases i with
 |zero=>
  refine e3 0 v ?_;rw [List.getElem?_drop,Nat.add_zero,List.getElem?_map,List.getElem?_eq_getElem hk];exact hv
 |succ i=>cases hv
theorem Zkr {W:Wd} {k:Nat} {ps:List (Nat × Rn)} {L:WLo} (foc:Zd1 W k n ps p) (hw:Sat R (pts q (wdC W L)::Own L.ns 24 (ps.map ZW)::ZH R ps::Ze9 R W L Hs) w):
  Zj prog 15 #[.pointer (some ⟨p,0,none⟩)] w λ v w'=>v=.int .i64 n.log.com/\Sat R (pts q (wdC W L)::Own L.ns 24 (ps.map ZW)::ZH R ps::Ze9 R W L Hs) w':=by
 refine (Zcd (foc.take hw)).mono ?_;rintro _ w ⟨rfl,hw⟩;exact ⟨rfl,(foc.back hw).arr⟩
theorem Zfm {W:Wd} {k:Nat} {ps:List (Nat × Rn)} {L:WLo} (foc:Zd1 W k n ps p) (ok:ZD n.log) (hw:Sat R (pts q (wdC W L)::Own L.ns 24 (ps.map ZW)::ZH R ps::Ze9 R W L Hs) w):
  Zj prog 18 #[.pointer (some ⟨p,0,none⟩)] w λ v w'=>v=.int .i64 n.log.last/\Sat R (pts q (wdC W L)::Own L.ns 24 (ps.map ZW)::ZH R ps::Ze9 R W L Hs) w':=by
 refine (ZjH ok (foc.take hw)).mono ?_;rintro _ w ⟨rfl,hw⟩;exact ⟨rfl,(foc.back hw).arr⟩
theorem Zjl {W:Wd} {k:Nat} {ps:List (Nat × Rn)} {L:WLo} (foc:Zd1 W k n ps p) (hr:n.e.role=3) (hps:ps.map (·.2)=W.ns) (hw:Sat R (pts q (wdC W L)::Own L.ns 24 (ps.map ZW)::ZH R ps::Ze9 R W L Hs) w)
  {F:Int->World->Prop} (h:∀ w,Sat R (ZaH R q (ps.map (·.1)) W::Hs) w->F 3 w):
  Zb (some ⟨p,0,none⟩) λ a=>∃ t:Option Addr,(At (λ w'=>w'=w) (Addr.add a 0) [.pointer t])/\Calls prog 16 #[.pointer t] w λ e w'=>∃ x:Int,(e=.returned (.int .i64 x))/\F x w':=by
 obtain ⟨NL,hn,hw5⟩:=NAt.iff.1 (foc.take hw);refine Zb.mk rfl ⟨_,At.own (eqS hw5) (by exact ⟨rfl,trivial⟩),?_⟩;refine (Zfz (K:=λ v w'=>v=.int .i64 3/\Sat R (NAt R p n::Zu R ps k::pts q (wdC W L)::Own L.ns 24 (ps.map ZW)::Ze9 R W L Hs) w') hn hw5 λ w hw=>⟨by rw [hr],hw⟩).use ?_;rintro _ w ⟨rfl,hw⟩;exact ⟨3,rfl,h w (ZaH.iff.2 ⟨L,ps,⟨hps,rfl⟩,(foc.back hw).arr⟩)⟩
end
section
open Go Go.VC Tryz
open Go.Rf (Ey Lg ZD)
variable {R R' R1 R2:Cx} {Hs Rest Rest2:List HP} {w:World} {p q:Nat} {pp:List Nat} {n m:Rn}
set_option maxRecDepth 100000 in
theorem Zid {s:Sl} {l:List Int} {voters who:Int} (hl:SlR R.m s (b8 l)) (hby:Zx l) (hw:Sat R Hs w):
  Zj prog 7 #[.int .i64 voters,.int .i64 who,.slice s.a s.len s.cap] w λ v w'=>v=.bool true/\Sat R Hs w':=by
 apply Zrw;have hsl:s.len=l.length:=by have:=hl.len;simpa using this
 refine (Zka hw).use ?_;clear hw;rintro _ w ⟨rfl,hw⟩;refine ⟨true,rfl,λ w=>(1<=voters/\voters<=7/\0<=who)/\Sat R Hs w,Br.f rfl (Br.d (λ _=>⟨rfl,hw⟩) λ h1=>Br.d (λ _=>⟨rfl,hw⟩) λ h2=>Br.d (λ _=>⟨rfl,hw⟩) λ h3=>⟨⟨by omega,by omega,by omega⟩,hw⟩),?_⟩;clear hw;rintro _ w ⟨⟨h1,h2,h3⟩,hw⟩;obtain ⟨v,rfl⟩:∃ v:Nat,voters=v:=⟨voters.toNat,by omega⟩;have ht0:=Int.tmod_nonneg (v:Int) h3;have ht1:=Int.tmod_lt_of_pos who (b:=(v:Int)) (by omega);obtain ⟨k,hk⟩:∃ k:Nat,who.tmod (v:Int)=k:=⟨(who.tmod v).toNat,by omega⟩;rw [hk] at ht0 ht1 ⊢;have hkv:k<v:=by omega
 have hl50:(l.take 50).length=min 50 l.length:=List.length_take;obtain ⟨dA,dB,dC,WA,WB,WC,WD,P⟩:=Zic (v:=v) (k:=k) hkv (by omega) (l:=l.take 50) (by omega) (λ b hb=>hby b (List.mem_of_mem_take hb));refine (Zj7 (many:=v) (voters:=v) (by omega) (Nat.le_refl v) (by omega) hw).use ?_;clear hw;rintro _ w ⟨R1,q,pp,rfl,e1,hw⟩;refine ⟨_,rfl,Br.f rfl (Nz.mk (by omega) ⟨λ z w=>∃ (j:Nat) (R2:Cx) (pp2:List Nat),z=j/\j<=3/\R.Ext R2/\Sat R2 (ZaH R2 q pp2 (Zm9 v k j)::Hs) w,λ z _=>(10 - z).toNat,⟨0,R1,pp,rfl,by omega,e1,hw⟩,?_⟩)⟩;clear hw e1;rintro _ _ w ⟨j,R2,pp2,rfl,hj,e2,hw⟩;refine Br.d (λ h=>?_) (λ h=>?_)
 ·have st:Zd2 (Zm9 v k j) ⟨0,k,0,0⟩:=by
   have:j=0\/j=1\/j=2:=by omega
   rcases this with rfl|rfl|rfl
   ·exact P.t0 _
   ·exact P.t1 _
   ·exact P.t2 _
  refine (Zeu st.ok st.act st.comp hw).use ?_;clear hw;rintro _ w ⟨rfl,R3,pp3,e3,hw⟩;rw [Zh (by omega) (by omega)];exact ⟨rfl,⟨j + 1,R3,pp3,by omega,by omega,e2.trans e3,hw⟩,by dsimp only;omega⟩
 have hj3:j=3:=by omega
 subst hj3;have hw:Sat R2 (ZaH R2 q pp2 (Zf1 v k)::Hs) w:=hw;have hfl:=ZeN (i:=0) P.fA hw;refine hfl.use ?_;clear hw hfl;rintro _ w ⟨rfl,R3,pp3,e3,hw⟩;have e23:=e2.trans e3;clear e2 e3;rw [Nat.zero_add];refine ⟨_,rfl,λ w=>∃ pp3,Sat R3 (ZaH R3 q pp3 WA::Hs) w,Br.d (λ h=>by omega) (λ _=>?_),?_⟩
 ·obtain ⟨nA,hnA,hrA⟩:=P.rA
  obtain ⟨L,ps,⟨hps,hpp⟩,hwo⟩:=ZaH.iff.1 hw;obtain ⟨p,foc⟩:=Zd1.of hnA hps;refine Zb.mk rfl ⟨L.ns,At.own (eqS hwo) (by exact ⟨rfl,trivial⟩),Own.idxP (T:=24) hwo (eqS hwo) k rfl foc.hkp ?_⟩;rw [foc.ptr foc.hkp];exact Zjl foc hrA hps hwo λ w hw=>Br.f rfl ⟨_,hw⟩
 clear hw;rintro _ w ⟨pp3,hw⟩;refine ⟨λ w=>∃ R4 pp4,R.Ext R4/\Sat R4 (ZaH R4 q pp4 (Zdh k WA (l.take 50))::Hs) w,⟨λ z w=>∃ (m:Nat) (R4:Cx) (pp4:List Nat),z=m/\m<=(l.take 50).length/\R.Ext R4/\Sat R4 (ZaH R4 q pp4 (Zdh k WA ((l.take 50).take m))::Hs) w,λ z _=>(100 - z).toNat,⟨0,R3,pp3,rfl,Nat.zero_le _,e23,hw⟩,?_⟩,?_⟩
 ·clear hw e23
  rintro _ _ w ⟨m,R4,pp4,rfl,hm,e4,hw⟩;have fin:m=(l.take 50).length->∃ R4 pp4,R.Ext R4/\Sat R4 (ZaH R4 q pp4 (Zdh k WA (l.take 50))::Hs) w:=λ h=>by
   rw [h,List.take_length] at hw;exact ⟨R4,pp4,e4,hw⟩
  refine ⟨λ w=>m<(l.take 50).length/\Sat R4 (ZaH R4 q pp4 (Zdh k WA ((l.take 50).take m))::Hs) w,Br.d (λ h=>Br.d (λ h'=>⟨by omega,hw⟩) (λ h'=>fin (by omega))) (λ h=>fin (by omega)),?_⟩;clear hw fin;rintro _ w ⟨hm2,hw⟩;obtain ⟨st,n,hn,hpr⟩:=P.pr m hm2;obtain ⟨Wm,hWm⟩:∃ Wm,Wm=Zdh k WA ((l.take 50).take m):=⟨_,rfl⟩;rw [<-hWm] at st hn hw;obtain ⟨L,ps,⟨hps,hpp⟩,hwo⟩:=ZaH.iff.1 hw;obtain ⟨p,foc⟩:=Zd1.of hn hps;have hml:m<l.length:=by omega
  have hget:(l.take 50).getD m 0=l[m]:=by
   rw [List.getD_eq_getElem?_getD,List.getElem?_eq_getElem hm2,Option.getD_some,List.getElem_take]
  rw [hget] at hpr;have hbm:=hby _ (List.getElem_mem hml);clear hw;refine Zi (Sat R4 [pts q (wdC Wm L),Own L.ns 24 (ps.map ZW),VC.tru]) hwo (λ w hw=>hw.k2) λ w hw=>Zb.mk rfl ⟨L.ns,At.own Zf (by exact ⟨rfl,trivial⟩),Own.idxP (T:=24) (hw.k2 (A:=pts q (wdC Wm L)) (B:=Own L.ns 24 (ps.map ZW))) Zf k rfl foc.hkp ?_⟩;rw [foc.ptr foc.hkp];refine (e4.slR hl).ix (eqS hw) m rfl hml ?_;refine Zd hw λ b w hw=>⟨hw.k2,?_⟩;have hw:=ZbR hw;have hw:=hw.re (Own ⟨some ⟨b,0,none⟩,1,1⟩ 5 (b8 [l[m]]));obtain ⟨R5,e5,hs1,hw⟩:=Own.leak hw;have hN:=(st ⟨3,k,l[m],0⟩).ok.nd n (List.mem_of_getElem? hn);have hw:=NAt.ext (foc.take hw) e5;refine (ZdT (d:=⟨some ⟨b,0,none⟩,1,1⟩) (λ h=>hN.a.rnl h) (λ _=>hN.d.last) (by have:=hN.d.ms;omega) hs1 (λ z hz=>by rw [List.mem_singleton] at hz;omega) hw).use ?_;clear hw;rintro _ w ⟨rfl,R6,e6,hw⟩;rw [hpr];refine ⟨_,_,rfl,?_⟩;have hw:=foc.put (e5.trans e6) hw;have hkl:=ZR hn;have hact:=Zjf hkl hn hbm.1 hbm.2;refine (ZcN ((st ⟨3,k,l[m],0⟩).act _ _ hact) hw).use ?_;clear hw;rintro _ w ⟨rfl,R7,e7,hw⟩;have e:(Wm.put k (n.propose [l[m]]).2).write k=Zdh k WA ((l.take 50).take (m + 1)):=by
   rw [ZdC hm2,<-hWm,List.getElem_take];unfold Wd.play;rw [hact]
  rw [e] at hw;rw [Zh (by omega) (by omega),Zh (by omega) (by omega)];exact ⟨rfl,Br.f rfl (Br.f (by simp) ⟨⟨m + 1,R7,_,by omega,hm2,(e4.trans (e5.trans e6)).trans e7,hw⟩,by dsimp only;omega⟩)⟩
 clear hw e23;rintro _ w ⟨R4,pp4,e4,hw⟩;refine (ZeN P.fB hw).use ?_;clear hw;rintro _ w ⟨rfl,R5,pp5,e5,hw⟩;refine ⟨_,rfl,?_⟩;have st:=P.tk ⟨0,k,0,0⟩;refine (Zeu st.ok st.act st.comp hw).use ?_;clear hw;rintro _ w ⟨rfl,R6,pp6,e6,hw⟩;rw [<-P.wc] at hw;refine ⟨rfl,?_⟩;refine (ZeN P.fC hw).use ?_;clear hw;rintro _ w ⟨rfl,R7,pp7,e7,hw⟩;have e47:=(e4.trans e5).trans (e6.trans e7);clear e4 e5 e6 e7;refine ⟨_,rfl,λ w=>Sat R7 (ZaH R7 q pp7 WD::Hs) w,Br.d (λ h=>by omega) (λ _=>Br.d (λ h=>by omega) (λ _=>?_)),?_⟩
 ·obtain ⟨L,ps,⟨hps,hpp⟩,hwo⟩:=ZaH.iff.1 hw
  exact Zb.mk rfl ⟨WD.good,At.own (eqS hwo) (by exact ⟨rfl,trivial⟩),Br.f (by rw [P.good];rfl) hw⟩
 clear hw;rintro _ w hw;refine ⟨λ z w=>∃ (i:Nat) (R8:Cx) (pp8:List Nat),z=i/\i<=v/\R.Ext R8/\Sat R8 (ZaH R8 q pp8 WD::Hs) w,λ z _=>(100 - z).toNat,⟨0,R7,pp7,rfl,Nat.zero_le _,e47,hw⟩,?_⟩;clear hw e47;rintro _ _ w ⟨i,R8,pp8,rfl,hi,e8,hw⟩;refine Br.d (λ h=>?_) (λ h=>⟨rfl,e8.back hw.drop⟩);have hiv:i<WD.ns.length:=by rw [P.len];omega
 have hkv2:k<WD.ns.length:=by rw [P.len];omega
 have hni:=List.getElem?_eq_getElem hiv;have hnk:=List.getElem?_eq_getElem hkv2;generalize WD.ns[i]=ni at hni;generalize WD.ns[k]=nk at hnk;obtain ⟨c1,c2,c3⟩:=P.nd i ni hni;obtain ⟨d1,d2,_⟩:=P.nd k nk hnk;have okD:=P.okD;have oki:=(okD.nd ni (List.mem_of_getElem? hni)).a.b.g.lg;have okk:=(okD.nd nk (List.mem_of_getElem? hnk)).a.b.g.lg;refine ⟨λ w=>∃ pp8,Sat R8 (ZaH R8 q pp8 WD::Hs) w,?_,?_⟩
 ·obtain ⟨L,ps,⟨hps,hpp⟩,hwo⟩:=ZaH.iff.1 hw
  clear hw;obtain ⟨p,foc⟩:=Zd1.of hni hps;obtain ⟨p2,foc2⟩:=Zd1.of hnk hps;refine Zi (Sat R8 [pts q (wdC WD L),Own L.ns 24 (ps.map ZW),VC.tru]) hwo (λ w hw=>hw.k2) λ w hw=>Zb.mk rfl ⟨L.ns,At.own (eqS hw) (by exact ⟨rfl,trivial⟩),Own.idxP (T:=24) hw (eqS hw) i rfl foc.hkp ?_⟩;rw [foc.ptr foc.hkp];refine (Zkr foc hw).use ?_;clear hw hwo;rintro _ w ⟨rfl,hw⟩;refine ⟨_,rfl,hw.k2,Br.f ?_ ?_⟩
  ·rw [c1,hl50,hsl]
   have:(if 50<(l.length:Int) then 50 else (l.length:Int))=((min 50 l.length:Nat):Int):=by
    split<;>omega
   rw [this,Zh (by omega) (by omega)];simp
  ·refine Zb.mk rfl ⟨L.ns,At.own (eqS hw) (by exact ⟨rfl,trivial⟩),Own.idxP (T:=24) hw (eqS hw) i rfl foc.hkp ?_⟩
   rw [foc.ptr foc.hkp];refine Zb.mk rfl ⟨L.ns,At.own Zf (by exact ⟨rfl,trivial⟩),Own.idxP (T:=24) (hw.k2 (A:=pts q (wdC WD L)) (B:=Own L.ns 24 (ps.map ZW))) Zf k rfl foc2.hkp ?_⟩;rw [foc2.ptr foc2.hkp];refine (Zfm foc oki hw).use ?_;clear hw;rintro _ w ⟨rfl,hw⟩;refine ⟨_,rfl,hw.k2,?_⟩;refine (Zfm foc2 okk hw).use ?_;clear hw;rintro _ w ⟨rfl,hw⟩;refine ⟨_,rfl,Br.f (by rw [c2,d2];simp) ⟨_,ZaH.iff.2 ⟨L,ps,⟨hps,rfl⟩,hw⟩⟩⟩
 clear hw;rintro _ w ⟨pp9,hw⟩;refine ⟨λ z w=>∃ (j:Nat) (R9:Cx) (pp9:List Nat),z=j/\j<=(l.take 50).length/\R.Ext R9/\Sat R9 (ZaH R9 q pp9 WD::Hs) w,λ z _=>(100 - z).toNat,⟨0,R8,pp9,rfl,Nat.zero_le _,e8,hw⟩,?_⟩;clear hw e8;rintro _ _ w ⟨j,R9,pp10,rfl,hj,e9,hw⟩;have nxt:∀ w,Sat R9 (ZaH R9 q pp10 WD::Hs) w->(∃ (i':Nat) (R8:Cx) (pp8:List Nat),IntKind.i64.wrap ((i:Int) + 1)=i'/\i'<=v/\R.Ext R8/\Sat R8 (ZaH R8 q pp8 WD::Hs) w)/\(100 - IntKind.i64.wrap ((i:Int) + 1)).toNat<(100 - (i:Int)).toNat:=λ w hw=>by
  rw [Zh (by omega) (by omega)];exact ⟨⟨i + 1,R9,pp10,by omega,by omega,e9,hw⟩,by omega⟩
 refine ⟨λ w=>j<(l.take 50).length/\Sat R9 (ZaH R9 q pp10 WD::Hs) w,Br.d (λ h=>Br.d (λ h'=>⟨by omega,hw⟩) (λ h'=>nxt w hw)) (λ h=>nxt w hw),?_⟩;clear hw nxt;rintro _ w ⟨hj2,hw⟩;have hjl:j<l.length:=by omega
 obtain ⟨ent,hent,hdt⟩:=c3 j hj2;have hget:(l.take 50).getD j 0=l[j]:=by
  rw [List.getD_eq_getElem?_getD,List.getElem?_eq_getElem hj2,Option.getD_some,List.getElem_take]
 rw [hget] at hdt;obtain ⟨L,ps,⟨hps,hpp⟩,hwo⟩:=ZaH.iff.1 hw;clear hw;obtain ⟨p,foc⟩:=Zd1.of hni hps;refine Zb.mk rfl ⟨L.ns,At.own (eqS hwo) (by exact ⟨rfl,trivial⟩),Own.idxP (T:=24) hwo (eqS hwo) i rfl foc.hkp ?_⟩;rw [foc.ptr foc.hkp,Zh (x:=(j:Int) + 2) (by omega) (by omega),Zh (x:=(j:Int) + 1) (by omega) (by omega)];refine (Zdi oki ((j:Int) + 2) 1 (foc.take hwo)).use ?_;clear hwo;rintro _ w ⟨R10,g,ds,e10,hds,hde,rfl,hw⟩;rw [hent] at hde;obtain ⟨d,rfl,hdx⟩:∃ d,ds=[d]/\d.2=ent:=by
  match ds,hde with
  |[d],hde=>exact ⟨d,rfl,(List.cons.inj hde).1⟩
 have hgn:g.len=1:=by have:=OwnN.len hw;simpa using this
 refine ⟨g,rfl,Zm hw λ w hw=>Br.f (by rw [hgn];rfl) ?_⟩;have hdl:0<[d].length:=by simp
 refine (OwnN.readsM (T:=52) (n:=4) (s:=g) (rows:=[d].map ZaC) hw (eqS hw)).rngI (g:=ZaC) 0 rfl hdl λ a ha el=>?_;have hdd:SlR R10.m d.1 (b8 [l[j]]):=by have:=hds d (by simp);rwa [hdx,hdt] at this
 have hs1:SlR R10.m ⟨ZbB s.a j s.cap 1,1,s.cap - j⟩ (b8 [l[j]]):=SlR.one ((e9.trans e10).slR hl) hjl;have hcap:=hl.cap;refine ⟨d.1,el.f 3 (by exact ⟨rfl,trivial⟩),VC.strOf [l[j]],λ w' h=>Zec underlying33 underlying5 underlying9 (eqS hw w' h) (hdd.ro (by simp)),by omega,by omega,by omega,by omega,VC.strOf [l[j]],λ w' h=>?_,?_⟩
 ·have e:(((j:Int) + 1).toNat - ((j:Int)).toNat)=1:=by omega
  rw [e];exact Zec underlying33 underlying5 underlying9 (eqS hw w' h) (hs1.ro (by simp))
 ·have hw:Sat R10 (NAt R10 p ni::Zu R9 ps i::pts q (wdC WD L)::Own L.ns 24 (ps.map ZW)::Ze9 R9 WD L Hs) w:=hw.drop
  have hw:=foc.put e10 hw;have hput:WD.put i ni=WD:=by
   unfold Wd.put;have h1:WD.ns.set i ni=WD.ns:=by
    have h2:=List.getElem?_eq_some_iff.1 hni;obtain ⟨h3,h4⟩:=h2;rw [<-h4,List.set_getElem_self]
   rw [h1]
  rw [hput] at hw;exact Br.f (by simp) ⟨⟨j + 1,R10,_,by omega,hj2,e9.trans e10,hw⟩,by dsimp only;omega⟩
end
end Go.Proofs.YthpmfnffkjjlnaaGreat
namespace Go.VC
section
open Go.ChangeShapes Go.WideShapes Go.ChangeAt Go.RowKit
theorem ZmD {W W':World} {Hs:List HP} (h:Sat (Cx.of W) Hs W'):Below W.heap.size W W':=by
 obtain ⟨h1,h2,h3⟩:=h.streams;have hb:∀ k,k<W.heap.size->W'.heap[k]? =W.heap[k]?:=λ k hk=>by
  have:(Cx.of W).m k=some W.heap[k]:=by simp [Cx.of,hk]
  rw [h.of_ro this];simp [hk]
 refine ⟨h1,h2,h3,?_,hb⟩;rcases Nat.lt_or_ge W'.heap.size W.heap.size with hl|hl
 ·have:=hb W'.heap.size hl
  rw [Array.getElem?_eq_none (Nat.le_refl _)] at this;simp [hl] at this
 ·exact hl
theorem ZgJ {w:World} {a:Addr} {v:Value} (h:w.cell? a=some v):a.spot=none/\∃ l T fr,w.heap[a.block]? =some (.cells l T fr)/\l[a.off]? =some v:=by
 unfold World.cell? at h;split at h
 ·rename_i c T fr hb
  split at h
  ·cases h
  ·rename_i hs
   exact ⟨by simpa using hs,c,T,fr,hb,h⟩
 ·cases h
section
variable {H:Type} {enc:TypeId × Value->H} {P:Program} {W:World} {base:Nat} {spare:Nat->Bool} {held:Bool}
end
end
end Go.VC

namespace Go.VC
section
open Go.ChangeShapes Go.WideShapes Go.ChangeAt Go.RowKit
inductive Tr where
 |int (k:IntKind) (n:Int)|bool (b:Bool)|flt (n:Nat)|str (s:ByteArray)|sl (s:Sl) (xs:List Tr)|st (xs:List Tr)
mutual
def Tr.cells:Tr->List Value
 | .int k n=>[.int k n]
 | .bool b=>[.bool b]
 | .flt n=>[.float .f64 n]
 | .str s=>[.string s]
 | .sl s _=>[.slice s.a s.len s.cap]
 | .st xs=>Tr.cellsL xs
def Tr.cellsL:List Tr->List Value
 |[]=>[]
 |x::xs=>x.cells++Tr.cellsL xs
end
inductive U where
 |int (k:IntKind)|bool|flt|str|sl (u:U)|st (us:List U)
mutual
def U.size:U->Nat
 | .st us=>U.sizeL us
 |_=>1
def U.sizeL:List U->Nat
 |[]=>0
 |u::us=>u.size + U.sizeL us
end
mutual
def Tr.Ok (R:Cx):U->Tr->Prop
 | .int k,.int k' n=>k'=k/\(Lit.int k n).wf=true
 | .bool,.bool _=>True
 | .flt,.flt n=>(Lit.float .f64 n).wf=true
 | .str,.str s=>s.size<=maxLen
 | .sl u,.sl s xs=>(RoN u.size R s (xs.map Tr.cells)/\s.len<=s.cap)/\xs.length<=maxLen/\Tr.OkA R u xs
 | .st us,.st xs=>Tr.OkL R us xs
 |_,_=>False
def Tr.OkA (R:Cx) (u:U):List Tr->Prop
 |[]=>True
 |x::xs=>Tr.Ok R u x/\Tr.OkA R u xs
def Tr.OkL (R:Cx):List U->List Tr->Prop
 |[],[]=>True
 |u::us,x::xs=>Tr.Ok R u x/\Tr.OkL R us xs
 |_,_=>False
end
theorem Tr.okA {R:Cx} {u:U}:∀ {xs:List Tr},Tr.OkA R u xs->∀ x∈xs,Tr.Ok R u x
 |[],_,x,hx=>by cases hx
 |y::ys,h,x,hx=>by
  unfold Tr.OkA at h;rcases List.mem_cons.1 hx with rfl|hx
  ·exact h.1
  ·exact Tr.okA h.2 x hx
theorem Tr.okA_mk {R:Cx} {u:U}:∀ {xs:List Tr},(∀ x∈xs,Tr.Ok R u x)->Tr.OkA R u xs
 |[],_=>by unfold Tr.OkA;trivial
 |y::ys,h=>by
  unfold Tr.OkA;exact ⟨h y List.mem_cons_self,Tr.okA_mk λ x hx=>h x (List.mem_cons_of_mem _ hx)⟩
def ZeP (P:Program) (f:TypeId->Option U):Nat->List Field->Option (List U)
 |_,[]=>some []
 |off,x::xs=>match Nat.beq x.offset off with
  |false=>none
  |true=>match f x.type with
   |none=>none
   |some u=>match Nat.beq (P.cellsOf x.type) u.size with
    |false=>none
    |true=>match ZeP P f (off + u.size) xs with
     |none=>none
     |some us=>some (u::us)
def uOf (P:Program):Nat->TypeId->Option U
 |0,_=>none
 |d + 1,t=>match P.underlying t with
  |some (.int k)=>some (.int k)
  |some .bool=>some .bool
  |some (.float .f64)=>some .flt
  |some .string=>some .str
  |some (.slice e)=>match uOf P d e with
   |some u=>(match Nat.beq (P.cellsOf e) u.size && Nat.blt 0 u.size with|true=>some (.sl u)|false=>none)
   |none=>none
  |some (.struct fs)=>match ZeP P (uOf P d) 0 fs.toList with
   |some us=>(match Nat.beq (P.cellsOf t) (U.sizeL us) with|true=>some (.st us)|false=>none)
   |none=>none
  |some (.array n e)=>match uOf P d e with
   |some u=>(match Nat.beq (P.cellsOf e) u.size && Nat.beq (P.cellsOf t) (n * u.size) with|true=>some (.st (List.replicate n u))|false=>none)
   |none=>none
  |_=>none
section
variable {H:Type} {enc:TypeId × Value->H} {P:Program} {W:World} {base:Nat} {spare:Nat->Bool} {held:Bool}
def ZqF (R:Cx) (u:U) (cs:List Value):Prop:=∃ x:Tr,x.cells=cs/\x.Ok R u
theorem Zc7 {w:World} {base:Nat} {a:Addr} {n:Nat} {cs:List Value} (h:w.cells? base a n=some cs):cs.length=n/\∀ i,i<n->w.cell? (a.add i)=cs[i]?:=by
 unfold World.cells? at h;split at h
 ·refine ⟨by have:=mapM_some_length h;simpa using this,λ i hi=>mapM_some_get h i i (by simp [hi])⟩
 ·cases h
theorem ZoM (a:Addr) (i j:Nat) (hs:a.spot=none):(a.add i).add j=⟨a.block,a.off + (i + j),none⟩:=by
 obtain ⟨b,o,s⟩:=a;simp only at hs;subst hs;rw [ZG,ZG,Nat.add_assoc]
theorem ZeO {d:Nat} (ih:∀ {fuel:Nat} {t:TypeId} {cs:List Value} {y:DataW H × List MemPlace} {u:U},uOf P d t=some u->DataW.trod enc P W base spare held fuel t cs=some y->ZqF (Cx.of W) u cs) {n:Nat} {cs:List Value} {xs:List (DataW H × List MemPlace)}:
  ∀ (fs:List Field) (off:Nat) (us:List U),ZeP P (uOf P d) off fs=some us->(∀ (i:Nat) (f:Field),fs[i]? =some f->∃ y,DataW.trod enc P W base spare held n f.type ((cs.drop f.offset).take (P.cellsOf f.type))=some y)->
   off + U.sizeL us<=cs.length->∃ ts:List Tr,Tr.cellsL ts=(cs.drop off).take (U.sizeL us)/\Tr.OkL (Cx.of W) us ts
 |[],off,us,h,_,_=>by
  simp only [ZeP,Option.some.injEq] at h;subst h;exact ⟨[],by simp [Tr.cellsL,U.sizeL],by unfold Tr.OkL;trivial⟩
 |f::fs,off,us,h,hf,hl=>by
  unfold ZeP at h;split at h
  ·cases h
  rename_i hoff;have hoff:=Nat.eq_of_beq_eq_true hoff;split at h
  ·cases h
  rename_i u hu;split at h
  ·cases h
  rename_i hc;have hc:=Nat.eq_of_beq_eq_true hc;split at h
  ·cases h
  rename_i us' hus;cases h;simp only [U.sizeL] at hl ⊢;obtain ⟨y,hy⟩:=hf 0 f rfl;obtain ⟨x,hx,hxo⟩:=ih hu hy;obtain ⟨ts,hts,htso⟩:=ZeO ih (n:=n) (xs:=xs) fs (off + u.size) us' hus (λ i g hg=>hf (i + 1) g (by simpa using hg)) (by omega);refine ⟨x::ts,?_,by unfold Tr.OkL;exact ⟨hxo,htso⟩⟩;simp only [Tr.cellsL];rw [hx,hts,hoff,hc,List.take_add,List.drop_drop]
theorem Zg7 {u:U} {n s:Nat}:∀ {m:Nat} {cs:List Value},cs.length=m * s->u.size=s->(∀ i,i<m->ZqF (Cx.of W) u ((cs.drop (i * s)).take s))->∃ ts:List Tr,Tr.cellsL ts=cs/\Tr.OkL (Cx.of W) (List.replicate m u) ts
 |0,cs,hl,_,_=>by
  have:cs=[]:=List.length_eq_zero_iff.1 (by simpa using hl);subst this;exact ⟨[],rfl,by unfold Tr.OkL;trivial⟩
 |m + 1,cs,hl,hs,h=>by
  obtain ⟨x,hx,hxo⟩:=h 0 (by omega);obtain ⟨ts,hts,htso⟩:=Zg7 (n:=n) (m:=m) (cs:=cs.drop s) (by rw [List.length_drop,hl,Nat.add_mul];omega) hs (λ i hi=>by
   have:=h (i + 1) (by omega);rw [Nat.add_mul,Nat.one_mul,Nat.add_comm,<-List.drop_drop] at this;exact this)
  refine ⟨x::ts,?_,by rw [List.replicate_succ];unfold Tr.OkL;exact ⟨hxo,htso⟩⟩;simp only [Tr.cellsL];rw [hx,hts];simp
theorem ZeV {α β:Type} {p:Nat->α->Prop}:∀ {n:Nat},(∀ i,i<n->∃ x:α,p i x)->∃ xs:List α,xs.length=n/\∀ i (hi:i<xs.length),p i xs[i]
 |0,_=>⟨[],rfl,λ i hi=>by simp at hi⟩
 |n + 1,h=>by
  obtain ⟨xs,hl,hp⟩:=ZeV (β:=β) (n:=n) λ i hi=>h i (by omega);obtain ⟨x,hx⟩:=h n (by omega);refine ⟨xs++[x],by simp [hl],λ i hi=>?_⟩;by_cases h2:i<xs.length
  ·rw [List.getElem_append_left h2];exact hp i h2
  ·have:i=n:=by simp at hi;omega
   subst this;rw [List.getElem_append_right (by omega)];simpa using hx
theorem Zl4 {fuel:Nat} {t:TypeId} {cs:List Value} {x:DataW H × List MemPlace} (ht:P.underlying t=some (.float .f64)) (h:DataW.trod enc P W base spare held fuel t cs=some x):∃ n,cs=[.float .f64 n]/\(Lit.float .f64 n).wf=true:=by
 cases fuel with
 |zero=>simp [DataW.trod] at h
 |succ n=>
  unfold DataW.trod at h;rw [ht] at h;split at h<;>simp_all
theorem Zf0:∀ {d fuel:Nat} {t:TypeId} {cs:List Value} {y:DataW H × List MemPlace} {u:U},uOf P d t=some u->DataW.trod enc P W base spare held fuel t cs=some y->ZqF (Cx.of W) u cs
 |0,_,_,_,_,_,h,_=>by cases h
 |d + 1,fuel,t,cs,y,u,h,hy=>by
  unfold uOf at h;split at h
  ·rename_i k ht
   cases h;obtain ⟨n,rfl,_,hw⟩:=DataW.trod_int ht hy;exact ⟨.int k n,rfl,rfl,hw⟩
  ·rename_i ht
   cases h;obtain ⟨b,rfl,_⟩:=DataW.trod_bool ht hy;exact ⟨.bool b,rfl,by unfold Tr.Ok;trivial⟩
  ·rename_i ht
   cases h;obtain ⟨n,rfl,hn⟩:=Zl4 ht hy;exact ⟨.flt n,rfl,by unfold Tr.Ok;exact hn⟩
  ·rename_i ht
   cases h;obtain ⟨s,rfl,_,hs⟩:=DataW.trod_string ht hy;exact ⟨.str s,rfl,hs⟩
  ·rename_i e ht
   split at h
   case h_2=>cases h
   rename_i ue hue;split at h
   case h_2=>cases h
   rename_i hc;simp only [Bool.and_eq_true] at hc;have hpos:0<ue.size:=Nat.blt_eq.mp hc.2;have hc:=Nat.eq_of_beq_eq_true hc.1;cases h;rcases DataW.trod_slice ht hy with ⟨rfl,_⟩|⟨a,len,cap,elems,rest,n,_,rfl,_,_,hlc,hcm,hel,helem,_,_⟩
   ·refine ⟨.sl ⟨none,0,0⟩ [],rfl,?_⟩
    unfold Tr.Ok;exact ⟨⟨⟨Wid.nil,rfl,λ h=>absurd rfl h⟩,Nat.le_refl _⟩,Nat.zero_le _,by unfold Tr.OkA;trivial⟩
   ·obtain ⟨xs,hxl,hxs⟩:=ZeV (β:=Unit) (p:=λ i (x:Tr)=>W.cells? base (a.add (i * P.cellsOf e)) (P.cellsOf e)=some x.cells/\x.Ok (Cx.of W) ue) (n:=len) λ i hi=>by
     have h1:=helem i hi;rw [List.getElem?_eq_getElem (by omega)] at h1;obtain ⟨ce,hce,hte⟩:=Option.bind_eq_some_iff.1 h1;obtain ⟨x,rfl,hx⟩:=Zf0 hue hte;exact ⟨x,hce,hx⟩
    refine ⟨.sl ⟨some a,len,cap⟩ xs,rfl,?_⟩;unfold Tr.Ok;have hwid:Wid ue.size (xs.map Tr.cells):=λ r hr=>by
     obtain ⟨x,hx,rfl⟩:=List.mem_map.1 hr;obtain ⟨i,hi,rfl⟩:=List.getElem_of_mem hx;have:=(Zc7 (hxs i hi).1).1;rw [this,hc]
    refine ⟨⟨⟨hwid,by simp [hxl],λ hne=>?_⟩,hlc⟩,by omega,Tr.okA_mk λ x hx=>by obtain ⟨i,hi,rfl⟩:=List.getElem_of_mem hx;exact (hxs i hi).2⟩
    -- the block
    have h0:0<xs.length:=by
     have:0<(xs.map Tr.cells).length:=List.length_pos_iff.2 hne;simpa using this
    have hcell:∀ i (hi:i<xs.length) j,j<ue.size->W.cell? ((a.add (i * ue.size)).add j)=(xs[i].cells)[j]?:=λ i hi j hj=>by
     have:=(Zc7 (hxs i hi).1).2 j (by rw [hc];exact hj);rw [hc] at this;exact this
    have hxl0:∀ i (hi:i<xs.length),(xs[i].cells).length=ue.size:=λ i hi=>by rw [(Zc7 (hxs i hi).1).1,hc]
    have hc0:=hcell 0 h0 0 (by omega);rw [List.getElem?_eq_getElem (by rw [hxl0 0 h0];omega)] at hc0;have hz0:(a.add (0 * ue.size)).add 0=a:=by rw [Nat.zero_mul];simp [Addr.add]
    rw [hz0] at hc0;obtain ⟨hs,l,T,fr,hl,_⟩:=ZgJ hc0;refine ⟨a.block,a.off,l,T,fr,by cases a;simp_all,hl,λ i v hv=>?_⟩
    -- which row, which place
    have hlen:=hwid.len;rw [List.length_map] at hlen;have hi:i<(xs.map Tr.cells).flatten.length:=(List.getElem?_eq_some_iff.1 hv).1;have hq:i / ue.size<xs.length:=by
     rw [hlen] at hi;exact Nat.div_lt_of_lt_mul (by rwa [Nat.mul_comm])
    have hm:i % ue.size<ue.size:=Nat.mod_lt _ (by omega);have hcc:=hcell (i / ue.size) hq (i % ue.size) hm;rw [ZoM a _ _ hs,show i / ue.size * ue.size + i % ue.size=i by rw [Nat.mul_comm];exact Nat.div_add_mod _ _] at hcc;have e1:(xs.map Tr.cells).flatten[i]? =(xs[i / ue.size].cells)[i % ue.size]?:=by
     have h1:i=i / ue.size * ue.size + i % ue.size:=by rw [Nat.mul_comm];exact (Nat.div_add_mod _ _).symm
     conv=>lhs;rw [h1]
     rw [<-List.getElem?_drop,hwid.drop_flat,List.drop_eq_getElem_cons (by simpa using hq),List.flatten_cons,List.getElem?_append_left (by rw [List.getElem_map,hxl0 _ hq];exact hm),List.getElem_map]
    rw [<-e1,hv] at hcc;simp only [World.cell?,hl,Option.isSome_none,Bool.false_eq_true,if_false] at hcc;exact hcc
  ·rename_i fs ht
   split at h
   case h_2=>cases h
   rename_i us hus;split at h
   case h_2=>cases h
   rename_i hc;have hc:=Nat.eq_of_beq_eq_true hc;cases h;obtain ⟨xs,n,_,_,hl,hxl,hf⟩:=DataW.trod_struct ht hy;obtain ⟨ts,hts,hto⟩:=ZeO (d:=d) (λ h h2=>Zf0 h h2) (n:=n) (cs:=cs) (xs:=xs) fs.toList 0 us hus (λ i f hfi=>by
    have hfi2:fs[i]? =some f:=by simpa using hfi
    have hlt:i<xs.length:=by rw [hxl];exact (Array.getElem?_eq_some_iff.1 hfi2).1
    exact ⟨xs[i],by rw [hf i f hfi2];exact List.getElem?_eq_getElem hlt⟩) (by omega)
   refine ⟨.st ts,?_,by unfold Tr.Ok;exact hto⟩;unfold Tr.cells;rw [hts,List.drop_zero,List.take_of_length_le (by omega)]
  ·rename_i m e ht
   split at h
   case h_2=>cases h
   rename_i ue hue;split at h
   case h_2=>cases h
   rename_i hc;simp only [Bool.and_eq_true] at hc;have hc1:=Nat.eq_of_beq_eq_true hc.1;have hc2:=Nat.eq_of_beq_eq_true hc.2;cases h;obtain ⟨xs,n,_,_,hl,hxl,hf⟩:=DataW.trod_array ht hy;obtain ⟨ts,hts,hto⟩:=Zg7 (n:=n) (u:=ue) (s:=ue.size) (m:=m) (cs:=cs) (by rw [hl,hc2]) rfl (λ i hi=>by
    have:=hf i hi;rw [hc1,List.getElem?_eq_getElem (by omega)] at this;exact Zf0 hue this)
   exact ⟨.st ts,by unfold Tr.cells;exact hts,by unfold Tr.Ok;exact hto⟩
  ·cases h
theorem ZoZ {d:Nat} {t:TypeId} {v:Value} {dt:DataW H} {p:List MemPlace} {u:U} (hu:uOf P d t=some u) (h:DataW.Trod enc P W base spare held t v dt p):ZqF (Cx.of W) u v.cells.toList:=by
 obtain ⟨fuel,hf⟩:=h;exact Zf0 hu hf
theorem Znf {α:Type} {R:Cx} {u:U} {s:Sl} {xs:List Tr} (g:α->List Value) (Q:α->Prop) (ho:Tr.Ok R (.sl u) (.sl s xs)) (h:∀ x:Tr,x.Ok R u->∃ e:α,x.cells=g e/\Q e):
  ∃ es:List α,RoN u.size R s (es.map g)/\es.length<=maxLen/\∀ e∈es,Q e:=by
 unfold Tr.Ok at ho;obtain ⟨⟨h1,_⟩,h2,h3⟩:=ho;have key:∀ l:List Tr,(∀ x∈l,x.Ok R u)->∃ es:List α,l.map Tr.cells=es.map g/\es.length=l.length/\∀ e∈es,Q e:=λ l=>by
  induction l with
  |nil=>exact λ _=>⟨[],rfl,rfl,λ _ h=>by cases h⟩
  |cons x l ih=>
   intro hl;obtain ⟨es,h1,h2,h3⟩:=ih λ y hy=>hl y (List.mem_cons_of_mem _ hy);obtain ⟨e,he,hq⟩:=h x (hl x List.mem_cons_self);exact ⟨e::es,by rw [List.map_cons,List.map_cons,he,h1],by simp [h2],λ y hy=>by
    rcases List.mem_cons.1 hy with rfl|hy
    ·exact hq
    ·exact h3 y hy⟩
 obtain ⟨es,e1,e2,e3⟩:=key xs (Tr.okA h3);rw [e1] at h1;exact ⟨es,h1,by omega,e3⟩
theorem RoN.one {R:Cx} {s:Sl} {vs:List Value} (h:RoN 1 R s (vs.map λ v=>[v])) (hb:vs.length<=maxLen):Ro R s vs:=by
 refine ⟨by have:=h.len;simpa using this,by unfold maxLen at hb;omega,λ hne=>?_⟩;obtain ⟨b,off,l,T,fr,h1,h2,h3⟩:=h.mem (by simpa using hne);refine ⟨b,off,l,T,fr,h1,h2,λ i v hv=>h3 i v ?_⟩;have:(vs.map λ v=>[v]).flatten=vs:=by
  clear h3 h hb hne hv
  induction vs with
  |nil=>rfl
  |cons v vs ih=>simp [ih]
 rw [this];exact hv
theorem Zli {R:Cx} {k:IntKind} {s:Sl} {xs:List Tr} (ho:Tr.Ok R (.sl (.int k)) (.sl s xs)):∃ zs:List Int,Ro R s (zs.map (Value.int k))/\zs.length<=maxLen/\∀ z∈zs,(Lit.int k z).wf=true:=by
 obtain ⟨zs,h1,h2,h3⟩:=Znf (λ z:Int=>[Value.int k z]) (λ z=>(Lit.int k z).wf=true) ho λ x hx=>by
  cases x<;>simp only [Tr.Ok] at hx;rename_i k' z;obtain ⟨rfl,hw⟩:=hx;exact ⟨z,rfl,hw⟩
 refine ⟨zs,RoN.one ?_ (by simpa using h2),h2,h3⟩;rw [List.map_map];exact h1
end
end
end Go.VC
namespace Go.Proofs.YthpmfnffkjjlnaaGreat
section
open Go Go.VC Go.ChangeShapes Go.WideShapes Go.ChangeAt Go.RowKit
variable {H:Type} {enc:TypeId × Value->H} {W:World} {r:Reach} {b0:Nat} {v:Value} {d:DataW H} {p:List MemPlace}
set_option maxRecDepth 100000 in
theorem ZmB (hv:Value.okWide Tryz.prog W r b0 33 v) (h:DataW.Trod enc Tryz.prog W 0 (λ _=>true) true 33 v d p):
  ∃ (s:Sl) (bs:List Int),v=.slice s.a s.len s.cap/\SlR (Cx.of W).m s (b8 bs)/\bs.length<=maxLen/\∀ x∈bs,0<=x/\x<256:=by
 obtain ⟨a,n,c,rfl⟩:=okWide_slice Tryz.underlying33 hv;have hcap:n<=c:=by
  simp only [Value.okWide,Tryz.underlying33,Cell.okWide,Cell.ok] at hv;cases a with
  |none=>
   cases n with
   |zero=>exact Nat.zero_le _
   |succ n=>exact hv.elim
  |some a=>exact hv.1
 obtain ⟨x,hx,ho⟩:=ZoZ (d:=6) (u:=.sl (.int .u8)) (by kernel_rfl) h;cases x<;>simp only [Tr.Ok] at ho;rename_i s xs;obtain ⟨bs,h1,h2,h3⟩:=Zli (R:=Cx.of W) (k:=.u8) (s:=s) (xs:=xs) (show Tr.Ok _ (.sl (.int .u8)) (.sl s xs) by unfold Tr.Ok;exact ho);have e:[Value.slice s.a s.len s.cap]=[Value.slice a n c]:=by simpa [Tr.cells,Value.cells] using hx
 have e:=(List.cons.inj e).1;simp only [Value.slice.injEq] at e;obtain ⟨rfl,rfl,rfl⟩:=e;refine ⟨s,bs,rfl,⟨h1.len,hcap,h1.mem⟩,h2,λ z hz=>?_⟩;have:=h3 z hz;simp [Lit.wf,IntKind.min,IntKind.max,IntKind.bits,IntKind.signed] at this;omega
end
end Go.Proofs.YthpmfnffkjjlnaaGreat
