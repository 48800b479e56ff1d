/- Safety, plain: a node follows a leader. No condition. -/
import Derived.Test.YthpmfnffkjjlnaaGreatB6
import Derived.Test.YthpmfnffkjjlnaaGreatB1
import Derived.ProofKit
import Derived.OpenShut
import Derived.ShutString
import Derived.ChangeOld
import Derived.Below
import Derived.Lib.SmallJoins
import Derived.Test.YthpmfnffkjjlnaaGreatB2
namespace Go.Proofs.YthpmfnffkjjlnaaGreat
set_option linter.unusedVariables false
set_option linter.unusedSimpArgs false
open Go Go.VC
open Go.Rf
variable {G G':Gh} {y:Int} {E E':Nat} {n:Rn} {F:List Ey} {C:Ct}
theorem NI.commitF (h:NI C E G n F) (X:XInv C.g0 E G) (hr:n.e.role≠3) (hel:G.h.el n.e.hd.tm) {c:Int} (hc:c≤F.length) (hcm:G.h.Cm n.e.hd.tm c) (he:F.take c.toNat=(G.h.ll n.e.hd.tm).take c.toNat):NI C E G (n.commit c) F:=by
  have hc0:=h.c0
  unfold Rn.commit
  split
  · rename_i h1
    have e:(n.log.commit c).2={ n.log with com:=c }:=by
      unfold Lg.commit
      rw [if_neg (by rw [h.fl.last];omega)]
    have fl:=h.fl.commit c
    rw [e] at fl ⊢
    rcases hcm with h2|⟨t,k,b,h2,h3,h4⟩
    · omega
    · have he2:F.take c.toNat=(G.h.ll t).take c.toNat:=by
        rcases Int.lt_or_eq_of_le h3 with h5|h5
        · exact he.trans (take_le (X.I.lc _ _ _ _ h2 hel h5).2 (by omega))
        · rw [h5];exact he
      exact h.com X.I (.refl n.id G) fl (h.A.more hr (by omega) h2 h3 (by omega) he2) fun _=>rfl
  · exact h
theorem NI.elog (h:NI C E G n F) (X:XInv C.g0 E G) (hel:G.h.el n.e.hd.tm):n.log.com.toNat≤(G.h.ll n.e.hd.tm).length∧F.take n.log.com.toNat=(G.h.ll n.e.hd.tm).take n.log.com.toNat:=h.A.com_ll X.I hel
theorem NI.ackPut (h:NI C E G n F) (X:XInv C.g0 E G) (hel:G.h.el n.e.hd.tm) {k:Nat} (hk:k≤F.length) (he:F.take k=(G.h.ll n.e.hd.tm).take k) {m:Mg} (hkd:m.kd=6∨m.kd=10) (hix:m.ix≤k) (h0:0≤m.ix) (hE:E≤1000000) (h1:m.es=[]) (h2:m.sn=sn0):Goes C E G (n.put m):=by
  have l:Gs n.id G (G.ack n.e.hd.tm n.id k):=.of Gh.ack_le rfl rfl
  have X1:XInv C.g0 E (G.ack n.e.hd.tm n.id k):=⟨X.I.ack' h.A hel hk he,X.rz,X.cz,X.gb,X.oe,X.eb⟩
  have:=X.len h.A.good
  exact .of (by exact l) X1 ((h.le X.I l (h.A.ack hel hk he) fun _=>rfl).put (.of6 (.plain h1 h2 (by dsimp only;omega) (by dsimp only;omega)) hkd fun _=>⟨k,hix,.inr ⟨rfl,rfl,rfl⟩⟩))
theorem NI.follow (h:NI C E G n F) (X:XInv C.g0 E G) (hr:n.e.role≠2∧n.e.role≠3) (hel:G.h.el n.e.hd.tm) {j:Nat} (hj:j≤(G.h.ll n.e.hd.tm).length)
    (hk:∀ k,k≤F.length→F.take k=(G.h.ll n.e.hd.tm).take k→k≤j) {g:Lg} (hb:g.b=n.log.b) (hc:g.com=n.log.com) (fl:FLog g ((G.h.ll n.e.hd.tm).take j))
    {r:Int} (hl:LRel (if n.rsn then [] else C.d.log) { n with log:=g,rfr:=r }):NI C E G { n with log:=g,rfr:=r,g:=grp C.g0 ((G.h.ll n.e.hd.tm).take j),e:={ n.e with g:=grp C.g0 ((G.h.ll n.e.hd.tm).take j) },ps:=none } ((G.h.ll n.e.hd.tm).take j):=by
  obtain ⟨c1,c2⟩:=h.elog X hel
  have hc0:=h.c0
  exact
    { id:=h.id
      i1:=h.i1
      t0:=h.t0
      fl:=fl
      g:=rfl
      eg:=rfl
      sx:=by dsimp only;rw [hb];exact h.sx
      st:=by dsimp only;rw [hb];exact h.st
      sg:=by
        have h1:=hk n.log.com.toNat (by omega) c2
        dsimp only
        rw [List.take_take,Nat.min_eq_left (by rw [h.sx];omega),←take_le c2 (by rw [h.sx];omega)];exact h.sg
      sb:=h.sb
      A:=by dsimp only;rw [hc];exact h.A.follow X.I hel hj hk hr.1 hr.2
      vi:=h.vi
      ys:=fun hr2=>absurd hr2 hr.1
      hr:=fun hs=>by cases hs
      ps:=fun p x hx=>by cases hx
      ms:=h.ms
      rr:=h.rr
      r0:=h.r0
      rs:=h.rs
      rl:=h.rl
      rd:=h.rd
      bd:=⟨h.bd.rs,h.bd.bh,h.bd.rr,h.bd.rn,h.bd.wt⟩
      dk:=⟨h.dk.hd,h.dk.sn,hl⟩ }
theorem commit_e (n:Rn) (c:Int):(n.commit c).e=n.e∧(n.commit c).id=n.id:=by
  unfold Rn.commit
  split<;>exact ⟨rfl,rfl⟩
theorem join_hd (e:Eln) (g:Gp):(e.join g).hd=e.hd:=by unfold Eln.join;split<;>rfl
theorem regroup_hd (n:Rn):n.regroup.e.hd=n.e.hd:=by rw [regroup_e.1,join_hd]
theorem NI.app (h:NI C E G n F) (X:XInv C.g0 E G) (hE:E≤1000000) (hr:n.e.role=0) {m:Mg} (ht:m.tm=n.e.hd.tm) (hM:MgOk m) (hm:AppM G m):Goes C E G (n.app m):=by
  have hel:=hm.el
  have hlen:=hm.len
  have hes:=hm.es
  have hlt:=hm.lt
  have hcm:=hm.cm
  have hi0:=hm.i0
  rw [ht] at hel hlen hes hlt hcm
  have hr2:n.e.role≠2∧n.e.role≠3:=by rw [hr];decide
  have hgb:=X.gb _ hel
  have hf:=h.fl.merge h.A.good (X.I.ok.good _ hel) hi0 hlen hes hlt (h.elog X hel)
  unfold Rn.app
  generalize n.log.merge m.ix m.lt m.es=r at hf ⊢
  dsimp only
  rcases hf with ⟨h1,h2⟩|⟨h1,h2,h3,h4⟩|hM2
  · have e:(r.1.2==0)=false:=by rw [beq_eq_false_iff_ne];exact h1
    rw [e,h2,if_neg (by decide)]
    split
    · refine (h.put (.non (.plain rfl rfl (by dsimp only;exact hM.i0) (by dsimp only;exact hM.i1)) ⟨by show (6:Int)≠3;decide,by show (6:Int)≠5;decide,by show (6:Int)≠7;decide,by show (6:Int)≠9;decide⟩ rfl rfl)).goes X
    · exact h.goes X
  · rw [h1,h2]
    rw [if_pos (by rfl),if_neg (by show ¬ (0:Int)>0;decide)]
    have hmin:(min m.com (m.ix + m.es.length))≤m.ix + m.es.length:=Int.min_le_right _ _
    have h5:=h.commitF X hr2.2 hel (c:=min m.com (m.ix + m.es.length)) (by omega) (hcm.le (Int.min_le_left _ _)) (take_le h4 (by omega))
    obtain ⟨e1,e2⟩:=commit_e n (min m.com (m.ix + m.es.length))
    exact h5.ackPut X (by rw [e1];exact hel) h3 (by rw [e1];exact h4) (.inl rfl) (by dsimp only;omega) (by dsimp only;omega) hE rfl rfl
  · have hc0:=h.c0
    have a0:=hM2.at0
    rw [if_pos (by rw [hM2.ok];rfl),if_pos (by show r.1.1>0;omega)]
    have hN:=h.follow X hr2 hel hlen hM2.max hM2.b hM2.com hM2.fl (r:=if n.rfr==0||decide (r.1.1<n.rfr) then r.1.1 else n.rfr) (by
      refine LRel.fresh h.dk.l hc0.1 (a:=r.1.1) hM2.b a0 hM2.at1 ?_ hM2.low rfl
      have h7:=congrArg List.length hM2.low
      have h8:=h.fl.last
      have h9:=hM2.at1
      show r.1.1≤r.2.b.ix + (r.2.l.length:Int) + 1
      rw [hM2.b]
      rw [List.length_take,List.length_take] at h7
      unfold Lg.last at h9
      omega)
    have hR:=NI.regroup (n:={ n with log:=r.2,rfr:=if n.rfr==0||decide (r.1.1<n.rfr) then r.1.1 else n.rfr }) hN X.I.gr (fun p x hx=>h.ps p x hx)
    have hro:(Rn.fresh { n with log:=r.2 } r.1.1).e.role=0∧(Rn.fresh { n with log:=r.2 } r.1.1).e.hd=n.e.hd:=by
      refine ⟨?_,?_⟩
      · unfold Rn.fresh;rw [regroup_e.1,join_role];exact hr
      · unfold Rn.fresh;rw [regroup_hd]
    have hR:NI C E G (Rn.fresh { n with log:=r.2 } r.1.1) ((G.h.ll n.e.hd.tm).take (m.ix.toNat + m.es.length)):=hR
    have hid:(Rn.fresh { n with log:=r.2 } r.1.1).id=n.id:=rfl
    generalize Rn.fresh { n with log:=r.2 } r.1.1=n2 at hR hro hid ⊢
    have hmin:(min m.com (m.ix + m.es.length))≤m.ix + m.es.length:=Int.min_le_right _ _
    have hl2:((G.h.ll n.e.hd.tm).take (m.ix.toNat + m.es.length)).length=m.ix.toNat + m.es.length:=by rw [List.length_take];omega
    have h5:=hR.commitF X (by rw [hro.1];decide) (by rw [hro.2];exact hel) (c:=min m.com (m.ix + m.es.length)) (by rw [hl2];omega) (by rw [hro.2];exact hcm.le (Int.min_le_left _ _)) (by rw [hro.2,List.take_take,Nat.min_eq_left (by omega)])
    obtain ⟨e1,e2⟩:=commit_e n2 (min m.com (m.ix + m.es.length))
    refine Goes.pre (n:=n) (.refl _ _) (h5.ackPut X (by rw [e1,hro.2];exact hel) (Nat.le_of_eq hl2.symm) (by rw [e1,hro.2,List.take_take,Nat.min_self]) (.inl rfl) (by dsimp only;omega) (by dsimp only;omega) hE rfl rfl) ?_
    show (n2.commit _).id=n.id
    rw [e2,hid]
theorem right_sn {s:Sn} (h:rightSn s=true):inIx s.ix=true∧inIx s.tm=true:=by
  unfold rightSn rightN at h
  simp only [Bool.and_eq_true] at h
  exact ⟨h.1.1.1,h.1.1.2⟩
theorem NI.install (h:NI C E G n F) (X:XInv C.g0 E G) (hE:E≤1000000) (hr:n.e.role=0) {m:Mg} (ht:m.tm=n.e.hd.tm) (hM:MgOk m) (hm:InsM C.g0 G m):Goes C E G (n.install m):=by
  have hel:=hm.el
  have hlen:=hm.len
  have hlt:=hm.lt
  have hg:=hm.g
  have hcm:=hm.cm
  have hi0:=hm.i0
  rw [ht] at hel hlen hlt hcm hg
  have hr2:n.e.role≠2∧n.e.role≠3:=by rw [hr];decide
  have hgb:=X.gb _ hel
  have hc0:=h.c0
  have hlog:=h.elog X hel
  unfold Rn.install
  split
  · exact h.goes X
  · rename_i h1
    simp only [Bool.or_eq_true,Bool.not_eq_true',not_or,Bool.not_eq_false] at h1
    have h1:=right_sn h1.1.1
    split
    · exact h.ackPut X hel (k:=n.log.com.toNat) (by omega) hlog.2 (.inr rfl) (by dsimp only;omega) (by dsimp only;omega) hE rfl rfl
    · rename_i h2
      split
      · rename_i h3
        rw [Bool.and_eq_true,beq_iff_eq] at h3
        obtain ⟨t1,t2,t3⟩:=h.fl.term h3.1
        have hmt:=Hist.matchT h.A.good (X.I.ok.good _ hel) (k:=m.sn.ix.toNat) (by omega) hlen (by rw [hlt,←h3.2,t3])
        have h5:=h.commitF X hr2.2 hel t2 hcm hmt
        obtain ⟨e1,e2⟩:=commit_e n m.sn.ix
        exact Goes.pre (n:=n) (.refl _ _) (h5.ackPut X (by rw [e1];exact hel) (k:=m.sn.ix.toNat) (by omega) (by rw [e1];exact hmt) (.inr rfl) (by dsimp only;omega) (by dsimp only;omega) hE rfl rfl) e2
      · rename_i h3
        have hres:(n.log.reset m.sn.ix m.sn.tm).2=Lg.new m.sn.ix m.sn.tm:=by
          unfold Lg.reset
          rw [h1.1,h1.2,if_neg (by decide),if_neg (by omega)]
        have hk:∀ k,k≤F.length→F.take k=(G.h.ll n.e.hd.tm).take k→k≤m.sn.ix.toNat:=fun k hk he=>by
          rcases Nat.lt_or_ge m.sn.ix.toNat k with h4|h4
          · exfalso
            apply h3
            have hh:n.log.has m.sn.ix=true:=h.fl.has.2 ⟨by omega,by omega⟩
            have ht2:(n.log.term m.sn.ix).2=true:=by unfold Lg.term;rw [if_pos hh]
            rw [Bool.and_eq_true,beq_iff_eq]
            refine ⟨ht2,?_⟩
            rw [(h.fl.term ht2).2.2,take_le he (by omega:m.sn.ix.toNat≤k),hlt]
          · exact h4
        have hl2:((G.h.ll n.e.hd.tm).take m.sn.ix.toNat).length=m.sn.ix.toNat:=by rw [List.length_take];omega
        have fl:FLog (Lg.new m.sn.ix m.sn.tm) ((G.h.ll n.e.hd.tm).take m.sn.ix.toNat):=.new h1.1 h1.2 (by
          refine OkE.left (b:=⟨0,0,0,[]⟩) (m:=(G.h.ll n.e.hd.tm).drop m.sn.ix.toNat) ?_
          rw [List.take_append_drop];exact X.oe _ hel) (by rw [hl2];omega) hlt
        have A1:=h.A.follow X.I hel hlen hk hr2.1 hr2.2
        have A2:AInv G n.id n.e.hd.tm n.e.hd.vt n.e.role ((G.h.ll n.e.hd.tm).take m.sn.ix.toNat) m.sn.ix.toNat:=by
          rcases hcm with h4|⟨t,k,b,h4,h5,h6⟩
          · omega
          · refine A1.more hr2.2 (Nat.le_of_eq hl2.symm) h4 h5 (by omega) ?_
            rw [List.take_take,Nat.min_self]
            rcases Int.lt_or_eq_of_le h5 with h7|h7
            · exact take_le (X.I.lc _ _ _ _ h4 hel h7).2 (by omega)
            · rw [h7]
        have hN:NI C E G { n with log:=(n.log.reset m.sn.ix m.sn.tm).2,sn:=m.sn,rsn:=true,rfr:=0,g:=grp C.g0 ((G.h.ll n.e.hd.tm).take m.sn.ix.toNat),e:={ n.e with g:=grp C.g0 ((G.h.ll n.e.hd.tm).take m.sn.ix.toNat) },ps:=none } ((G.h.ll n.e.hd.tm).take m.sn.ix.toNat):=by
          rw [hres]
          exact
            { id:=h.id
              i1:=h.i1
              t0:=h.t0
              fl:=fl
              g:=rfl
              eg:=rfl
              sx:=rfl
              st:=rfl
              sg:=by
                dsimp only
                rw [List.take_take,Nat.min_self];exact hg
              sb:=hM.db
              A:=A2
              vi:=h.vi
              ys:=fun hr3=>absurd hr3 hr2.1
              hr:=fun hs=>by cases hs
              ps:=fun p x hx=>by cases hx
              ms:=h.ms
              rr:=h.rr
              r0:=h.r0
              rs:=h.rs
              rl:=h.rl
              rd:=h.rd
              bd:=⟨h.bd.rs,h.bd.bh,h.bd.rr,h.bd.rn,h.bd.wt⟩
              dk:=⟨h.dk.hd,fun h=>(by cases h),.inl ⟨rfl,rfl⟩⟩ }
        have hR:=NI.regroup (n:={ n with log:=(n.log.reset m.sn.ix m.sn.tm).2,sn:=m.sn,rsn:=true,rfr:=0 }) hN X.I.gr (fun p x hx=>h.ps p x hx)
        have hro:(Rn.regroup { n with log:=(n.log.reset m.sn.ix m.sn.tm).2,sn:=m.sn,rsn:=true,rfr:=0 }).e.hd=n.e.hd:=by
          rw [regroup_hd]
        refine Goes.pre (n:=n) (.refl _ _) (hR.ackPut X (by rw [hro];exact hel) (k:=m.sn.ix.toNat) (Nat.le_of_eq hl2.symm) (by rw [hro,List.take_take,Nat.min_self]) (.inr rfl) (by dsimp only;omega) (by dsimp only;omega) hE rfl rfl) rfl
end Go.Proofs.YthpmfnffkjjlnaaGreat
/- Safety, plain: a node is asked; a read is answered. No condition. -/
namespace Go.Proofs.YthpmfnffkjjlnaaGreat
set_option linter.unusedVariables false
set_option linter.unusedSimpArgs false
open Go Go.VC
open Go.Rf
variable {G G':Gh} {y:Int} {E E':Nat} {n:Rn} {F:List Ey} {C:Ct}
theorem put_id (n:Rn) (m:Mg):(n.put m).id=n.id:=rfl
theorem app_id (n:Rn) (m:Mg):(n.app m).id=n.id:=by
  unfold Rn.app
  dsimp only
  split
  · rw [put_id,(commit_e _ _).2]
    split<;>rfl
  · split<;>rfl
theorem install_id (n:Rn) (m:Mg):(n.install m).id=n.id:=by
  unfold Rn.install
  split
  · rfl
  · split
    · rfl
    · split
      · rw [put_id,(commit_e _ _).2]
      · rfl
theorem heard_not {e:Eln} {fr t:Int} (h:e.heardOk fr t=false):e.heard fr t=e:=by unfold Eln.heard;rw [h,if_neg (by decide)]
theorem voted_non {n:Rn} {led:Bool} (h:n.e.role≠3):n.voted led []={ n with ps:=none,rs:=[] }:=by
  unfold Rn.voted
  have hb:(n.e.role !=3)=true:=by rw [bne_iff_ne];exact h
  dsimp only
  rw [hb,if_pos rfl,List.map_nil,List.append_nil]
theorem NI.heardN (h:NI C E G n F) (X:XInv C.g0 E G) {fr t:Int} (hok:n.e.heardOk fr t=true):
    NI C E G (Rn.voted { n with e:=n.e.heard fr t } false []) F∧(Rn.voted { n with e:=n.e.heard fr t } false []).e.role=0∧(Rn.voted { n with e:=n.e.heard fr t } false []).e.hd.tm=t∧(Rn.voted { n with e:=n.e.heard fr t } false []).id=n.id:=by
  obtain ⟨_,hr,ht⟩:=h.heardE X hok
  rw [voted_non (n:={ n with e:=n.e.heard fr t }) (by rw [hr];decide)]
  refine ⟨?_,hr,ht,rfl⟩
  have t0:=h.t0
  have hok':=hok
  unfold Eln.heardOk at hok'
  simp only [Bool.and_eq_true,Bool.not_eq_true',decide_eq_false_iff_not] at hok'
  have e:n.e.heard fr t={ (if t>n.e.hd.tm then n.e.down t else n.e) with role:=0,lead:=fr,wait:=0 }:=by unfold Eln.heard;rw [if_pos hok]
  refine h.elec X.I (Nat.le_refl E) (.refl n.id G) ?_ (by rw [ht];omega) ?_ ?_ (fun h=>by rw [hr] at h;rcases h with h|h<;>exact absurd h (by decide)) (fun h=>absurd (hr.symm.trans h) (by decide)) (fun h=>absurd (hr.symm.trans h) (by decide)) h.r0 h.bd.rn ?_
  · rw [e];split<;>exact h.id
  · rw [e];split<;>rfl
  · rw [hr,ht,e]
    split
    · rename_i h1;exact h.A.up h1 (by decide) (by decide)
    · have e2:t=n.e.hd.tm:=by omega
      rw [e2]
      exact h.A.rest (by decide) (by decide)
  · rw [e];show (0:Int)≤(E:Int);omega
theorem NI.asked (h:NI C E G n F) (X:XInv C.g0 E G) (hE:E≤1000000) {m:Mg} (hk:m.kd=5∨m.kd=7∨m.kd=9) (hto:m.to'=n.id) (hM:MInv C.g0 G m):Goes C E G (n.asked m):=by
  unfold Rn.asked
  split
  · exact (h.put (m:={ kd:=m.kd + 1,to':=m.fr,ix:=m.ix }) (.non (.plain rfl rfl hM.ok.i0 hM.ok.i1) ⟨by show m.kd + 1≠3;omega,by show m.kd + 1≠5;omega,by show m.kd + 1≠7;omega,by show m.kd + 1≠9;omega⟩ rfl rfl)).goes X
  · rename_i h0
    split
    · rename_i h1
      rw [heard_not (by simpa using h1)]
      exact h.goes X
    · rename_i h1
      have hok:n.e.heardOk m.fr m.tm=true:=by simpa using h1
      obtain ⟨h2,hr,ht,hid⟩:=h.heardN X hok
      generalize Rn.voted { n with e:=n.e.heard m.fr m.tm } false []=n1 at h2 hr ht hid ⊢
      dsimp only
      split
      · rename_i h5
        exact Goes.pre (n:=n) (.refl _ _) (h2.app X hE hr ht.symm hM.ok (hM.m5 (beq_iff_eq.1 h5))) ((app_id _ _).trans hid)
      · split
        · rename_i h7
          have hb:=hM.m7 (beq_iff_eq.1 h7)
          have hel:=hb.el
          have hcm:=hb.cm
          have hrr:=hb.rr
          have hak:=hb.ak
          rw [←ht] at hel hcm hrr hak
          have hl:=h2.fl.last
          have hc0:=h2.c0
          have hF:F.take (min m.com n1.log.last).toNat=(G.h.ll n1.e.hd.tm).take (min m.com n1.log.last).toNat:=by
            rcases hak with h8|⟨k,h8,h9⟩
            · rw [show (min m.com n1.log.last).toNat=0 by omega,List.take_zero,List.take_zero]
            · rw [hto,←hid] at h9
              rcases (h2.A.aks _ _ h9).2 (min m.com n1.log.last).toNat (by omega) with ⟨_,h10⟩|⟨u',_,h10,h11,_⟩
              · exact h10
              · omega
          have h3:=h2.commitF X (by rw [hr];decide) hel (c:=min m.com n1.log.last) (by omega) (hcm.le (Int.min_le_left _ _)) hF
          obtain ⟨e1,e2⟩:=commit_e n1 (min m.com n1.log.last)
          have elast:n1.log.last=F.length:=hl
          have hFl:=X.len h.A.good
          generalize n1.commit (min m.com n1.log.last)=n2 at h3 e1 e2 ⊢
          have l:Gs n2.id G (G.beat n2.e.hd.tm n2.id m.rnd):=⟨Gh.beat_le,fun t r hb=>by
            rcases hb with hb|⟨h10,_,_⟩
            · exact .inl hb
            · refine .inr fun u c L hv=>?_
              have:=h3.A.vts _ _ _ hv
              omega,fun _ _ _=>rfl⟩
          have X1:XInv C.g0 E (G.beat n2.e.hd.tm n2.id m.rnd):=⟨X.I.beat (by rw [e1];exact hrr),X.rz,X.cz,X.gb,X.oe,X.eb⟩
          have h4:=(h3.le X.I l (h3.A.beat m.rnd) fun _=>rfl).put (m:={ kd:=8,to':=m.fr,yes:=true,rnd:=m.rnd,ix:=n1.log.last }) (.of8 (.plain rfl rfl (by dsimp only;omega) (by dsimp only;omega)) rfl (.inr (.inr ⟨rfl,rfl,rfl⟩)))
          exact Goes.pre (n:=n) (.refl _ _) (Goes.of (by exact l) X1 h4) (e2.trans hid)
        · split
          · rename_i h9
            exact Goes.pre (n:=n) (.refl _ _) (h2.install X hE hr ht.symm hM.ok (hM.m9 (beq_iff_eq.1 h9))) ((install_id _ _).trans hid)
          · exact Goes.pre (n:=n) (.refl _ _) (h2.goes X) hid
theorem asked_id (n:Rn) (m:Mg):(n.asked m).id=n.id:=by
  unfold Rn.asked
  split
  · rfl
  · split
    · rfl
    · dsimp only
      split
      · rw [app_id,voted_id]
      · split
        · rw [put_id,(commit_e _ _).2,voted_id]
        · split
          · rw [install_id,voted_id]
          · rw [voted_id]
theorem NI.readOk (h:NI C E G n F) (X:XInv C.g0 E G) (hr:n.e.role=3) {x:Rq} (hx:RdW C G n.e.hd.tm n.id x) (hw:winsG n.g.vs n.g.ls x.bh=true):RdO C.aq (x.tok,x.ix):=by
  rcases hx.ok with h1|⟨v,q,h1,h2,h3,h4,h5⟩
  · exact h1
  · exfalso
    obtain ⟨hel,hld,hll⟩:=h.l3 hr
    obtain ⟨m,hm1,hm2⟩:=X.I.read hel h1 h2 hx.bn.2 h3 (q:=x.bh) (by rw [hll,←h.g];exact hw) h4
    obtain ⟨⟨L,hL⟩,h6⟩:=h5 m hm2
    rcases hx.bh m (hasL_mem.1 hm1) with h7|⟨r,h7,h8⟩
    · rw [h7] at hL
      have:=h.A.vts _ _ _ hL
      omega
    · have:=h6 r h8;omega
theorem NI.behind (h:NI C E G n F) (X:XInv C.g0 E G) (hr:n.e.role=3) {fr rnd:Int} (hb:rnd≤0∨G.bt n.e.hd.tm fr rnd):NI C (E + 1) G (n.behind fr rnd) F:=by
  have hs:∀ x∈n.rs.map (Rq.stand fr rnd),RdW C G n.e.hd.tm n.id x∧x.bh.length≤E + 2:=fun x hx=>by
    obtain ⟨z,hz,rfl⟩:=List.mem_map.1 hx
    have h1:=h.rs z hz
    have h2:=h.bd.bh z hz
    unfold Rq.stand
    split
    · rename_i h3
      refine ⟨⟨h1.r1,h1.tk,h1.bn,fun w hw=>?_,h1.ok⟩,by dsimp only;rw [List.length_append];simp only [List.length_cons,List.length_nil];omega⟩
      rcases List.mem_append.1 hw with hw|hw
      · exact h1.bh w hw
      · rw [List.mem_singleton] at hw
        subst hw
        have:=h1.r1
        exact .inr ⟨rnd,h3,hb.resolve_left (by omega)⟩
    · exact ⟨h1,by omega⟩
  have hl:(n.rs.map (Rq.stand fr rnd)).length≤64:=by rw [List.length_map];exact h.bd.rs
  unfold Rn.behind
  generalize n.rs.map (Rq.stand fr rnd)=l at hs hl ⊢
  dsimp only
  exact { h with
    rs:=fun x hx=>(hs x (List.mem_filter.1 hx).1).1
    rl:=fun _=>hr
    rd:=fun x hx=>by
      rcases List.mem_append.1 hx with hx|hx
      · exact h.rd x hx
      · obtain ⟨z,hz,rfl⟩:=List.mem_map.1 hx
        obtain ⟨hz1,hz2⟩:=List.mem_filter.1 hz
        exact h.readOk X hr (hs z hz1).1 hz2
    bd:=⟨Nat.le_trans (List.length_filter_le _ _) hl,fun x hx=>by have:=(hs x (List.mem_filter.1 hx).1).2;omega,by
        show (n.rrd++_).length≤_
        rw [List.length_append,List.length_map]
        have h1:=List.length_filter_le (Rq.wins n.g) l
        have h2:=h.bd.rr
        omega,by show n.rnd≤((E + 1:Nat):Int);have:=h.bd.rn;omega,by show n.e.wait≤((E + 1:Nat):Int);have:=h.bd.wt;omega⟩
    dk:=⟨h.dk.hd,h.dk.sn,h.dk.l⟩ }
end Go.Proofs.YthpmfnffkjjlnaaGreat
/- Safety, plain: a node's answers; all that it is told. No condition. -/
namespace Go.Proofs.YthpmfnffkjjlnaaGreat
set_option linter.unusedVariables false
set_option linter.unusedSimpArgs false
open Go Go.VC
open Go.Rf
variable {G G':Gh} {y:Int} {E E':Nat} {n:Rn} {F:List Ey} {C:Ct}
theorem peer_some {p:Int} {x:Pe} (h:n.peer p=some x):n.ps.isSome=true:=by
 cases hq:n.ps with
 |none=>unfold Rn.peer at h;rw [hq] at h;cases h
 |some l=>rfl
theorem NI.said (h:NI C E G n F) (X:XInv C.g0 E G) (hE:E + 1≤1000000) {m:Mg} (hk:m.kd=6∨m.kd=8∨m.kd=10) (hM:MInv C.g0 G m):Goes C (E + 1) G (n.said m):=by
 have hE1:E≤E + 1:=Nat.le_succ E
 have hE2:E≤1000000:=by omega
 unfold Rn.said
 split
 ·exact h.ballot X hE (fun h=>absurd h (by show (4:Int)≠3;decide)) (fun _ h=>by cases h)
 ·split
  ·exact (h.goes X).more hE1
  ·rename_i h1 h2
   have ht:m.tm=n.e.hd.tm:=by omega
   split
   ·exact (h.goes X).more hE1
   ·rename_i x hp
    have hr:=h.hr (peer_some hp)
    have hx:=h.ps _ _ hp
    split
    ·rename_i h8
     have hb:=hM.m8 (beq_iff_eq.1 h8)
     rw [ht] at hb
     have hB:=h.behind X hr hb
     split
     ·exact Goes.pre (n:=n) (.refl _ _) ((hB.send (X.more hE1) hE _).goes (X.more hE1)) ((send_id _ _).1.trans rfl)
     ·exact Goes.pre (n:=n) (.refl _ _) (hB.goes (X.more hE1)) rfl
    ·rename_i h8
     have h8:m.kd≠8:=fun e=>h8 (beq_iff_eq.2 e)
     split
     ·rename_i h9
      rw [Bool.and_eq_true] at h9
      have h610:m.kd=6∨m.kd=10:=by
       rcases hk with hk|hk|hk
       ·exact .inl hk
       ·exact absurd hk h8
       ·exact .inr hk
      obtain ⟨k,hk1,hk2⟩:=hM.m6 h610 h9.1
      rw [ht] at hk2
      have hm:(x.acked m.ix).2.mt≤0∨∃ k:Nat,(x.acked m.ix).2.mt≤k∧G.ak n.e.hd.tm m.fr k:=by
       rcases acked_mt x m.ix with e|e
       ·rw [e];exact hx
       ·rw [e]
        rcases hx with h3|⟨j,h3,h4⟩
        ·exact .inr ⟨k,by omega,hk2⟩
        ·rcases Int.le_total x.mt m.ix with h5|h5
         ·exact .inr ⟨k,by omega,hk2⟩
         ·exact .inr ⟨j,by omega,h4⟩
      have hS:=h.setP hm
      split
      ·exact Goes.pre (n:=n) (.refl _ _) (Goes.more (Goes.bind (hS.advance X hr) (fun G1 F1 X1 h1=>(h1.send X1 hE2 _).goes X1) (send_id _ _).1) hE1) ((send_id _ _).1.trans ((advance_id _).trans rfl))
      ·exact Goes.pre (n:=n) (.refl _ _) (((hS.send X hE2 _).goes X).more hE1) ((send_id _ _).1.trans rfl)
     ·split
      ·exact (h.goes X).more hE1
      ·split
       ·exact ((NI.setP h (by rw [over_mt];exact hx)).goes X).more hE1
       ·have hS:=NI.setP (x:=(x.refused m.ix m.hint).2) h (by rw [refused_mt];exact hx)
        split
        ·exact Goes.pre (n:=n) (.refl _ _) (((hS.send X hE2 _).goes X).more hE1) ((send_id _ _).1.trans rfl)
        ·exact (hS.goes X).more hE1
theorem said_id (n:Rn) (m:Mg):(n.said m).id=n.id:=by
 unfold Rn.said
 split
 ·exact ballot_id _ _
 ·split
  ·rfl
  ·split
   ·rfl
   ·split
    ·split
     ·exact (send_id _ _).1.trans rfl
     ·rfl
    ·split
     ·split
      ·exact (send_id _ _).1.trans ((advance_id _).trans rfl)
      ·exact (send_id _ _).1.trans rfl
     ·split
      ·rfl
      ·split
       ·rfl
       ·split
        ·exact (send_id _ _).1.trans rfl
        ·rfl
theorem NI.step (h:NI C E G n F) (X:XInv C.g0 E G) (hE:E + 1≤1000000) {m:Mg} (hM:MInv C.g0 G m):Goes C (E + 1) G (n.step m):=by
 have hE1:E≤E + 1:=Nat.le_succ E
 unfold Rn.step
 split
 ·exact (h.goes X).more hE1
 ·rename_i h1
  have hto:m.to'=n.id:=by
   simp only [Bool.not_eq_true',Bool.not_eq_false] at h1
   unfold Rn.hears at h1
   simp only [Bool.and_eq_true,Bool.not_eq_true',bne_eq_false_iff_eq] at h1
   exact h1.1.1.1
  split
  ·exact h.ballot X hE hM.m3 hM.m4
  ·split
   ·rename_i h2
    simp only [Bool.or_eq_true,beq_iff_eq] at h2
    exact (h.asked X (by omega) (by omega) hto hM).more hE1
   ·split
    ·rename_i h2
     simp only [Bool.or_eq_true,beq_iff_eq] at h2
     exact h.said X hE (by omega) hM
    ·exact (h.goes X).more hE1
theorem step_id (n:Rn) (m:Mg):(n.step m).id=n.id:=by
 unfold Rn.step
 split
 ·rfl
 ·split
  ·exact ballot_id _ _
  ·split
   ·exact asked_id _ _
   ·split
    ·exact said_id _ _
    ·rfl
theorem NI.lead (h:NI C E G n F) (X:XInv C.g0 E G) (hE:E + 1≤1000000) (hr:n.e.role=3) {kd:Int} {dt:List Int} (hb:bytesOk dt)
  (hch:kd=2→∃ i b,G.h.rc n.e.hd.tm i b∧∀ (j:Nat) (d:Ey),i≤j→F[j]? =some d→isCh d=false):Goes C (E + 1) G (n.lead kd dt).2:=by
 obtain ⟨h1,h2,h3⟩:=h.enter X hr hb hch
 unfold Rn.lead
 dsimp only
 split
 ·exact h1
 ·exact h1.advAll h2 hE
theorem lead_id (n:Rn) (kd:Int) (dt:List Int):(n.lead kd dt).2.id=n.id:=by
 unfold Rn.lead
 dsimp only
 split
 ·exact (enter_e _ _ _).2
 ·rw [all_id,advance_id];exact (enter_e _ _ _).2
theorem NI.propose (h:NI C E G n F) (X:XInv C.g0 E G) (hE:E + 1≤1000000) {dt:List Int} (hb:bytesOk dt):Goes C (E + 1) G (n.propose dt).2:=by
 unfold Rn.propose
 split
 ·exact (h.goes X).more (Nat.le_succ E)
 ·rename_i h1
  split
  ·exact (h.goes X).more (Nat.le_succ E)
  ·exact h.lead X hE (by simpa using h1) hb (fun e=>absurd e (by decide))
theorem propose_id (n:Rn) (dt:List Int):(n.propose dt).2.id=n.id:=by
 unfold Rn.propose
 split
 ·rfl
 ·split
  ·rfl
  ·exact lead_id _ _ _
theorem NI.ownE (h:NI C E G n F) (X:XInv C.g0 E G) (ho:n.own=true):n.e.role=3∧G.h.bn n.e.hd.tm<n.log.com.toNat:=by
 unfold Rn.own at ho
 simp only [Bool.and_eq_true,beq_iff_eq] at ho
 obtain ⟨⟨h1,h2⟩,hr⟩:=ho
 refine ⟨hr,?_⟩
 obtain ⟨t1,t2,t3⟩:=h.fl.term h1
 obtain ⟨hel,hld,hll⟩:=h.l3 hr
 have hc:=h.c0
 have hpos:=X.I.pos _ hel
 rcases Nat.lt_or_ge (G.h.bn n.e.hd.tm) n.log.com.toNat with h4|h4
 ·exact h4
 ·exfalso
  rcases Nat.eq_zero_or_pos n.log.com.toNat with h5|h5
  ·rw [h5,List.take_zero] at t3
   have:ltm []=0:=rfl
   omega
  ·have hk:n.log.com.toNat - 1<F.length:=by omega
   have he:=List.getElem?_eq_getElem hk
   have h6:=ltm_take he
   rw [show n.log.com.toNat - 1 + 1=n.log.com.toNat by omega] at h6
   have h7:=X.I.ok.old n.e.hd.tm (n.log.com.toNat - 1) F[n.log.com.toNat - 1] hel (by rw [hll];exact he) (by omega)
   omega
theorem NI.change (h:NI C E G n F) (X:XInv C.g0 E G) (hE:E + 1≤1000000) (kd nd:Int):Goes C (E + 1) G (n.change kd nd).2:=by
 have hE1:=Nat.le_succ E
 unfold Rn.change
 split
 ·exact (h.goes X).more hE1
 ·split
  ·exact (h.goes X).more hE1
  ·rename_i h1
   split
   ·exact (h.goes X).more hE1
   ·rename_i h2
    simp only [Bool.or_eq_true,Bool.not_eq_true',not_or,Bool.not_eq_false,Bool.not_eq_true] at h2
    obtain ⟨⟨_,ho⟩,ha⟩:=h2
    obtain ⟨hr,hbn⟩:=h.ownE X ho
    have hc:=h.c0
    have hk:(1≤kd∧kd≤3)∧1≤nd∧nd≤15:=by
     have h1':(chG n.g.vs n.g.ls kd nd).2.2=0:=by simpa using h1
     refine Classical.byContradiction fun hn=>?_
     have:=chG_arg (v:=n.g.vs) (l:=n.g.ls) (kind:=kd) (n:=nd) (.inr (by omega))
     rw [this] at h1'
     exact absurd h1' (by decide)
    refine h.lead X hE hr (fun z hz=>?_) fun _=>?_
    ·rcases List.mem_append.1 hz with hz|hz
     ·exact numB_bd (by omega) z hz
     ·exact numB_bd (by omega) z hz
    ·obtain ⟨_,_,_,_,h5⟩:=h.A.l3 hr
     obtain ⟨b,hb⟩:=h5 hbn
     refine ⟨_,b,hb,fun j d hj hd=>?_⟩
     rw [h.fl.get _ hc.2.1,h.fl.last,List.any_eq_false] at ha
     have hjl:=get_lt hd
     have hm:d∈(F.drop n.log.com.toNat).take ((F.length:Int) - n.log.com).toNat:=by
      refine List.mem_of_getElem? (i:=j - n.log.com.toNat) ?_
      rw [List.getElem?_take_of_lt (by omega),List.getElem?_drop,show n.log.com.toNat + (j - n.log.com.toNat)=j by omega]
      exact hd
     have:=ha d hm
     unfold isCh
     simpa using this
theorem change_id (n:Rn) (kd nd:Int):(n.change kd nd).2.id=n.id:=by
 unfold Rn.change
 split
 ·rfl
 ·split
  ·rfl
  ·split
   ·rfl
   ·exact lead_id _ _ _
end Go.Proofs.YthpmfnffkjjlnaaGreat
/- Safety, plain: a read is asked; a node compacts; begins anew. No condition. -/
namespace Go.Proofs.YthpmfnffkjjlnaaGreat
set_option linter.unusedVariables false
set_option linter.unusedSimpArgs false
open Go Go.VC
open Go.Rf
variable {G G':Gh} {y:Int} {E E':Nat} {n:Rn} {F:List Ey} {C:Ct} {g0:Gp}
theorem late_min {h:Hist} {t:Int}:∀ (N:Nat) {v:Int},(v - t).toNat≤N→h.el v→t<v→∃ v,h.el v∧t<v∧∀ v',h.el v'→t<v'→v≤v'
  |0,v,hN,_,ht=>by omega
  |N + 1,v,hN,hv,ht=>by
    by_cases hx:∃ v',h.el v'∧t<v'∧v'<v
    · obtain ⟨v',h1,h2,h3⟩:=hx
      exact late_min N (by omega) h1 h2
    · refine ⟨v,hv,ht,fun v' h1 h2=>?_⟩
      refine Classical.byContradiction fun h3=>hx ⟨v',h1,h2,by omega⟩
theorem Late.of (I:GInv g0 G) {t v r:Int} (hv:G.h.el v) (ht:t<v) (hr:G.rr t<r):Late g0 G t r:=by
  obtain ⟨v,h1,h2,h3⟩:=late_min (h:=G.h) (t:=t) _ (Nat.le_refl _) hv ht
  obtain ⟨q,h4,h5⟩:=I.win v h1
  refine ⟨v,q,h1,h2,fun k e he=>?_,h4,fun p hp=>⟨?_,fun r' hb=>?_⟩⟩
  · have h6:=I.lb_lt h1 k e he
    have h7:=(I.lb_good h1 k e he).1
    refine Classical.byContradiction fun h8=>?_
    have:=h3 _ h7 (by omega)
    omega
  · obtain ⟨L,hL,_⟩:=h5 p hp
    exact ⟨L,hL⟩
  · have:=I.btr _ _ _ hb;omega
def Ct.ask (C:Ct) (t m:Int):Ct:={ C with aq:=C.aq++[(t,m)],tok:=t }
def Ct.tk (C:Ct) (t:Int):Ct:={ C with tok:=t }
def Ct.wd (C:Ct) (d:Dk):Ct:={ C with d:=d }
theorem NI.asks (h:NI C E G n F) (hq:n.rrd=[]) {t m:Int} (ht:C.tok<t):NI (C.ask t m) E G n F:={ h with
  rs:=fun x hx=>by
    have a:=h.rs x hx
    refine ⟨a.r1,by have:=a.tk;show x.tok≤t;omega,a.bn,a.bh,a.ok.imp_left fun b c hc e=>?_⟩
    rcases List.mem_append.1 hc with hc|hc
    · exact b c hc e
    · rw [List.mem_singleton] at hc
      subst hc
      have e:t=x.tok:=e
      have:=a.tk
      omega
  rd:=fun x hx=>by rw [hq] at hx;cases hx
  dk:=h.dk }
theorem NI.tk (h:NI C E G n F) {t:Int} (ht:C.tok≤t):NI (C.tk t) E G n F:={ h with
  rs:=fun x hx=>by
    have a:=h.rs x hx
    exact ⟨a.r1,by have:=a.tk;show x.tok≤t;omega,a.bn,a.bh,a.ok⟩
  dk:=h.dk }
theorem NI.read (h:NI C E G n F) (X:XInv C.g0 E G) (hq:n.rrd=[]) {t m:Int} (ht:C.tok<t) (has:∀ a∈C.aq,a.1≤C.tok) (hm:m≤0∨∃ t k b,G.h.rc t k b∧m≤(k:Nat)) (h0:(n.read t).1=0):Goes (C.ask t m) (E + 1) G (n.read t).2:=by
  have h':=h.asks hq (m:=m) ht
  unfold Rn.read at h0 ⊢
  by_cases h1:(!n.own||decide ((n.rs.length:Int) ≥ 64))=true
  · rw [if_pos h1] at h0;exact absurd h0 (by show ¬ (7:Int)=0;decide)
  · rw [if_neg h1]
    simp only [Bool.or_eq_true,Bool.not_eq_true',decide_eq_true_eq,not_or,Bool.not_eq_false] at h1
    obtain ⟨ho,hl⟩:=h1
    obtain ⟨hr,hbn⟩:=h.ownE X ho
    obtain ⟨hel,hld,hll⟩:=h.l3 hr
    have hc0:=h.c0
    have hrr:=h.rr hr
    have r0:=h.r0
    have hx:RdW (C.ask t m) G n.e.hd.tm n.id ⟨t,n.log.com,n.rnd + 1,[n.id]⟩:=by
      refine ⟨by show 1≤n.rnd + 1;omega,Int.le_refl _,⟨hel,by rw [hll];omega⟩,fun z hz=>.inl (List.mem_singleton.1 hz),?_⟩
      have done:m≤n.log.com→RdO (C.ask t m).aq (t,n.log.com):=fun hle a ha e=>by
        rcases List.mem_append.1 ha with ha|ha
        · have:=has a ha
          have e:a.1=t:=e
          omega
        · rw [List.mem_singleton] at ha;subst ha;exact hle
      by_cases hmc:m≤n.log.com
      · exact .inl (done hmc)
      · rcases hm with h2|⟨t0,k,b,h2,h3⟩
        · exact .inl (done (by omega))
        · have hel0:=(X.I.ok.rc _ _ _ h2).1
          refine .inr (Late.of X.I hel0 ?_ (by show G.rr n.e.hd.tm<n.rnd + 1;omega))
          rcases Int.lt_trichotomy t0 n.e.hd.tm with h4|h4|h4
          · have:=(X.I.lc _ _ _ _ h2 hel h4).1
            omega
          · rw [h4] at h2
            have:=(h.A.l3 hr).2.2.2.1 _ _ h2
            omega
          · exact h4
    split
    · rename_i hw
      have hd:=h'.readOk X hr hx hw
      refine NI.goes (F:=F) ?_ (X.more (Nat.le_succ E))
      exact { h'.more (Nat.le_succ E) with
        rd:=fun x hx=>by
          rcases List.mem_append.1 hx with hx|hx
          · exact h'.rd x hx
          · rw [List.mem_singleton] at hx;subst hx;exact hd
        bd:=⟨h.bd.rs,fun x hx=>by have:=h.bd.bh x hx;omega,by
          show (n.rrd++[_]).length≤_
          rw [hq]
          show 1≤64 * (E + 1)
          omega,by show n.rnd≤((E + 1:Nat):Int);have:=h.bd.rn;omega,by show n.e.wait≤((E + 1:Nat):Int);have:=h.bd.wt;omega⟩
        dk:=⟨h.dk.hd,h.dk.sn,h.dk.l⟩ }
    · have l:Gs n.id G (G.round n.e.hd.tm (n.rnd + 1)):=⟨Gh.round_le,fun _ _ h=>.inl h,fun t' _ hn=>by
        show (if t'=n.e.hd.tm then _ else G.rr t')=G.rr t'
        rw [if_neg (fun e=>hn (by rw [e];exact hld))]⟩
      have X1:XInv C.g0 (E + 1) (G.round n.e.hd.tm (n.rnd + 1)):=⟨X.I.round _ _,fun t'=>by
        by_cases e:t'=n.e.hd.tm
        · exact .inl (e ▸ hel)
        · rcases X.rz t' with h2|h2
          · exact .inl h2
          · exact .inr (by show (if t'=n.e.hd.tm then _ else G.rr t')=0;rw [if_neg e];exact h2),X.cz,(X.more (Nat.le_succ E)).gb,X.oe,X.eb⟩
      refine Goes.of (by rw [beats_id];exact l) X1 (NI.beats (F:=F) ?_ hr)
      exact { h' with
        A:=h.A.round _ _
        rr:=fun _=>by
          show (if n.e.hd.tm=n.e.hd.tm then max (n.rnd + 1) (G.rr n.e.hd.tm) else _)=n.rnd + 1
          rw [if_pos rfl];omega
        r0:=by show 0≤n.rnd + 1;omega
        ms:=fun m hm=>(h.ms m hm).le l.le
        rs:=fun x hx'=>by
          rcases List.mem_append.1 hx' with hx'|hx'
          · exact (h'.rs x hx').le X.I l
          · rw [List.mem_singleton] at hx';subst hx';exact hx.le X.I l
        rl:=fun _=>hr
        bd:=⟨by show (n.rs++[_]).length≤64;rw [List.length_append];simp only [List.length_cons,List.length_nil];omega,fun x hx=>by
          rcases List.mem_append.1 hx with hx|hx
          · have:=h.bd.bh x hx;omega
          · rw [List.mem_singleton] at hx;subst hx;show 1≤_;omega,by show n.rrd.length≤_;rw [hq];exact Nat.zero_le _,by show n.rnd + 1≤((E + 1:Nat):Int);have:=h.bd.rn;omega,by show n.e.wait≤((E + 1:Nat):Int);have:=h.bd.wt;omega⟩
        dk:=⟨h.dk.hd,h.dk.sn,h.dk.l⟩ }
theorem read_no {t:Int} (h:(n.read t).1≠0):(n.read t).2=n:=by
  unfold Rn.read at *
  by_cases h1:(!n.own||decide ((n.rs.length:Int) ≥ 64))=true
  · rw [if_pos h1]
  · rw [if_neg h1] at h
    exfalso
    apply h
    split<;>rfl
theorem read_id (n:Rn) (t:Int):(n.read t).2.id=n.id:=by
  unfold Rn.read
  split
  · rfl
  · split
    · rfl
    · unfold Rn.beats
      rw [beats_eq]
end Go.Proofs.YthpmfnffkjjlnaaGreat
/- Safety, plain: a node compacts; begins anew. No condition. -/
namespace Go.Proofs.YthpmfnffkjjlnaaGreat
set_option linter.unusedVariables false
set_option linter.unusedSimpArgs false
open Go Go.VC
open Go.Rf
variable {G G':Gh} {y:Int} {E E':Nat} {n:Rn} {F:List Ey} {C:Ct} {g0:Gp}
structure Clean (n:Rn):Prop where
  ms:n.rms=[]
  rd:n.rrd=[]
  fr:n.rfr=0
  sn:n.rsn=false
  told:n.told=n.e.hd
def Rn.disk (n:Rn):Dk:=⟨n.told,n.sn,n.log.l⟩
theorem Clean.drel (h:Clean n):DRel n.disk n:=⟨rfl,fun _=>rfl,by rw [h.sn];exact .inl ⟨h.fr,rfl⟩⟩
theorem NI.comp (h:NI C E G n F) (X:XInv C.g0 E G) (hE:E≤1000000) (hc:Clean n):Clean n.comp.2∧n.comp.2.id=n.id∧(n.comp.1=0→NI (C.wd n.comp.2.disk) E G n.comp.2 F)∧(n.comp.1≠0→NI C E G n.comp.2 F):=by
  have hc0:=h.c0
  have ha0:=h.fl.ok.a0
  have ha1:=h.fl.ok.a1
  have hFl:=X.len h.A.good
  have ea:(n.log.apply n.log.com).2={ n.log with app:=n.log.com }:=by
    unfold Lg.apply
    rw [if_neg (by omega)]
  have fl1:=h.fl.apply n.log.com
  rw [ea] at fl1
  have e1:(n.done n.log.com).2={ n with log:={ n.log with app:=n.log.com } }:=by unfold Rn.done;rw [ea]
  unfold Rn.comp
  rw [e1]
  unfold Rn.compact
  dsimp only
  have fl2:=fl1.compact n.log.com
  have hcp:({ n.log with app:=n.log.com }:Lg).compact n.log.com=(0,{ n.log with app:=n.log.com,b:={ n.log.at n.log.com with dt:=[] },l:=n.log.l.drop (n.log.com - n.log.b.ix).toNat }):=by
    unfold Lg.compact
    rw [if_neg (by dsimp only;omega)]
    rfl
  rw [hcp] at fl2
  rw [hcp,if_neg (by show ¬ (1:Int)>60000;decide)]
  dsimp only
  rw [if_neg (by decide)]
  have hi:n.log.has n.log.com=true:=h.fl.has.2 ⟨by omega,by omega⟩
  have hix:=h.fl.ok.at_ix hi
  have hcl:Clean { n with log:={ n.log with app:=n.log.com,b:={ n.log.at n.log.com with dt:=[] },l:=n.log.l.drop (n.log.com - n.log.b.ix).toNat },sn:=⟨n.log.com,(Lg.term { n.log with app:=n.log.com,b:={ n.log.at n.log.com with dt:=[] },l:=n.log.l.drop (n.log.com - n.log.b.ix).toNat } n.log.com).1,Rn.foldG { n with log:={ n.log with app:=n.log.com } } (IntKind.i64.wrap (IntKind.i64.wrap (n.log.com + 1) - (n.log.b.ix + 1))),[n.log.com % 256]⟩ }:=⟨hc.ms,hc.rd,hc.fr,hc.sn,hc.told⟩
  refine ⟨hcl,rfl,fun _=>?_,fun h0=>absurd rfl h0⟩
  exact { h with
    fl:=fl2
    sx:=hix.symm
    st:=by
      have ht:(Lg.term { n.log with app:=n.log.com,b:={ n.log.at n.log.com with dt:=[] },l:=n.log.l.drop (n.log.com - n.log.b.ix).toNat } n.log.com).2=true:=by
        unfold Lg.term
        rw [if_pos (fl2.has.2 ⟨by show (n.log.at n.log.com).ix≤_;rw [hix];omega,by omega⟩)]
      have h1:=(fl2.term ht).2.2
      have h2:=fl2.bt
      have h2:(n.log.at n.log.com).tm=ltm (F.take (n.log.at n.log.com).ix.toNat):=h2
      rw [hix] at h2
      exact h1.trans h2.symm
    sg:=by
      show Rn.foldG _ _=_
      rw [wrap64 (x:=n.log.com + 1) (by omega) (by omega),wrap64 (by omega) (by omega),foldG_eq (n:={ n with log:={ n.log with app:=n.log.com } }) fl1 h.sx h.sg]
      have hsx:=h.sx
      have e9:n.sn.ix.toNat + (n.log.com + 1 - (n.log.b.ix + 1)).toNat=n.log.com.toNat:=by omega
      show grp C.g0 (F.take (n.sn.ix.toNat + (n.log.com + 1 - (n.log.b.ix + 1)).toNat))=grp C.g0 (F.take n.log.com.toNat)
      rw [e9]
    sb:=fun z hz=>by
      have hz:z∈[n.log.com % 256]:=hz
      rw [List.mem_singleton] at hz;omega
    rs:=fun x hx=>by
      have a:=h.rs x hx
      exact ⟨a.r1,a.tk,a.bn,a.bh,a.ok⟩
    bd:=⟨h.bd.rs,h.bd.bh,h.bd.rr,h.bd.rn,h.bd.wt⟩
    dk:=hcl.drel }
theorem NI.anew (h:NI C E G n F) (X:XInv C.g0 E G) (ha:RnA n):∃ n',rnNew n.id n.e.hd n.sn n.log.l 3 2=(0,some n')∧n'.id=n.id∧Clean n'∧n'.disk=⟨n.e.hd,n.sn,n.log.l⟩∧n'.disk=⟨n'.told,n'.sn,n'.log.l⟩∧NI (C.wd n'.disk) E G n' F:=by
  have hsn:=ha.b.sn
  have he:=ha.b.e
  have hid:=h.id
  obtain ⟨s1,s2⟩:=right_sn hsn
  have hc0:=h.c0
  have hsr:rightG n.sn.g.vs n.sn.g.ls=true:=ha.b.g.sg
  have helok:elOk n.id n.e.hd n.sn.g 3=true:=by
    unfold elOk rightN
    have h1:=he.id0
    have h2:=he.id1
    have h3:=he.t0
    have h4:=he.t1
    have h5:=he.v0
    have h6:=he.v1
    rw [hid] at h1 h2
    rw [hsr,decide_eq_true ⟨h1,h2⟩,decide_eq_true ⟨h3,h4⟩,decide_eq_true ⟨h5,h6⟩]
    rfl
  have hadd:(Lg.new n.sn.ix n.sn.tm).add n.log.l=(0,{ Lg.new n.sn.ix n.sn.tm with l:=n.log.l }):=by
    have hes:=h.fl.ok.es
    rw [←h.sx,←h.st] at hes
    obtain ⟨f1,f2⟩:=hes.fol
    unfold Lg.add
    rw [f1,if_neg (by decide),if_pos (by
      have e1:(Lg.new n.sn.ix n.sn.tm).last=n.sn.ix:=by unfold Lg.last Lg.new;simp
      rw [e1];exact f2)]
    rfl
  have fl:FLog { Lg.new n.sn.ix n.sn.tm with l:=n.log.l } F:=by
    have ok:=(LgOk.new s1 s2).add n.log.l
    rw [hadd] at ok
    exact ⟨ok,h.fl.fo,by show n.sn.ix.toNat≤_;rw [h.sx];exact h.fl.b,by show F.drop n.sn.ix.toNat=_;rw [h.sx];exact h.fl.l,by show n.sn.tm=ltm (F.take n.sn.ix.toNat);rw [h.st,h.sx];exact h.fl.bt⟩
  have hnew:rnNew n.id n.e.hd n.sn n.log.l 3 2=(0,some (Rn.regroup ⟨Eln.new n.id n.e.hd n.sn.g 3,n.id,2,{ Lg.new n.sn.ix n.sn.tm with l:=n.log.l },n.sn,⟨[],[]⟩,none,[],0,n.e.hd,false,0,[],[]⟩)):=by
    unfold rnNew
    rw [hsn,helok,if_neg (by decide),if_neg (by decide),hadd]
    rfl
  have hd:(Eln.join (Eln.new n.id n.e.hd n.sn.g 3) (grp C.g0 F)).hd=n.e.hd:=by unfold Eln.join;split<;>rfl
  have hcl:Clean (Rn.regroup ⟨Eln.new n.id n.e.hd n.sn.g 3,n.id,2,{ Lg.new n.sn.ix n.sn.tm with l:=n.log.l },n.sn,⟨[],[]⟩,none,[],0,n.e.hd,false,0,[],[]⟩):=⟨rfl,rfl,rfl,rfl,by
    rw [regroup_e.1]
    unfold Eln.join
    split<;>rfl⟩
  refine ⟨_,hnew,rfl,hcl,rfl,rfl,?_⟩
  refine NI.regroup ?_ X.I.gr (fun p x hx=>by cases hx)
  exact
    { id:=rfl
      i1:=h.i1
      t0:=h.t0
      fl:=fl
      g:=rfl
      eg:=rfl
      sx:=rfl
      st:=rfl
      sg:=h.sg
      sb:=h.sb
      A:=(h.A.rest (r:=0) (by decide) (by decide)).less (by decide) (by show n.sn.ix.toNat≤n.log.com.toNat;rw [h.sx];omega)
      vi:=fun h=>by rcases h with h|h<;>exact absurd h (by show (0:Int)≠_;decide)
      ys:=fun h=>absurd h (by show (0:Int)≠2;decide)
      hr:=fun hs=>by cases hs
      ps:=fun p x hx=>by cases hx
      ms:=fun m hm=>by cases hm
      rr:=fun h=>absurd h (by show (0:Int)≠3;decide)
      r0:=Int.le_refl _
      rs:=fun x hx=>by cases hx
      rl:=fun h=>absurd rfl h
      rd:=fun x hx=>by cases hx
      bd:=⟨by show 0≤64;decide,fun x hx=>(by cases hx),Nat.zero_le _,by show (0:Int)≤(E:Int);omega,by show (0:Int)≤(E:Int);omega⟩
      dk:=⟨rfl,fun _=>rfl,.inl ⟨rfl,rfl⟩⟩ }
end Go.Proofs.YthpmfnffkjjlnaaGreat
/- Safety, plain: what always holds of a node stays; how much it sends. No condition. -/
namespace Go.Proofs.YthpmfnffkjjlnaaGreat
set_option linter.unusedVariables false
set_option linter.unusedSimpArgs false
open Go Go.VC
open Go.Rf
variable {n m:Rn}
theorem RnA.step (h:RnA n) (hr:n.ps.isSome=true→n.e.role=3) {x:Mg} (hx:MgOk x):RnA (n.step x):=by
 unfold Rn.step
 split
 ·exact h
 ·split
  ·exact h.ballot _
  ·split
   ·exact h.asked hx
   ·split
    ·exact h.said hr x
    ·exact h
theorem RnA.lead (h:RnA n) (hr:n.e.role=3) (kd:Int) {dt:List Int} (hb:bytesOk dt):RnA (n.lead kd dt).2:=by
 obtain ⟨h1,h2⟩:=h.enter hr kd hb
 unfold Rn.lead
 dsimp only
 split
 ·exact h1
 ·exact (Snd.all _).rna (h1.advance h2).1
theorem RnA.propose (h:RnA n) {dt:List Int} (hb:bytesOk dt):RnA (n.propose dt).2:=by
 unfold Rn.propose
 split
 ·exact h
 ·rename_i h1
  split
  ·exact h
  ·exact h.lead (by simpa using h1) 1 hb
theorem change_k {kd nd:Int} {v l:List Int} (h1:¬ ((chG v l kd nd).2.2 !=0)=true):(1≤kd∧kd≤3)∧1≤nd∧nd≤15:=by
 have h1':(chG v l kd nd).2.2=0:=by simpa using h1
 refine Classical.byContradiction fun hn=>?_
 have:=chG_arg (v:=v) (l:=l) (kind:=kd) (n:=nd) (.inr (by omega))
 rw [this] at h1'
 exact absurd h1' (by decide)
theorem RnA.change (h:RnA n) (kd nd:Int):RnA (n.change kd nd).2:=by
 unfold Rn.change
 split
 ·exact h
 ·rename_i h0
  split
  ·exact h
  ·rename_i h1
   have hk:=change_k h1
   split
   ·exact h
   ·refine h.lead (by simpa using h0) 2 fun z hz=>?_
    rcases List.mem_append.1 hz with hz|hz
    ·exact numB_bd (by omega) z hz
    ·exact numB_bd (by omega) z hz
theorem RnA.beats (h:RnA n):RnA n.beats:=by
 have e:=beats_eq n.mem n
 unfold Rn.beats
 rw [e]
 exact ⟨⟨⟨h.b.g.lg,h.b.g.lb,h.b.g.sg,h.b.g.w1,h.b.g.w64⟩,h.b.pe,h.b.e,h.b.id,h.b.sn⟩,h.pk,h.sm⟩
theorem RnA.read (h:RnA n) (tok:Int):RnA (n.read tok).2:=by
 unfold Rn.read
 split
 ·exact h
 ·split
  ·exact ⟨⟨⟨h.b.g.lg,h.b.g.lb,h.b.g.sg,h.b.g.w1,h.b.g.w64⟩,h.b.pe,h.b.e,h.b.id,h.b.sn⟩,h.pk,h.sm⟩
  ·exact RnA.beats ⟨⟨⟨h.b.g.lg,h.b.g.lb,h.b.g.sg,h.b.g.w1,h.b.g.w64⟩,h.b.pe,h.b.e,h.b.id,h.b.sn⟩,h.pk,h.sm⟩
theorem LgB.compact {g:Lg} (h:LgB g) (i:Int):LgB (g.compact i).2:=by
 unfold Lg.compact
 split
 ·exact h
 ·exact fun e he=>h e (List.mem_of_mem_drop he)
theorem RnA.comp {C:Ct} {E:Nat} {G:Gh} {F:List Ey} (h:RnA n) (hN:NI C E G n.comp.2 F) (gr:gOk C.g0):RnA n.comp.2:=by
 have h1:=h.done n.log.com
 generalize hx:n.done n.log.com=r at h1
 unfold Rn.comp at hN ⊢
 rw [hx] at hN ⊢
 unfold Rn.compact at hN ⊢
 dsimp only at hN ⊢
 have hl:LgOk (r.2.log.compact r.2.log.app).2:=h1.b.g.lg.compact _
 have hb:LgB (r.2.log.compact r.2.log.app).2:=h1.b.g.lb.compact _
 by_cases h2:(([r.2.log.app % 256]:List Int).length:Int)>60000
 ·rw [if_pos h2];exact h1
 ·rw [if_neg h2] at hN ⊢
  by_cases h3:((r.2.log.compact r.2.log.app).1 !=0)=true
  ·rw [if_pos h3];exact h1.log hl hb
  ·rw [if_neg h3] at hN ⊢
   have hg:=hN.sg
   have sx:=hN.sx
   have st:=hN.st
   have b0:=hN.fl.ok.b0
   have b1:=hN.fl.ok.b1
   have t0:=hN.fl.ok.t0
   have t1:=hN.fl.ok.t1
   have hok:=grp_ok gr (F.take (Rn.sn (n.comp).2).ix.toNat)
   dsimp only at hg sx st b0 b1 t0 t1
   have hg2:rightG (r.2.foldG (IntKind.i64.wrap (IntKind.i64.wrap (r.2.log.app + 1) - (r.2.log.b.ix + 1)))).vs (r.2.foldG (IntKind.i64.wrap (IntKind.i64.wrap (r.2.log.app + 1) - (r.2.log.b.ix + 1)))).ls=true:=by
    rw [hg];exact grp_ok gr _
   refine ⟨⟨⟨hl,hb,hg2,h1.b.g.w1,h1.b.g.w64⟩,h1.b.pe,h1.b.e,h1.b.id,?_⟩,h1.pk,h1.sm⟩
   unfold rightSn rightN
   dsimp only
   rw [hg2,decide_eq_true (by omega),decide_eq_true (by omega)]
   rfl
theorem RnA.memLen (h:RnA n):n.mem.length≤15:=by
 cases hp:n.ps with
 |none=>
  unfold Rn.mem
  rw [hp,sortL_len];exact Nat.zero_le _
 |some l=>exact mem_len hp (h.pk l hp)
theorem RnA.allLen (h:RnA n):n.all.rms.length≤n.rms.length + 990:=by
 have h1:=(Snd.all n).len
 have:=h.memLen
 omega
theorem RnA.advAllLen (h:RnA n) (hr:n.e.role=3):n.advance.all.rms.length≤n.rms.length + 1005:=by
 have h1:=(h.advance hr).1.allLen
 have h2:=(advance_facts (h.rnl hr)).2.2.2
 omega
theorem RnA.leadLen (h:RnA n) (hr:n.e.role=3) (kd:Int) {dt:List Int} (hb:bytesOk dt):(n.lead kd dt).2.rms.length≤n.rms.length + 1005:=by
 obtain ⟨h1,h2⟩:=h.enter hr kd hb
 have h3:=(enter_facts (h.rnl hr) hr kd hb).2.2.1
 unfold Rn.lead
 dsimp only
 split
 ·rw [h3];omega
 ·have:=h1.advAllLen h2
  rw [h3] at this;exact this
theorem RnA.proposeLen (h:RnA n) {dt:List Int} (hb:bytesOk dt):(n.propose dt).2.rms.length≤n.rms.length + 1005:=by
 unfold Rn.propose
 split
 ·exact Nat.le_add_right _ _
 ·rename_i h1
  split
  ·exact Nat.le_add_right _ _
  ·exact h.leadLen (by simpa using h1) 1 hb
theorem RnA.changeLen (h:RnA n) (kd nd:Int):(n.change kd nd).2.rms.length≤n.rms.length + 1005:=by
 unfold Rn.change
 split
 ·exact Nat.le_add_right _ _
 ·rename_i h0
  split
  ·exact Nat.le_add_right _ _
  ·rename_i h1
   have hk:=change_k h1
   split
   ·exact Nat.le_add_right _ _
   ·refine h.leadLen (by simpa using h0) 2 fun z hz=>?_
    rcases List.mem_append.1 hz with hz|hz
    ·exact numB_bd (by omega) z hz
    ·exact numB_bd (by omega) z hz
theorem RnA.beatsLen (h:RnA n):n.beats.rms.length≤n.rms.length + 15:=by
 have h1:=(beats_ps n.mem n).2.1
 have:=h.memLen
 unfold Rn.beats
 omega
theorem RnA.readLen (h:RnA n) (tok:Int):(n.read tok).2.rms.length≤n.rms.length + 15:=by
 unfold Rn.read
 split
 ·exact Nat.le_add_right _ _
 ·split
  ·exact Nat.le_add_right _ _
  ·exact RnA.beatsLen (n:={ n with rnd:=n.rnd + 1,rs:=n.rs++[⟨tok,n.log.com,n.rnd + 1,[n.id]⟩] }) ⟨⟨⟨h.b.g.lg,h.b.g.lb,h.b.g.sg,h.b.g.w1,h.b.g.w64⟩,h.b.pe,h.b.e,h.b.id,h.b.sn⟩,h.pk,h.sm⟩
theorem RnB.votedLen (h:RnB n) {led:Bool} (bl:List Bl):(n.voted led bl).rms.length≤n.rms.length + bl.length + 1005:=by
 unfold Rn.voted
 dsimp only
 split
 ·show (n.rms++bl.map blMg).length≤_
  rw [List.length_append,List.length_map];omega
 ·rename_i hr
  have hr:n.e.role=3:=by simpa using hr
  split
  ·have hb:RnB { n with rms:=n.rms++bl.map blMg,ps:=none,rs:=[],rnd:=0 }:=⟨⟨h.g.lg,h.g.lb,h.g.sg,h.g.w1,h.g.w64⟩,(fun l hl=>by cases hl),h.e,h.id,h.sn⟩
   have h1:=hb.regroup
   have hr1:=(join_role n.e (Rn.foldG { n with rms:=n.rms++bl.map blMg,ps:=none,rs:=[],rnd:=0 } n.log.l.length)).trans hr
   have h2:=h1.enter hr1 0 (dt:=[]) (fun x hx=>by cases hx)
   have h3:=h2.1.advAllLen h2.2
   have h4:=(enter_facts (h1.rnl hr1) hr1 0 (dt:=[]) (fun x hx=>by cases hx)).2.2.1
   rw [h4] at h3
   refine Nat.le_trans h3 ?_
   show (n.rms++bl.map blMg).length + 1005≤_
   rw [List.length_append,List.length_map];omega
  ·show (n.rms++bl.map blMg).length≤_
   rw [List.length_append,List.length_map];omega
theorem RnA.ballotLen (h:RnA n) (b:Bl):(n.ballot b).rms.length≤n.rms.length + 1020:=by
 have hb:RnB { n with e:=(n.e.take b n.log.last (n.log.term n.log.last).1).2 }:=⟨⟨h.b.g.lg,h.b.g.lb,h.b.g.sg,h.b.g.w1,h.b.g.w64⟩,h.b.pe,h.b.e.take _ _ _,(take_id _ _ _ _).trans h.b.id,h.b.sn⟩
 have h1:=hb.votedLen (led:=n.e.role==3) (n.e.take b n.log.last (n.log.term n.log.last).1).1
 have h2:=take_len n.e b n.log.last (n.log.term n.log.last).1 h.b.e.g
 unfold Rn.ballot
 refine Nat.le_trans h1 ?_
 show n.rms.length + _ + 1005≤_
 omega
theorem RnA.tickLen (h:RnA n) (draw:Int):(n.tick draw).rms.length≤n.rms.length + 1020:=by
 by_cases hr:n.e.role=3
 ·rw [tick_lead hr]
  have h1:=(Snd.ticks n.mem n h.b.pe).len
  have:=h.memLen
  omega
 ·have e:n.tick draw=Rn.voted { n with e:=(n.e.tick draw n.log.last (n.log.term n.log.last).1).2 } false (n.e.tick draw n.log.last (n.log.term n.log.last).1).1:=by unfold Rn.tick;rw [if_pos (by simpa using hr)]
  rw [e]
  have hb:RnB { n with e:=(n.e.tick draw n.log.last (n.log.term n.log.last).1).2 }:=⟨⟨h.b.g.lg,h.b.g.lb,h.b.g.sg,h.b.g.w1,h.b.g.w64⟩,h.b.pe,h.b.e.tick _ _ _,(etick_id _ _ _ _).trans h.b.id,h.b.sn⟩
  have h1:=hb.votedLen (led:=false) (n.e.tick draw n.log.last (n.log.term n.log.last).1).1
  have h2:(n.e.tick draw n.log.last (n.log.term n.log.last).1).1.length≤15:=by
   have hall:∀ (e:Eln) (kd t a b:Int),e.g=n.e.g→(e.all kd t a b).length≤15:=fun e kd t a b he=>by
    unfold Eln.all
    rw [List.length_map,he]
    exact Nat.le_trans (List.length_filter_le _ _) (rises_len15 (right_rises h.b.e.g))
   unfold Eln.tick
   split
   ·exact Nat.zero_le _
   ·dsimp only
    split
    ·exact Nat.zero_le _
    ·split
     ·exact run_len _ _ _ h.b.e.g
     ·exact hall _ _ _ _ _ rfl
  refine Nat.le_trans h1 ?_
  show n.rms.length + _ + 1005≤_
  omega
theorem commit_rms (n:Rn) (c:Int):(n.commit c).rms=n.rms:=by unfold Rn.commit;split<;>rfl
theorem put_len (n:Rn) (m:Mg):(n.put m).rms.length=n.rms.length + 1:=by show (n.rms++[_]).length=_;rw [List.length_append];rfl
theorem appLen (n:Rn) (m:Mg):(n.app m).rms.length≤n.rms.length + 1:=by
 unfold Rn.app
 dsimp only
 split
 ·rw [put_len,commit_rms]
  split<;>exact Nat.le_refl _
 ·split
  ·rw [put_len];exact Nat.le_refl _
  ·exact Nat.le_succ _
theorem installLen (n:Rn) (m:Mg):(n.install m).rms.length≤n.rms.length + 1:=by
 unfold Rn.install
 split
 ·exact Nat.le_succ _
 ·split
  ·rw [put_len];exact Nat.le_refl _
  ·split
   ·rw [put_len,commit_rms];exact Nat.le_refl _
   ·rw [put_len];exact Nat.le_refl _
theorem RnA.askedLen (h:RnA n) (m:Mg):(n.asked m).rms.length≤n.rms.length + 1006:=by
 unfold Rn.asked
 split
 ·rw [put_len];omega
 ·split
  ·exact Nat.le_add_right _ _
  ·have h1:=(h.heard m.fr m.tm).votedLen (led:=false) []
   have h1:(Rn.voted { n with e:=n.e.heard m.fr m.tm } false []).rms.length≤n.rms.length + 1005:=h1
   generalize Rn.voted { n with e:=n.e.heard m.fr m.tm } false []=n1 at h1 ⊢
   dsimp only
   split
   ·have:=appLen n1 m;omega
   ·split
    ·rw [put_len,commit_rms];omega
    ·split
     ·have:=installLen n1 m;omega
     ·omega
theorem RnA.sendLen (n:Rn) (q:Int):(n.send q).rms.length≤n.rms.length + 66:=(Snd.send q).len
theorem RnA.saidLen (h:RnA n) (hr:n.ps.isSome=true→n.e.role=3) (m:Mg):(n.said m).rms.length≤n.rms.length + 1020:=by
 unfold Rn.said
 split
 ·exact h.ballotLen _
 ·split
  ·exact Nat.le_add_right _ _
  ·split
   ·exact Nat.le_add_right _ _
   ·rename_i x hx
    obtain ⟨l,hp,hx',ok⟩:=peerX h hx
    have hro:=hr (peer_some hx)
    split
    ·split
     ·have:=RnA.sendLen (n.behind m.fr m.rnd) m.fr
      have e:(n.behind m.fr m.rnd).rms=n.rms:=rfl
      rw [e] at this;omega
     ·exact Nat.le_add_right _ _
    ·split
     ·split
      ·have h1:=RnA.sendLen (n.setP m.fr (x.acked m.ix).2).advance m.fr
       have h2:=(advance_facts ((setP_rna h (q:=m.fr) hp (ok.acked m.ix)).rnl hro)).2.2.2
       have e:(n.setP m.fr (x.acked m.ix).2).rms=n.rms:=rfl
       rw [e] at h2;omega
      ·have h1:=RnA.sendLen (n.setP m.fr (x.acked m.ix).2) m.fr
       have e:(n.setP m.fr (x.acked m.ix).2).rms=n.rms:=rfl
       rw [e] at h1;omega
     ·split
      ·exact Nat.le_add_right _ _
      ·split
       ·exact Nat.le_add_right _ _
       ·split
        ·have h1:=RnA.sendLen (n.setP m.fr (x.refused m.ix m.hint).2) m.fr
         have e:(n.setP m.fr (x.refused m.ix m.hint).2).rms=n.rms:=rfl
         rw [e] at h1;omega
        ·exact Nat.le_add_right _ _
theorem RnA.stepLen (h:RnA n) (hr:n.ps.isSome=true→n.e.role=3) (m:Mg):(n.step m).rms.length≤n.rms.length + 1020:=by
 unfold Rn.step
 split
 ·exact Nat.le_add_right _ _
 ·split
  ·exact h.ballotLen _
  ·split
   ·have:=h.askedLen m;omega
   ·split
    ·exact h.saidLen hr m
    ·exact Nat.le_add_right _ _
end Go.Proofs.YthpmfnffkjjlnaaGreat
/- Safety, plain: what holds of a world of nodes; it looks at a node. No condition. -/
namespace Go.Proofs.YthpmfnffkjjlnaaGreat
set_option linter.unusedVariables false
set_option linter.unusedSimpArgs false
open Go Go.VC
open Go.Rf
variable {G G':Gh} {y:Int} {E E':Nat} {n:Rn} {F:List Ey} {C:Ct} {g0:Gp} {W:Wd} {k:Nat} {P:Nat→Prop}
def EntI (G:Gh) (e:Int × Ey):Prop:=∃ t k b,G.h.rc t k b∧1≤e.1∧e.1≤(k:Nat)∧(G.h.ll t)[e.1.toNat - 1]? =some e.2
def Hist.CmA (h:Hist) (m:Int):Prop:=m≤0∨∃ t k b,h.rc t k b∧m≤(k:Nat)
theorem EntI.uni (I:GInv g0 G) {i:Int} {x z:Ey} (hx:EntI G (i,x)) (hz:EntI G (i,z)):x=z:=by
  have main:∀ {t t':Int} {k k' b b':Nat},t≤t'→G.h.rc t k b→G.h.rc t' k' b'→1≤i→i≤(k:Nat)→(G.h.ll t)[i.toNat - 1]? =(G.h.ll t')[i.toNat - 1]?:=fun {t t' k k' b b'} htt hr hr' h1 hk=>by
    rcases Int.lt_or_eq_of_le htt with h2|rfl
    · have h3:=(I.lc _ _ _ _ hr (I.ok.rc _ _ _ hr').1 h2).2
      exact (take_get h3 (by omega)).symm
    · rfl
  obtain ⟨t,k,b,h1,h2,h3,h4⟩:=hx
  obtain ⟨t',k',b',h1',h2',h3',h4'⟩:=hz
  have h2:1≤i:=h2
  have h3:i≤(k:Nat):=h3
  have h3':i≤(k':Nat):=h3'
  have h4:(G.h.ll t)[i.toNat - 1]? =some x:=h4
  have h4':(G.h.ll t')[i.toNat - 1]? =some z:=h4'
  rcases Int.le_total t t' with h5|h5
  · have:=main h5 h1 h1' h2 h3
    rw [h4,h4'] at this
    exact Option.some.inj this
  · have:=main h5 h1' h1 h2 h3'
    rw [h4,h4'] at this
    exact (Option.some.inj this).symm
theorem EntI.le (I:GInv g0 G) {e:Int × Ey} (h:EntI G e) (l:Gh.Le y G G'):EntI G' e:=by
  obtain ⟨t,k,b,h1,h2,h3,h4⟩:=h
  obtain ⟨r1,r2,r3,r4⟩:=I.ok.rc _ _ _ h1
  obtain ⟨m,e2⟩:=l.h.ll t r1
  refine ⟨t,k,b,l.h.rc _ _ _ h1,h2,h3,?_⟩
  rw [e2,List.getElem?_append_left (get_lt h4)];exact h4
theorem Hist.CmA.le {h h':Hist} {m:Int} (a:h.CmA m) (l:h.Le h'):h'.CmA m:=a.imp_right fun ⟨t,k,b,h1,h2⟩=>⟨t,k,b,l.rc _ _ _ h1,h2⟩
theorem NI.lookI (h:NI C E G n F):∀ x∈lookL n,EntI G (x.ix,x):=fun x hx=>by
  have hc0:=h.c0
  unfold lookL at hx
  rw [h.sx,h.fl.get _ (Int.le_refl _)] at hx
  obtain ⟨j,hj,rfl⟩:=List.getElem_of_mem hx
  have he:=List.getElem?_eq_getElem hj
  generalize ((F.drop n.log.b.ix.toNat).take (n.log.com - n.log.b.ix).toNat)[j]=x at he ⊢
  obtain ⟨h1,h2⟩:=take_some he
  rw [List.getElem?_drop] at h1
  have hix:=h.fl.ix h1
  rcases h.A.cm.2 with h3|⟨t,k,b,h3,h4,h5,h6⟩
  · omega
  · refine ⟨t,k,b,h3,by show 1≤x.ix;omega,by show x.ix≤(k:Nat);omega,?_⟩
    show (G.h.ll t)[x.ix.toNat - 1]? =some x
    rw [←h1,show x.ix.toNat - 1=n.log.b.ix.toNat + j by omega]
    exact (take_get h6 (by omega)).symm
theorem mem_setZ {β:Type} {k:Int} {v:β} {e:Int × β}:∀ {l:List (Int × β)},e∈setM k v l→e=(k,v)∨e∈l
  |[],h=>.inr h
  |a::l,h=>by
    have h:e∈(if k==a.1 then (a.1,v)::l else a::setM k v l):=h
    split at h
    · rename_i h1
      rcases List.mem_cons.1 h with h|h
      · exact .inl (by rw [h,beq_iff_eq.1 h1])
      · exact .inr (List.mem_cons_of_mem _ h)
    · rcases List.mem_cons.1 h with h|h
      · exact .inr (by rw [h];exact List.mem_cons_self)
      · exact (mem_setZ h).imp_right (List.mem_cons_of_mem _)
theorem mem_putZ {β:Type} {k:Int} {v:β} {e:Int × β} {l:List (Int × β)} (h:e∈putM k v l):e=(k,v)∨e∈l:=by
  unfold putM at h
  split at h
  · exact mem_setZ h
  · rcases List.mem_append.1 h with h|h
    · exact .inr h
    · exact .inl (List.mem_singleton.1 h)
theorem eqE_refl (x:Ey):eqE x x=true:=by
  unfold eqE
  rw [beq_self_eq_true,beq_self_eq_true,beq_self_eq_true,decide_eq_true rfl];rfl
theorem look_all (I:GInv g0 G):∀ (l:List Ey) (s:List (Int × Ey) × Bool),(∀ x∈l,EntI G (x.ix,x))→(∀ e∈s.1,EntI G e)→s.2=true→(∀ e∈(l.foldl lookE s).1,EntI G e)∧(l.foldl lookE s).2=true
  |[],s,_,h2,h3=>⟨h2,h3⟩
  |x::l,s,h1,h2,h3=>by
    have hx:=h1 x List.mem_cons_self
    refine look_all I l (lookE s x) (fun z hz=>h1 z (List.mem_cons_of_mem _ hz)) (fun e he=>?_) ?_
    · rcases mem_putZ he with rfl|he
      · exact hx
      · exact h2 e he
    · unfold lookE
      dsimp only
      rw [h3,Bool.true_and]
      split
      · rename_i z hz
        rw [(h2 _ (getM_mem hz)).uni I hx]
        exact eqE_refl x
      · rfl
structure NdI (g0:Gp) (E:Nat) (G:Gh) (W:Wd) (k:Nat) (n:Rn):Prop where
  id:n.id=k + 1
  a:RnA n
  cl:Clean n
  dk:W.dk[k]? =some n.disk
  i:∃ F,NI ⟨g0,W.ask,W.tok,n.disk⟩ E G n F
structure WInv (g0:Gp) (E:Nat) (G:Gh) (W:Wd) (P:Nat→Prop):Prop where
  X:XInv g0 E G
  len:W.ns.length=W.dk.length
  nd:∀ k n,P k→W.ns[k]? =some n→NdI g0 E G W k n
  ms:∀ m∈W.sent,MInv g0 G m
  ent:∀ e∈W.ent,EntI G e
  most:G.h.CmA W.most
  lds:∀ e∈W.lds,G.h.el e.1∧G.ld e.1=e.2 + 1
  ask:∀ a∈W.ask,a.1≤W.tok
  t0:0≤W.tok
  good:W.good=true
  al:W.ask.length≤E
  t1:W.tok≤E
  nl:1≤W.ns.length∧W.ns.length≤6
theorem look_same (W:Wd) (k:Nat) (n:Rn):(W.look k n).ns=W.ns∧(W.look k n).dk=W.dk∧(W.look k n).sent=W.sent∧(W.look k n).ask=W.ask∧(W.look k n).tok=W.tok∧
    (W.look k n).ent=((lookL n).foldl lookE (W.ent,W.good)).1∧(W.look k n).most=max W.most n.log.com:=by
  unfold Wd.look
  dsimp only
  split<;>exact ⟨rfl,rfl,rfl,rfl,rfl,rfl,rfl⟩
theorem WInv.look (h:WInv g0 E G W P) (hid:n.id=k + 1) (hN:NI C E G n F):WInv g0 E G (W.look k n) P:=by
  obtain ⟨e1,e2,e3,e4,e5,e6,e7⟩:=look_same W k n
  obtain ⟨a1,a2⟩:=look_all h.X.I (lookL n) (W.ent,W.good) hN.lookI h.ent h.good
  have hL:(∀ e∈(W.look k n).lds,G.h.el e.1∧G.ld e.1=e.2 + 1)∧(W.look k n).good=true:=by
    unfold Wd.look
    dsimp only
    split
    · rename_i hr
      have hr:=beq_iff_eq.1 hr
      obtain ⟨hel,hld,_⟩:=hN.l3 hr
      refine ⟨fun e he=>?_,?_⟩
      · rcases mem_putZ he with rfl|he
        · exact ⟨hel,hld.trans hid⟩
        · exact h.lds e he
      · rw [a2,Bool.true_and]
        split
        · rename_i x hx
          have:=(h.lds _ (getM_mem hx)).2
          dsimp only at this
          rw [hld,hid] at this
          exact beq_iff_eq.2 (by omega)
        · rfl
    · exact ⟨h.lds,a2⟩
  exact
    { X:=h.X
      len:=by rw [e1,e2];exact h.len
      nd:=fun j m hp hm=>by
        rw [e1] at hm
        have a:=h.nd j m hp hm
        exact ⟨a.id,a.a,a.cl,by rw [e2];exact a.dk,by rw [e4,e5];exact a.i⟩
      ms:=by rw [e3];exact h.ms
      ent:=by rw [e6];exact a1
      most:=by
        rw [e7]
        rcases Int.le_total W.most n.log.com with h1|h1
        · rw [Int.max_eq_right h1]
          exact hN.cm.imp_right fun ⟨t,k,b,h1,_,h2⟩=>⟨t,k,b,h1,h2⟩
        · rw [Int.max_eq_left h1];exact h.most
      lds:=hL.1
      ask:=by rw [e4,e5];exact h.ask
      t0:=by rw [e5];exact h.t0
      good:=hL.2
      al:=by rw [e4];exact h.al
      t1:=by rw [e5];exact h.t1
      nl:=by rw [e1];exact h.nl }
end Go.Proofs.YthpmfnffkjjlnaaGreat
/- Safety, plain: a node writes. No condition. -/
namespace Go.Proofs.YthpmfnffkjjlnaaGreat
set_option linter.unusedVariables false
set_option linter.unusedSimpArgs false
open Go Go.VC
open Go.Rf
variable {G G':Gh} {y:Int} {E E':Nat} {n:Rn} {F:List Ey} {C:Ct} {g0:Gp} {W:Wd} {k:Nat} {P:Nat→Prop} {d:Dk}
theorem out_told (n:Rn):n.out.2.told=n.e.hd:=by
  unfold Rn.out
  dsimp only
  cases h:(n.e.hd.tm !=n.told.tm||n.e.hd.vt !=n.told.vt) with
  |true=>rfl
  |false=>
    simp only [Bool.or_eq_false_iff,bne_eq_false_iff_eq] at h
    show n.told=n.e.hd
    obtain ⟨h1,h2⟩:=h
    cases ha:n.told with
    |mk a b=>
      cases hb:n.e.hd with
      |mk c d=>
        rw [ha,hb] at h1 h2
        dsimp only at h1 h2
        rw [h1,h2]
theorem take_min {α:Type} {D:List α} {a:Int}:D.take (max 0 (min a D.length)).toNat=D.take a.toNat:=by
  rcases Int.le_total a D.length with h|h
  · rw [Int.min_eq_left h]
    congr 1;omega
  · rw [Int.min_eq_right h,List.take_of_length_le (by omega),List.take_of_length_le (by omega)]
theorem NI.out (h:NI C E G n F) (X:XInv C.g0 E G) (hE:E≤100000):Clean n.out.2∧C.d.write n.out.1 n.out.2=n.out.2.disk∧NI (C.wd n.out.2.disk) E G n.out.2 F:=by
  have hcl:Clean n.out.2:=⟨rfl,rfl,rfl,rfl,out_told n⟩
  refine ⟨hcl,?_,?_⟩
  · obtain ⟨D,hD⟩:∃ D,D=if n.rsn then [] else C.d.log:=⟨_,rfl⟩
    have hl:=h.dk.l
    rw [←hD] at hl
    have hc0:=h.c0
    have hFl:=X.len h.A.good
    have e1:(C.d.hard n.out.1).hd=n.e.hd∧(C.d.hard n.out.1).sn=C.d.sn∧(C.d.hard n.out.1).log=C.d.log:=by
      have ht:=out_told n
      unfold Dk.hard
      unfold Rn.out at ht ⊢
      dsimp only at ht ⊢
      cases hb:(n.e.hd.tm !=n.told.tm||n.e.hd.vt !=n.told.vt) with
      |true=>exact ⟨rfl,rfl,rfl⟩
      |false=>
        rw [hb] at ht
        exact ⟨h.dk.hd.trans ht,rfl,rfl⟩
    have e2:(C.d.hard n.out.1).snap n.out.1=⟨n.e.hd,n.sn,D⟩:=by
      obtain ⟨a1,a2,a3⟩:=e1
      unfold Dk.snap
      have hs:n.out.1.sn'=n.rsn:=rfl
      rw [hs,hD]
      have hd:=h.dk.sn
      cases hr:n.rsn with
      |true=>
        have hsn:n.out.1.sn=n.sn:=by
          show (if n.rsn then n.sn else sn0)=n.sn
          rw [hr];rfl
        rw [if_pos rfl,if_pos rfl,hsn]
        show (⟨(C.d.hard n.out.1).hd,n.sn,[]⟩:Dk)=_
        rw [a1]
      |false=>
        rw [if_neg (by decide),if_neg (by decide),←hd hr,←a1,←a2,←a3]
    have e3:C.d.write n.out.1 n.out.2=(⟨n.e.hd,n.sn,D⟩:Dk).ents n.out.1 n.out.2:=by
      unfold Dk.write
      rw [e2]
    rw [e3]
    show _=(⟨n.out.2.told,n.sn,n.log.l⟩:Dk)
    rw [out_told]
    unfold Dk.ents
    have hf:n.out.1.fr=n.rfr:=rfl
    rw [hf]
    rcases hl with ⟨h1,h2⟩|⟨h1,h2,h3⟩
    · rw [if_neg (by omega),h2]
    · rw [if_pos (by omega)]
      have e4:D.take ((⟨n.e.hd,n.sn,D⟩:Dk).keep n.rfr)=n.log.l.take (n.rfr - 1 - n.log.b.ix).toNat:=by
        unfold Dk.keep
        dsimp only
        rw [take_min,h.sx];exact h3
      have e5:n.out.2.log.get (max n.rfr (n.sn.ix + 1)) 100000=n.log.l.drop (n.rfr - 1 - n.log.b.ix).toNat:=by
        show n.log.get _ _=_
        rw [h.sx,Int.max_eq_left (by omega),show n.rfr=(n.rfr - 1) + 1 by omega,h.fl.get _ (by omega),←h.fl.l,List.drop_drop,List.take_of_length_le (by rw [List.length_drop];omega)]
        congr 1;omega
      dsimp only
      rw [e4,e5,List.take_append_drop]
  · exact { h with
      ms:=fun m hm=>by cases hm
      rs:=fun x hx=>by
        have a:=h.rs x hx
        exact ⟨a.r1,a.tk,a.bn,a.bh,a.ok⟩
      rd:=fun x hx=>by cases hx
      bd:=⟨h.bd.rs,h.bd.bh,Nat.zero_le _,h.bd.rn,h.bd.wt⟩
      dk:=hcl.drel }
theorem late_no {as' rd:List (Int × Int)} (h:∀ x∈rd,RdO as' x):lateR as' rd=false:=by
  unfold lateR
  rw [List.any_eq_false]
  intro x hx
  rw [Bool.not_eq_true,List.any_eq_false]
  intro a ha h1
  rw [Bool.and_eq_true,beq_iff_eq,decide_eq_true_eq] at h1
  have:=h x hx a ha h1.1
  omega
theorem WInv.write (h:WInv g0 E G W (·≠k)) (hk:W.ns[k]? =some n) (hd:W.dk[k]? =some d) (hid:n.id=k + 1) (ha:RnA n) (hN:NI ⟨g0,W.ask,W.tok,d⟩ E G n F) (hE:E≤100000):WInv g0 E G (W.write k) (fun _=>True):=by
  obtain ⟨o1,o2,o3⟩:=hN.out h.X hE
  have hkl:=get_lt hk
  have hdl:=get_lt hd
  unfold Wd.write
  rw [hk,hd]
  dsimp only
  refine WInv.look ?_ (n:=n.out.2) hid o3
  exact
    { X:=h.X
      len:=by show (W.ns.set k _).length=(W.dk.set k _).length;rw [List.length_set,List.length_set];exact h.len
      nd:=fun j m _ hm=>by
        by_cases hj:j=k
        · subst hj
          have hm:(W.ns.set j n.out.2)[j]? =some m:=hm
          rw [List.getElem?_set_self hkl] at hm
          have hm:=Option.some.inj hm
          subst hm
          refine ⟨hid,ha.out,o1,?_,⟨F,o3⟩⟩
          show (W.dk.set j _)[j]? =_
          rw [List.getElem?_set_self hdl]
          exact congrArg some o2
        · have hm:(W.ns.set k n.out.2)[j]? =some m:=hm
          rw [List.getElem?_set_ne (Ne.symm hj)] at hm
          have a:=h.nd j m hj hm
          refine ⟨a.id,a.a,a.cl,?_,a.i⟩
          show (W.dk.set k _)[j]? =_
          rw [List.getElem?_set_ne (Ne.symm hj)];exact a.dk
      ms:=fun m hm=>by
        rcases List.mem_append.1 hm with hm|hm
        · exact h.ms m hm
        · exact hN.ms m hm
      ent:=h.ent
      most:=h.most
      lds:=h.lds
      ask:=h.ask
      t0:=h.t0
      good:=by
        show (W.good && !lateR W.ask n.rrd)=true
        rw [h.good,late_no hN.rd];rfl
      al:=h.al
      t1:=h.t1
      nl:=by show 1≤(W.ns.set k _).length∧(W.ns.set k _).length≤6;rw [List.length_set];exact h.nl }
end Go.Proofs.YthpmfnffkjjlnaaGreat
/- Safety, plain: an event. No condition. -/
namespace Go.Proofs.YthpmfnffkjjlnaaGreat
set_option linter.unusedVariables false
set_option linter.unusedSimpArgs false
open Go Go.VC
open Go.Rf
variable {G G':Gh} {y:Int} {E E':Nat} {n m:Rn} {F:List Ey} {C:Ct} {g0:Gp} {W W':Wd} {k:Nat} {P:Nat→Prop} {d:Dk}
theorem NI.other (h:NI C E G n F) (I:GInv C.g0 G) (l:Gs y G G') (hy:n.id≠y):NI C E G' n F:=
  h.le I l (h.A.frame I l.le hy) fun hr=>by
    obtain ⟨hel,hld,_⟩:=h.l3 hr
    exact l.ro _ hel (by rw [hld];exact hy)
theorem WInv.weak (h:WInv g0 E G W (fun _=>True)) (k:Nat):WInv g0 E G W (·≠k):={ h with nd:=fun j n _=>h.nd j n trivial }
theorem WInv.grow (h:WInv g0 E G W (fun _=>True)) {k:Nat} (l:Gs ((k:Int) + 1) G G') (X:XInv g0 E' G') (hE:E≤E'):WInv g0 E' G' W (·≠k):=
  { X:=X
    len:=h.len
    nd:=fun j n hj hn=>by
      have a:=h.nd j n trivial hn
      obtain ⟨F,hN⟩:=a.i
      exact ⟨a.id,a.a,a.cl,a.dk,F,(hN.other h.X.I l (by rw [a.id];omega)).more hE⟩
    ms:=fun m hm=>(h.ms m hm).le l.le
    ent:=fun e he=>(h.ent e he).le h.X.I l.le
    most:=h.most.le l.le.h
    lds:=fun e he=>by
      obtain ⟨h1,h2⟩:=h.lds e he
      exact ⟨l.le.h.el _ h1,by rw [l.le.ld _ h1];exact h2⟩
    ask:=h.ask
    t0:=h.t0
    good:=h.good
    al:=Nat.le_trans h.al hE
    t1:=by have:=h.t1;omega
    nl:=h.nl }
theorem WInv.putO (h:WInv g0 E G W (·≠k)) (n':Rn):WInv g0 E G (W.put k n') (·≠k):={ h with
  len:=by show (W.ns.set k n').length=_;rw [List.length_set];exact h.len
  nd:=fun j n hj hn=>by
    have hn:(W.ns.set k n')[j]? =some n:=hn
    rw [List.getElem?_set_ne (Ne.symm hj)] at hn
    have a:=h.nd j n hj hn
    exact ⟨a.id,a.a,a.cl,a.dk,a.i⟩
  nl:=by show 1≤(W.ns.set k n').length∧(W.ns.set k n').length≤6;rw [List.length_set];exact h.nl }
structure Mid (g0:Gp) (E:Nat) (W:Wd) (k:Nat) (s:Nat):Prop where
  i:∃ G n d F,WInv g0 E G W (·≠k)∧W.ns[k]? =some n∧W.dk[k]? =some d∧n.id=k + 1∧RnA n∧DkOk d∧NI ⟨g0,W.ask,W.tok,d⟩ E G n F∧n.rms.length≤2000
  s:W.sent.length≤s
theorem NI.dkOk (h:NI C E G n F) (X:XInv C.g0 E G) (hE:E≤100000):DkOk n.disk:=by
  have hc0:=h.c0
  have hFl:=X.len h.A.good
  have hl:=h.fl.l
  refine ⟨?_,by show 0≤n.sn.ix;rw [h.sx];omega,by show n.sn.ix≤_;rw [h.sx];omega,fun e he=>?_⟩
  · show n.log.l.length≤_
    rw [←hl,List.length_drop];omega
  · have he:e∈n.log.l:=he
    rw [←hl] at he
    exact X.by' h.A.good e (List.mem_of_mem_drop he)
theorem WInv.put (h:WInv g0 E G W (fun _=>True)) (hE:E + 2≤100000) (hk:W.ns[k]? =some n) {n':Rn} (hid:n'.id=n.id) (ha:RnA n') (hr:n'.rms.length≤2000) (hG:Goes ⟨g0,W.ask,W.tok,n.disk⟩ (E + 2) G n'):Mid g0 (E + 2) (W.put k n') k W.sent.length:=by
  have a:=h.nd k n trivial hk
  obtain ⟨F0,hN0⟩:=a.i
  obtain ⟨G',F,l,X,hN⟩:=hG
  have l:Gs ((k:Int) + 1) G G':=by rw [←a.id,←hid];exact l
  refine ⟨⟨G',n',n.disk,F,(h.grow l X (by omega)).putO n',?_,a.dk,hid.trans a.id,ha,hN0.dkOk h.X (by omega),hN,hr⟩,Nat.le_refl _⟩
  show (W.ns.set k n')[k]? =_
  rw [List.getElem?_set_self (get_lt hk)]
theorem WInv.asks (h:WInv g0 E G W (fun _=>True)) (hE:E + 2≤100000) (hk:W.ns[k]? =some n):Mid g0 (E + 2) (W.asks k n) k W.sent.length:=by
  have a:=h.nd k n trivial hk
  obtain ⟨F0,hN0⟩:=a.i
  have hkl:=get_lt hk
  have hl:(n.read (W.tok + 1)).2.rms.length≤2000:=by
    have:=a.a.readLen (W.tok + 1)
    have e:=a.cl.ms
    rw [e] at this
    simp only [List.length_nil] at this
    omega
  have hself:(W.ns.set k (n.read (W.tok + 1)).2)[k]? =some (n.read (W.tok + 1)).2:=by rw [List.getElem?_set_self hkl]
  have hid:=(read_id n (W.tok + 1)).trans a.id
  have hra:=a.a.read (W.tok + 1)
  have hal:=h.al
  by_cases h0:(n.read (W.tok + 1)).1=0
  · have e:W.asks k n={ W with tok:=W.tok + 1,ask:=W.ask++[(W.tok + 1,W.most)],ns:=W.ns.set k (n.read (W.tok + 1)).2 }:=by
      unfold Wd.asks
      rw [h0];rfl
    rw [e]
    have hG:=hN0.read h.X a.cl.rd (t:=W.tok + 1) (m:=W.most) (by show W.tok<W.tok + 1;omega) h.ask h.most h0
    obtain ⟨G',F,l,X,hN⟩:=hG
    have l:Gs ((k:Int) + 1) G G':=by rw [←a.id,←read_id n (W.tok + 1)];exact l
    have X:XInv g0 (E + 1) G':=X
    have hw:=h.grow l (X.more (by omega:E + 1≤E + 2)) (by omega)
    refine ⟨⟨G',(n.read (W.tok + 1)).2,n.disk,F,?_,hself,a.dk,hid,hra,hN0.dkOk h.X (by omega),hN.more (by omega),hl⟩,Nat.le_refl _⟩
    exact
      { X:=hw.X
        len:=by show (W.ns.set k _).length=_;rw [List.length_set];exact hw.len
        nd:=fun j n' hj hn=>by
          have hn:(W.ns.set k (n.read (W.tok + 1)).2)[j]? =some n':=hn
          rw [List.getElem?_set_ne (Ne.symm hj)] at hn
          have b:=hw.nd j n' hj hn
          obtain ⟨F',hN'⟩:=b.i
          exact ⟨b.id,b.a,b.cl,b.dk,F',hN'.asks b.cl.rd (t:=W.tok + 1) (m:=W.most) (by show W.tok<W.tok + 1;omega)⟩
        ms:=hw.ms
        ent:=hw.ent
        most:=hw.most
        lds:=hw.lds
        ask:=fun b hb=>by
          rcases List.mem_append.1 hb with hb|hb
          · have:=h.ask b hb
            show b.1≤W.tok + 1
            omega
          · rw [List.mem_singleton] at hb;subst hb;exact Int.le_refl _
        t0:=by have:=h.t0;show 0≤W.tok + 1;omega
        good:=hw.good
        al:=by
          show (W.ask++[_]).length≤_
          rw [List.length_append]
          simp only [List.length_cons,List.length_nil]
          omega
        t1:=by have:=h.t1;show W.tok + 1≤((E + 2:Nat):Int);omega
        nl:=by show 1≤(W.ns.set k _).length∧(W.ns.set k _).length≤6;rw [List.length_set];exact hw.nl }
  · have e2:=read_no h0
    have e:W.asks k n={ W with tok:=W.tok + 1,ns:=W.ns.set k (n.read (W.tok + 1)).2 }:=by
      unfold Wd.asks
      have h0':((n.read (W.tok + 1)).1==0)=false:=by rw [beq_eq_false_iff_ne];exact h0
      rw [h0'];rfl
    rw [e]
    have hw:=h.grow (k:=k) (Gs.refl _ G) (h.X.more (by omega:E≤E + 2)) (by omega)
    refine ⟨⟨G,(n.read (W.tok + 1)).2,n.disk,F0,?_,hself,a.dk,hid,hra,hN0.dkOk h.X (by omega),?_,hl⟩,Nat.le_refl _⟩
    · exact
        { X:=hw.X
          len:=by show (W.ns.set k _).length=_;rw [List.length_set];exact hw.len
          nd:=fun j n' hj hn=>by
            have hn:(W.ns.set k (n.read (W.tok + 1)).2)[j]? =some n':=hn
            rw [List.getElem?_set_ne (Ne.symm hj)] at hn
            have b:=hw.nd j n' hj hn
            obtain ⟨F',hN'⟩:=b.i
            exact ⟨b.id,b.a,b.cl,b.dk,F',hN'.tk (t:=W.tok + 1) (by show W.tok≤W.tok + 1;omega)⟩
          ms:=hw.ms
          ent:=hw.ent
          most:=hw.most
          lds:=hw.lds
          ask:=fun b hb=>by
            have:=h.ask b hb
            show b.1≤W.tok + 1
            omega
          t0:=by have:=h.t0;show 0≤W.tok + 1;omega
          good:=hw.good
          al:=by show W.ask.length≤_;omega
          t1:=by have:=h.t1;show W.tok + 1≤((E + 2:Nat):Int);omega
          nl:=by show 1≤(W.ns.set k _).length∧(W.ns.set k _).length≤6;rw [List.length_set];exact hw.nl }
    · rw [e2]
      exact (hN0.tk (t:=W.tok + 1) (by show W.tok≤W.tok + 1;omega)).more (by omega)
end Go.Proofs.YthpmfnffkjjlnaaGreat
/- Safety, plain: a node compacts, in its world; all events. No condition. -/
namespace Go.Proofs.YthpmfnffkjjlnaaGreat
set_option linter.unusedVariables false
set_option linter.unusedSimpArgs false
open Go Go.VC
open Go.Rf
variable {G G':Gh} {y:Int} {E E':Nat} {n m:Rn} {F:List Ey} {C:Ct} {g0:Gp} {W W':Wd} {k:Nat} {P:Nat→Prop} {d:Dk}
theorem Clean.new (h:Clean n):(n.e.hd.tm !=n.told.tm||n.e.hd.vt !=n.told.vt)=false:=by rw [h.told,bne_self_eq_false,bne_self_eq_false];rfl
theorem Clean.out (h:Clean n):n.out.2=n:=by
  have h1:=h.new
  obtain ⟨a1,a2,a3,a4,a5⟩:=h
  unfold Rn.out
  dsimp only
  rw [h1]
  obtain ⟨b1,b2,b3,b4,b5,b6,b7,b8,b9,b10,b11,b12,b13,b14⟩:=n
  dsimp only at a1 a2 a3 a4
  subst a1 a2 a3 a4
  rfl
theorem Clean.write (h:Clean n):d.write n.out.1 n.out.2=d:=by
  have e1:n.out.1.hn=false:=h.new
  have e2:n.out.1.sn'=false:=h.sn
  have e3:n.out.1.fr=0:=h.fr
  have f1:d.hard n.out.1=d:=by unfold Dk.hard;rw [e1];rfl
  have f2:d.snap n.out.1=d:=by unfold Dk.snap;rw [e2];rfl
  unfold Dk.write
  rw [f1,f2]
  unfold Dk.ents
  rw [e3,if_neg (by decide)]
theorem WInv.writeO (h:WInv g0 E G W (·≠k)) (hk:W.ns[k]? =some n) (hd:W.dk[k]? =some d) (hid:n.id=k + 1) (hN:NI C E G n F) (hcl:Clean n):
    WInv g0 E G (W.write k) (·≠k)∧(W.write k).ns[k]? =some n∧(W.write k).dk[k]? =some d∧(W.write k).sent=W.sent:=by
  have hkl:=get_lt hk
  have hdl:=get_lt hd
  have e1:n.out.1.ms=[]:=hcl.ms
  have e2:n.out.1.rd=[]:=hcl.rd
  have e:W.write k=Wd.look { W with ns:=W.ns.set k n,dk:=W.dk.set k d,sent:=W.sent++[],good:=W.good && !lateR W.ask [] } k n:=by
    unfold Wd.write
    rw [hk,hd]
    dsimp only
    rw [hcl.write,hcl.out,e1,e2]
  rw [e]
  obtain ⟨l1,l2,l3,l4,l5,l6,l7⟩:=look_same { W with ns:=W.ns.set k n,dk:=W.dk.set k d,sent:=W.sent++[],good:=W.good && !lateR W.ask [] } k n
  refine ⟨WInv.look ?_ hid hN,?_,?_,?_⟩
  · exact { h with
      len:=by show (W.ns.set k _).length=(W.dk.set k _).length;rw [List.length_set,List.length_set];exact h.len
      nd:=fun j m hj hm=>by
        have hm:(W.ns.set k n)[j]? =some m:=hm
        rw [List.getElem?_set_ne (Ne.symm hj)] at hm
        have a:=h.nd j m hj hm
        refine ⟨a.id,a.a,a.cl,?_,a.i⟩
        show (W.dk.set k _)[j]? =_
        rw [List.getElem?_set_ne (Ne.symm hj)];exact a.dk
      ms:=fun m hm=>h.ms m (by
        have hm:m∈W.sent++[]:=hm
        rwa [List.append_nil] at hm)
      good:=by
        show (W.good && !lateR W.ask [])=true
        rw [h.good];rfl
      nl:=by show 1≤(W.ns.set k _).length∧(W.ns.set k _).length≤6;rw [List.length_set];exact h.nl }
  · rw [l1]
    show (W.ns.set k n)[k]? =_
    rw [List.getElem?_set_self hkl]
  · rw [l2]
    show (W.dk.set k d)[k]? =_
    rw [List.getElem?_set_self hdl]
  · rw [l3]
    show W.sent++[]=_
    rw [List.append_nil]
theorem comp_told (n:Rn):n.comp.2.told=n.told:=by
  unfold Rn.comp Rn.compact
  dsimp only
  split
  · rfl
  · split<;>rfl
theorem WInv.comp (h:WInv g0 E G W (fun _=>True)) (hE:E≤100000) (hk:W.ns[k]? =some n) (h0:n.comp.1=0):
    WInv g0 E G (((W.put k n.comp.2).write k).sync k) (fun _=>True)∧(((W.put k n.comp.2).write k).sync k).ns[k]? =some n.comp.2∧(((W.put k n.comp.2).write k).sync k).sent=W.sent:=by
  have a:=h.nd k n trivial hk
  obtain ⟨F,hN⟩:=a.i
  obtain ⟨c1,c2,c3,_⟩:=hN.comp h.X (by omega:E≤1000000) a.cl
  have hN1:=c3 h0
  have hra:=a.a.comp hN1 h.X.I.gr
  have ht:=comp_told n
  have hid:n.comp.2.id=k + 1:=c2.trans a.id
  generalize hn':n.comp.2=n' at c1 hN1 hra ht hid ⊢
  have hkl:=get_lt hk
  obtain ⟨w1,w2,w3,w4⟩:=((h.weak k).putO n').writeO (k:=k) (n:=n') (d:=n.disk) (by
    show (W.ns.set k n')[k]? =_
    rw [List.getElem?_set_self hkl]) a.dk hid hN1 c1
  have es:=sync_dk w2 w3
  have hd:({ n.disk with sn:=n'.sn,log:=n'.log.get (n'.sn.ix + 1) 100000 }:Dk)=n'.disk:=by
    have hFl:=h.X.len hN1.A.good
    show (⟨n.told,n'.sn,n'.log.get (n'.sn.ix + 1) 100000⟩:Dk)=⟨n'.told,n'.sn,n'.log.l⟩
    rw [ht,hN1.sx,hN1.fl.get _ (Int.le_refl _),hN1.fl.l,List.take_of_length_le (by rw [←hN1.fl.l,List.length_drop];omega)]
  rw [hd] at es
  rw [es]
  have hdl:=get_lt w3
  refine ⟨{ w1 with
    len:=by show _=(List.set _ _ _).length;rw [List.length_set];exact w1.len
    nd:=fun j m _ hm=>by
      by_cases hj:j=k
      · subst hj
        have hm:((W.put j n').write j).ns[j]? =some m:=hm
        rw [w2] at hm
        have hm:=Option.some.inj hm
        subst hm
        refine ⟨hid,hra,c1,?_,F,?_⟩
        · show (List.set _ j _)[j]? =_
          rw [List.getElem?_set_self hdl]
        · have e1:((W.put j n').write j).ask=W.ask∧((W.put j n').write j).tok=W.tok:=by
            unfold Wd.write
            split
            · exact ⟨(look_same _ _ _).2.2.2.1,(look_same _ _ _).2.2.2.2.1⟩
            · exact ⟨rfl,rfl⟩
          show NI ⟨g0,((W.put j n').write j).ask,((W.put j n').write j).tok,n'.disk⟩ E G n' F
          rw [e1.1,e1.2]
          exact hN1
      · have b:=w1.nd j m hj hm
        refine ⟨b.id,b.a,b.cl,?_,b.i⟩
        show (List.set _ k _)[j]? =_
        rw [List.getElem?_set_ne (Ne.symm hj)];exact b.dk },w2,w4⟩
theorem NI.mid (h:WInv g0 E G W (fun _=>True)) (hE:E + 2≤100000) (hk:W.ns[k]? =some n) {s:Nat} (hs:W.sent.length≤s):Mid g0 (E + 2) W k s:=by
  have a:=h.nd k n trivial hk
  obtain ⟨F,hN⟩:=a.i
  refine ⟨⟨G,n,n.disk,F,h.grow (Gs.refl _ G) (h.X.more (by omega)) (by omega),hk,a.dk,a.id,a.a,hN.dkOk h.X (by omega),hN.more (by omega),by rw [a.cl.ms];exact Nat.zero_le _⟩,hs⟩
theorem tick_id' (n:Rn) (d:Int):(n.tick d).id=n.id:=by
  by_cases hr:n.e.role=3
  · rw [tick_lead hr]
    have tp:∀ (l:List Int) (n:Rn),(l.foldl Rn.tickP n).id=n.id:=by
      intro l
      induction l with
      |nil=>intro n;rfl
      |cons q l ih=>
        intro n
        show (l.foldl Rn.tickP (n.tickP q)).id=n.id
        rw [ih]
        unfold Rn.tickP
        exact (send_id _ _).1.trans rfl
    exact tp _ n
  · unfold Rn.tick
    rw [if_pos (by simpa using hr)]
    exact voted_id _ _ _
theorem WInv.act (h:WInv g0 E G W (fun _=>True)) (hE:E + 2≤100000) {x:Ev} (hx:W.act x=some (W',k)):Mid g0 (E + 2) W' k W.sent.length:=by
  have hE1:E + 1≤1000000:=by omega
  have hE2:E + 2≤1000000:=by omega
  unfold Wd.act at hx
  split at hx
  · cases hx
  · rename_i n hn
    have a:=h.nd _ n trivial hn
    obtain ⟨F,hN⟩:=a.i
    have z0:n.rms.length=0:=by rw [a.cl.ms];rfl
    split at hx
    · cases hx
      exact h.put hE hn (tick_id' n x.n) (a.a.tick _) (by have:=a.a.tickLen x.n;omega) (hN.tick h.X hE2 x.n)
    · split at hx
      · split at hx
        · cases hx
        · split at hx
          · cases hx
          · rename_i m hm
            split at hx
            · cases hx
            · split at hx
              · cases hx
              · rename_i n' hn'
                cases hx
                have a':=h.nd _ n' trivial hn'
                obtain ⟨F',hN'⟩:=a'.i
                have hM:=h.ms m (List.mem_of_getElem? hm)
                have z0':n'.rms.length=0:=by rw [a'.cl.ms];rfl
                exact h.put hE hn' (step_id n' m) (a'.a.step hN'.hr hM.ok) (by have:=a'.a.stepLen hN'.hr m;omega) ((hN'.step h.X hE1 hM).more (by omega))
      · split at hx
        · split at hx
          · cases hx
          · rename_i d hd
            rw [a.dk] at hd
            have hd:=Option.some.inj hd
            subst hd
            obtain ⟨n',q1,q2,q3,q4,q5,q6⟩:=hN.anew h.X a.a
            have hst:Wd.startN n.disk (W.who x.who)=some n':=by
              unfold Wd.startN
              show (rnNew (((W.who x.who:Nat):Int) + 1) n.told n.sn n.log.l 3 2).2=_
              rw [←a.id,a.cl.told,q1]
            rw [hst] at hx
            cases hx
            have hdd:n'.disk=n.disk:=by
              rw [q4]
              show _=(⟨n.told,n.sn,n.log.l⟩:Dk)
              rw [a.cl.told]
            rw [hdd] at q6
            have hf:=rnNew_facts (fun e he=>by
              have hl:=hN.fl.l
              rw [←hl] at he
              exact h.X.by' hN.A.good e (List.mem_of_mem_drop he)) q1
            obtain ⟨f1,f2,f3,f4,f5,f6,f7,f8,f9,f10,f11,f12,f13,f14,f15,f16,f17,f18,f19,f20,f21⟩:=hf
            have hra:RnA n':=⟨⟨f1,f2,f3,f7.trans f6.symm,f4⟩,(fun l hl=>by rw [f18] at hl;cases hl),fun hr=>by rw [f5] at hr;exact absurd hr (by decide)⟩
            have hG:Goes ⟨g0,W.ask,W.tok,n.disk⟩ E G n':=q6.goes h.X
            exact h.put hE hn q2 hra (by rw [q3.ms];exact Nat.zero_le _) (hG.more (by omega))
        · split at hx
          · cases hx
            have hb:bytesOk [x.n % 256]:=fun z hz=>by
              rw [List.mem_singleton] at hz;omega
            exact h.put hE hn (propose_id n _) (a.a.propose hb) (by have:=a.a.proposeLen hb;omega) ((hN.propose h.X hE1 hb).more (by omega))
          · split at hx
            · cases hx
              exact h.put hE hn (change_id n _ _) (a.a.change _ _) (by have:=a.a.changeLen x.kd x.n;omega) ((hN.change h.X hE1 x.kd x.n).more (by omega))
            · split at hx
              · cases hx
                exact h.asks hE hn
              · split at hx
                · split at hx
                  · rename_i h0
                    cases hx
                    obtain ⟨c1,c2,c3⟩:=h.comp (by omega) hn (beq_iff_eq.1 h0)
                    exact NI.mid c1 hE c2 (Nat.le_of_eq (congrArg List.length c3))
                  · rename_i h0
                    cases hx
                    have h0:n.comp.1≠0:=fun e=>h0 (beq_iff_eq.2 e)
                    obtain ⟨c1,c2,_,c4⟩:=hN.comp h.X (by omega:E≤1000000) a.cl
                    have hN1:=c4 h0
                    exact h.put hE hn c2 (a.a.comp hN1 h.X.I.gr) (by rw [c1.ms];exact Nat.zero_le _) ((hN1.goes h.X).more (by omega))
                · cases hx
                  exact NI.mid h hE hn (Nat.le_refl _)
end Go.Proofs.YthpmfnffkjjlnaaGreat
/- Safety, plain: worlds as they run. No condition. -/
namespace Go.Proofs.YthpmfnffkjjlnaaGreat
set_option linter.unusedVariables false
set_option linter.unusedSimpArgs false
open Go Go.VC
open Go.Rf
variable {G G':Gh} {y:Int} {E E':Nat} {n m:Rn} {F:List Ey} {C:Ct} {g0:Gp} {W W':Wd} {k:Nat} {P:Nat→Prop} {d:Dk}
theorem WInv.more (h:WInv g0 E G W (fun _=>True)) (hE:E≤E'):WInv g0 E' G W (fun _=>True):=
  { X:=h.X.more hE
    len:=h.len
    nd:=fun j n _ hn=>by
      have a:=h.nd j n trivial hn
      obtain ⟨F,hN⟩:=a.i
      exact ⟨a.id,a.a,a.cl,a.dk,F,hN.more hE⟩
    ms:=h.ms
    ent:=h.ent
    most:=h.most
    lds:=h.lds
    ask:=h.ask
    t0:=h.t0
    good:=h.good
    al:=Nat.le_trans h.al hE
    t1:=by have:=h.t1;omega
    nl:=h.nl }
theorem WInv.play (h:WInv g0 E G W (fun _=>True)) (hE:E + 2≤100000) (x:Ev):∃ G',WInv g0 (E + 2) G' (W.play x) (fun _=>True):=by
  unfold Wd.play
  split
  · exact ⟨G,h.more (by omega)⟩
  · rename_i W' k hx
    obtain ⟨⟨G',n,d,F,a1,a2,a3,a4,a5,a6,a7,a8⟩,_⟩:=h.act hE hx
    exact ⟨G',a1.write a2 a3 a4 a5 a7 hE⟩
theorem WInv.run:∀ (l:List Ev) {E:Nat} {G:Gh} {W:Wd},WInv g0 E G W (fun _=>True)→E + 2 * l.length≤100000→∃ G',WInv g0 (E + 2 * l.length) G' (l.foldl Wd.play W) (fun _=>True)
  |[],E,G,W,h,_=>⟨G,h⟩
  |x::l,E,G,W,h,hE=>by
    rw [List.length_cons] at hE
    obtain ⟨G1,h1⟩:=h.play (by omega) x
    obtain ⟨G2,h2⟩:=WInv.run l h1 (by omega)
    refine ⟨G2,?_⟩
    rw [List.length_cons,show E + 2 * (l.length + 1)=E + 2 + 2 * l.length by omega]
    exact h2
def gh0:Gh:=⟨⟨fun _=>False,fun _=>[],fun _=>0,fun _ _ _=>False⟩,fun _=>0,fun _ _ _ _=>False,fun _ _ _=>False,fun _ _ _=>False,fun _ _ _=>False,fun _=>0⟩
theorem gh0_inv (h:gOk g0):XInv g0 0 gh0:=
  { I:=
      { ok:=
          { good:=fun _ h=>h.elim
            len:=fun _ h=>h.elim
            old:=fun _ _ _ h=>h.elim
            own:=fun _ _ _ h=>h.elim
            mono:=fun _ _ _ _ _ h=>h.elim
            rc:=fun _ _ _ h=>h.elim
            ch:=fun _ _ _ h=>h.elim }
        gr:=h
        lc:=fun _ _ _ _ h=>h.elim
        pos:=fun _ h=>h.elim
        win:=fun _ h=>h.elim
        led:=fun _ h=>h.elim
        vu:=fun _ _ _ _ _ _ h=>h.elim
        vn:=fun _ _ _ _ h=>h.elim
        cu:=fun _ _ _ _ h=>h.elim
        akl:=fun _ _ _ h=>h.elim
        vx:=fun _ _ _ _ _ _ h=>h.elim
        rcq:=fun _ _ _ h=>h.elim
        btr:=fun _ _ _ h=>h.elim }
    rz:=fun _=>.inr rfl
    cz:=fun _ _ _ h=>h.elim
    gb:=fun _ h=>h.elim
    oe:=fun _ h=>h.elim
    eb:=fun _ h=>h.elim }
def ndB (v i:Nat):Rn:=⟨Eln.new ((i:Int) + 1) ⟨0,0⟩ (grp0 v) 3,(i:Int) + 1,2,Lg.new 0 0,(dk0 v).sn,grp0 v,none,[],0,⟨0,0⟩,false,0,[],[]⟩
theorem ndB_ok {v i:Nat} (h1:1≤v) (h6:v≤6) (hi:i≤5):NI ⟨grp0 v,[],0,dk0 v⟩ 0 gh0 (ndB v i) []∧RnA (ndB v i):=by
  have hg:=grp0_right h1 h6
  have lok:LgOk (Lg.new 0 0):=LgOk.new (by decide) (by decide)
  refine ⟨?_,?_⟩
  · exact
      { id:=rfl
        i1:=by show (1:Int)≤(i:Int) + 1;omega
        t0:=Int.le_refl _
        fl:=.new (by decide) (by decide) trivial rfl rfl
        g:=rfl
        eg:=rfl
        sx:=rfl
        st:=rfl
        sg:=rfl
        sb:=fun z hz=>by cases hz
        A:=
          { good:=fun k e h=>by cases h
            mono:=fun j k d e h=>by cases h
            le:=fun k e h=>by cases h
            vts:=fun _ _ _ h=>h.elim
            vtn:=fun _ _ h=>h.elim
            aks:=fun _ _ h=>h.elim
            bts:=fun _ _ h=>h.elim
            cds:=fun _ _ h=>h.elim
            lds:=fun _ h=>h.elim
            l3:=fun h=>absurd h (by show (0:Int)≠3;decide)
            l2:=fun h=>absurd h (by show (0:Int)≠2;decide)
            cm:=⟨Nat.le_refl _,.inl rfl⟩ }
        vi:=fun h=>by rcases h with h|h<;>exact absurd h (by show (0:Int)≠_;decide)
        ys:=fun h=>absurd h (by show (0:Int)≠2;decide)
        hr:=fun hs=>by cases hs
        ps:=fun p x hx=>by cases hx
        ms:=fun m hm=>by cases hm
        rr:=fun h=>absurd h (by show (0:Int)≠3;decide)
        r0:=Int.le_refl _
        rs:=fun x hx=>by cases hx
        rl:=fun h=>absurd rfl h
        rd:=fun x hx=>by cases hx
        bd:=⟨by show 0≤64;decide,fun x hx=>(by cases hx),Nat.zero_le _,Int.le_refl _,Int.le_refl _⟩
        dk:=⟨rfl,fun _=>rfl,.inl ⟨rfl,rfl⟩⟩ }
  · refine ⟨⟨⟨lok,fun e he=>(by cases he),hg,by show (1:Int)≤2;decide,by show (2:Int)≤64;decide⟩,fun l hl=>(by cases hl),?_,rfl,?_⟩,fun l hl=>(by cases hl),fun hr=>absurd hr (by show (0:Int)≠3;decide)⟩
    · exact
        { id0:=by show (1:Int)≤(i:Int) + 1;omega
          id1:=by show (i:Int) + 1≤15;omega
          p0:=by show (1:Int)≤3;decide
          p1:=by show (3:Int)≤1000;decide
          t0:=Int.le_refl _
          t1:=by show (0:Int)≤_;decide
          v0:=Int.le_refl _
          v1:=by show (0:Int)≤15;decide
          g:=hg
          w0:=Int.le_refl _
          nd:=List.nodup_nil
          rg:=fun x hx=>by cases hx }
    · unfold rightSn
      show (rightN 0 0 1099511627776 && rightN 0 0 1099511627776 && rightG (grp0 v).vs (grp0 v).ls && decide (([]:List Int).length≤60000))=true
      rw [hg];rfl
theorem nd0_ok {v i:Nat} (h1:1≤v) (h6:v≤6) (hi:i≤5):(nd0 v i).id=(i:Int) + 1∧RnA (nd0 v i)∧Clean (nd0 v i)∧(nd0 v i).disk=dk0 v∧NI ⟨grp0 v,[],0,(nd0 v i).disk⟩ 0 gh0 (nd0 v i) []:=by
  obtain ⟨hN,hA⟩:=ndB_ok h1 h6 hi
  obtain ⟨n',q1,q2,q3,q4,q5,q6⟩:=hN.anew (gh0_inv (grp0_right h1 h6)) hA
  have hst:=start0 h1 h6 hi
  have e:nd0 v i=n':=by
    have h2:Wd.startN (dk0 v) i=some n':=by
      unfold Wd.startN
      show (rnNew ((i:Int) + 1) ⟨0,0⟩ (dk0 v).sn [] 3 2).2=_
      have q1:rnNew ((i:Int) + 1) ⟨0,0⟩ (dk0 v).sn [] 3 2=(0,some n'):=q1
      rw [q1]
    rw [hst] at h2
    exact Option.some.inj h2
  obtain ⟨f1,f2,f3,f4,f5,f6,f7,f8,f9,f10,f11,f12,f13,f14,f15,f16,f17,f18,f19,f20,f21⟩:=rnNew_facts (fun e he=>by cases he) q1
  rw [e]
  exact ⟨q2,⟨⟨f1,f2,f3,f7.trans f6.symm,f4⟩,(fun l hl=>by rw [f18] at hl;cases hl),fun hr=>by rw [f5] at hr;exact absurd hr (by decide)⟩,q3,q4,q6⟩
theorem wd0_inv {many v:Nat} (h1:1≤v) (h2:v≤many) (h6:many≤6):WInv (grp0 v) 0 gh0 (wd0 many v) (fun _=>True):=
  { X:=gh0_inv (grp0_right h1 (by omega))
    len:=by show ((List.range many).map (nd0 v)).length=(List.replicate many (dk0 v)).length;rw [List.length_map,List.length_range,List.length_replicate]
    nd:=fun j n _ hn=>by
      have hn:((List.range many).map (nd0 v))[j]? =some n:=hn
      have hj:=get_lt hn
      rw [List.length_map,List.length_range] at hj
      have e:n=nd0 v j:=by
        rw [List.getElem?_map,List.getElem?_range hj] at hn
        exact (Option.some.inj hn).symm
      subst e
      obtain ⟨a1,a2,a3,a4,a5⟩:=nd0_ok (v:=v) (i:=j) h1 (by omega) (by omega)
      refine ⟨a1,a2,a3,?_,[],a5⟩
      show (List.replicate many (dk0 v))[j]? =_
      rw [List.getElem?_replicate,if_pos hj,a4]
    ms:=fun m hm=>by cases hm
    ent:=fun e he=>by cases he
    most:=.inl (Int.le_refl _)
    lds:=fun e he=>by cases he
    ask:=fun a ha=>by cases ha
    t0:=Int.le_refl _
    good:=rfl
    al:=Nat.le_refl _
    t1:=Int.le_refl _
    nl:=by show 1≤((List.range many).map (nd0 v)).length∧((List.range many).map (nd0 v)).length≤6;rw [List.length_map,List.length_range];omega }
theorem EntI.ok (X:XInv g0 E G) {e:Int × Ey} (h:EntI G e):bytesOk e.2.dt∧e.2.dt.length≤4096:=by
  obtain ⟨t,k,b,h1,h2,h3,h4⟩:=h
  obtain ⟨r1,_⟩:=X.I.ok.rc _ _ _ h1
  have hm:=List.mem_of_getElem? h4
  exact ⟨X.eb _ r1 _ hm,(oddE_no ((X.oe _ r1).no _ hm)).2.2.2.2.2.2⟩
theorem WInv.wr (h:WInv g0 E G W P) (hE:E≤10000) (hk:W.ns[k]? =some n) (hd:W.dk[k]? =some d) (ha:RnA n) (hdk:DkOk d) (hN:NI C E G n F) (hX:C.g0=g0) (hs:W.sent.length≤20000) (hm:n.rms.length≤2000):WrOk W k n d:=by
  have hc0:=hN.c0
  have hFl:=h.X.len hN.A.good
  have hl:=hN.fl.last
  have hrr:=hN.bd.rr
  have hal:=h.al
  have hll:n.log.l.length≤100000:=by
    rw [←hN.fl.l,List.length_drop];omega
  have hf: -1099511627776≤n.rfr∧n.rfr≤1099511627776:=by
    rcases hN.dk.l with ⟨h1,_⟩|⟨h1,h2,_⟩
    · omega
    · omega
  exact ⟨hk,hd,ha,hdk,fun t ht=>(h.ent t ht).ok h.X,by omega,by omega,by omega,by omega,hf.1,hf.2,by omega⟩
theorem Mid.wr {s:Nat} (h:Mid g0 E W k s) (hE:E≤10000) (hs:s≤20000):∃ n d,WrOk W k n d:=by
  obtain ⟨⟨G,n,d,F,a1,a2,a3,a4,a5,a6,a7,a8⟩,a9⟩:=h
  exact ⟨n,d,a1.wr hE a2 a3 a5 a6 a7 rfl (by omega) a8⟩
theorem WInv.wd (h:WInv g0 E G W (fun _=>True)) (hE:E≤100000):WdOk W:=by
  have node:∀ {n:Rn} {j:Nat},W.ns[j]? =some n→NdOk n∧DkOk n.disk:=fun {n j} hn=>by
    have a:=h.nd j n trivial hn
    obtain ⟨F,hN⟩:=a.i
    have hFl:=h.X.len hN.A.good
    have hl:=hN.fl.last
    have hwt:=hN.bd.wt
    have hrn:=hN.bd.rn
    have hrs:=hN.bd.rs
    refine ⟨⟨a.a,⟨by omega,fun x hx=>by have:=hN.bd.bh x hx;omega,by rw [a.cl.rd];exact Nat.zero_le _,by rw [a.cl.ms];exact Nat.zero_le _,by omega⟩,hN.hr,by omega,hN.r0,by omega⟩,hN.dkOk h.X hE⟩
  have t1:=h.t1
  have al:=h.al
  refine ⟨h.len,h.nl.1,h.nl.2,fun n hn=>?_,fun d hd=>?_,fun m hm=>(h.ms m hm).ok,h.t0,by omega,by omega⟩
  · obtain ⟨j,hj,rfl⟩:=List.getElem_of_mem hn
    exact (node (List.getElem?_eq_getElem hj)).1
  · obtain ⟨j,hj,rfl⟩:=List.getElem_of_mem hd
    have hj2:j<W.ns.length:=by rw [h.len];exact hj
    have hn:=List.getElem?_eq_getElem hj2
    have a:=h.nd j _ trivial hn
    have e:W.dk[j]=(W.ns[j]).disk:=by
      have:=a.dk
      rw [List.getElem?_eq_getElem hj] at this
      exact Option.some.inj this
    rw [e]
    exact (node hn).2
theorem WInv.step (h:WInv g0 E G W (fun _=>True)) (hE:E + 2≤10000) (hs:W.sent.length<20000) (x:Ev):StepOk W x where
  ok:=h.wd (by omega)
  act W' k hx:=(h.act (by omega) hx).wr hE (by omega)
  comp _ n hn h0:=by
    have a:=h.nd _ n trivial hn
    obtain ⟨F,hN⟩:=a.i
    obtain ⟨c1,c2,c3,_⟩:=hN.comp h.X (by omega:E≤1000000) a.cl
    have hN1:=c3 h0
    have hra:=a.a.comp hN1 h.X.I.gr
    refine ⟨n.comp.2,n.disk,WInv.wr (G:=G) (E:=E) ((h.weak (W.who x.who)).putO n.comp.2) (by omega) ?_ a.dk hra (hN.dkOk h.X (by omega)) hN1 rfl (by show W.sent.length≤_;omega) (by rw [c1.ms];exact Nat.zero_le _)⟩
    show (W.ns.set _ _)[W.who x.who]? =_
    rw [List.getElem?_set_self (get_lt hn)]
theorem safePlain:SafePlain:=fun many voters l h1 h2 h6 hl _=>by
  obtain ⟨G,h⟩:=WInv.run l (wd0_inv h1 h2 h6) (by omega)
  exact ⟨h.good,fun hs x=>h.step (by omega) hs x⟩
end Go.Proofs.YthpmfnffkjjlnaaGreat
/- ROW: from a reading of an argument to what the contracts ask; from a walk's end to 'Below'. No condition. -/
namespace Go.VC
set_option linter.unusedVariables false
set_option linter.unusedSimpArgs false
open Go.ChangeShapes Go.WideShapes Go.ChangeAt Go.RowKit
theorem below_of {W W':World} {Hs:List HP} (h:Sat (Cx.of W) Hs W'):Below W.heap.size W W':=by
 obtain ⟨h1,h2,h3⟩:=h.streams
 have hb:∀ k,k<W.heap.size→W'.heap[k]? =W.heap[k]?:=fun k hk=>by
  have:(Cx.of W).m k=some W.heap[k]:=by simp [Cx.of,hk]
  rw [h.of_ro this];simp [hk]
 refine ⟨h1,h2,h3,?_,hb⟩
 rcases Nat.lt_or_ge W'.heap.size W.heap.size with hl|hl
 ·have:=hb W'.heap.size hl
  rw [Array.getElem?_eq_none (Nat.le_refl _)] at this
  simp [hl] at this
 ·exact hl
theorem block_of_cell {w:World} {a:Addr} {v:Value} (h:w.cell? a=some v):a.spot=none∧∃ l T fr,w.heap[a.block]? =some (.cells l T fr)∧l[a.off]? =some v:=by
 unfold World.cell? at h
 split at h
 ·rename_i c T fr hb
  split at h
  ·cases h
  ·rename_i hs
   exact ⟨by simpa using hs,c,T,fr,hb,h⟩
 ·cases h
section
variable {H:Type} {enc:TypeId × Value→H} {P:Program} {W:World} {base:Nat} {spare:Nat→Bool} {held:Bool}
end
end Go.VC

/- ROW, part 3: arguments of any plain type (integers, bools, floats, strings, slices, structs, arrays of such), read as trees. No condition. -/
namespace Go.VC
set_option linter.unusedVariables false
set_option linter.unusedSimpArgs false
open Go.ChangeShapes Go.WideShapes Go.ChangeAt Go.RowKit
inductive Tr where
 |int (k:IntKind) (n:Int)|bool (b:Bool)|flt (n:Nat)|str (s:ByteArray)|sl (s:Sl) (xs:List Tr)|st (xs:List Tr)
mutual
def Tr.cells:Tr→List Value
 | .int k n=>[.int k n]
 | .bool b=>[.bool b]
 | .flt n=>[.float .f64 n]
 | .str s=>[.string s]
 | .sl s _=>[.slice s.a s.len s.cap]
 | .st xs=>Tr.cellsL xs
def Tr.cellsL:List Tr→List Value
 |[]=>[]
 |x::xs=>x.cells++Tr.cellsL xs
end
inductive U where
 |int (k:IntKind)|bool|flt|str|sl (u:U)|st (us:List U)
mutual
def U.size:U→Nat
 | .st us=>U.sizeL us
 |_=>1
def U.sizeL:List U→Nat
 |[]=>0
 |u::us=>u.size + U.sizeL us
end
mutual
def Tr.Ok (R:Cx):U→Tr→Prop
 | .int k,.int k' n=>k'=k∧(Lit.int k n).wf=true
 | .bool,.bool _=>True
 | .flt,.flt n=>(Lit.float .f64 n).wf=true
 | .str,.str s=>s.size≤maxLen
 | .sl u,.sl s xs=>(RoN u.size R s (xs.map Tr.cells)∧s.len≤s.cap)∧xs.length≤maxLen∧Tr.OkA R u xs
 | .st us,.st xs=>Tr.OkL R us xs
 |_,_=>False
def Tr.OkA (R:Cx) (u:U):List Tr→Prop
 |[]=>True
 |x::xs=>Tr.Ok R u x∧Tr.OkA R u xs
def Tr.OkL (R:Cx):List U→List Tr→Prop
 |[],[]=>True
 |u::us,x::xs=>Tr.Ok R u x∧Tr.OkL R us xs
 |_,_=>False
end
theorem Tr.okA {R:Cx} {u:U}:∀ {xs:List Tr},Tr.OkA R u xs→∀ x∈xs,Tr.Ok R u x
 |[],_,x,hx=>by cases hx
 |y::ys,h,x,hx=>by
  unfold Tr.OkA at h
  rcases List.mem_cons.1 hx with rfl|hx
  ·exact h.1
  ·exact Tr.okA h.2 x hx
theorem Tr.okA_mk {R:Cx} {u:U}:∀ {xs:List Tr},(∀ x∈xs,Tr.Ok R u x)→Tr.OkA R u xs
 |[],_=>by unfold Tr.OkA;trivial
 |y::ys,h=>by
  unfold Tr.OkA
  exact ⟨h y List.mem_cons_self,Tr.okA_mk fun x hx=>h x (List.mem_cons_of_mem _ hx)⟩
def fieldsU (P:Program) (f:TypeId→Option U):Nat→List Field→Option (List U)
 |_,[]=>some []
 |off,x::xs=>match Nat.beq x.offset off with
  |false=>none
  |true=>match f x.type with
   |none=>none
   |some u=>match Nat.beq (P.cellsOf x.type) u.size with
    |false=>none
    |true=>match fieldsU P f (off + u.size) xs with
     |none=>none
     |some us=>some (u::us)
def uOf (P:Program):Nat→TypeId→Option U
 |0,_=>none
 |d + 1,t=>match P.underlying t with
  |some (.int k)=>some (.int k)
  |some .bool=>some .bool
  |some (.float .f64)=>some .flt
  |some .string=>some .str
  |some (.slice e)=>match uOf P d e with
   |some u=>(match Nat.beq (P.cellsOf e) u.size && Nat.blt 0 u.size with|true=>some (.sl u)|false=>none)
   |none=>none
  |some (.struct fs)=>match fieldsU P (uOf P d) 0 fs.toList with
   |some us=>(match Nat.beq (P.cellsOf t) (U.sizeL us) with|true=>some (.st us)|false=>none)
   |none=>none
  |some (.array n e)=>match uOf P d e with
   |some u=>(match Nat.beq (P.cellsOf e) u.size && Nat.beq (P.cellsOf t) (n * u.size) with|true=>some (.st (List.replicate n u))|false=>none)
   |none=>none
  |_=>none
section
variable {H:Type} {enc:TypeId × Value→H} {P:Program} {W:World} {base:Nat} {spare:Nat→Bool} {held:Bool}
def IsTr (R:Cx) (u:U) (cs:List Value):Prop:=∃ x:Tr,x.cells=cs∧x.Ok R u
theorem cells?_cell {w:World} {base:Nat} {a:Addr} {n:Nat} {cs:List Value} (h:w.cells? base a n=some cs):cs.length=n∧∀ i,i<n→w.cell? (a.add i)=cs[i]?:=by
 unfold World.cells? at h
 split at h
 ·refine ⟨by have:=mapM_some_length h;simpa using this,fun i hi=>mapM_some_get h i i (by simp [hi])⟩
 ·cases h
theorem add_add (a:Addr) (i j:Nat) (hs:a.spot=none):(a.add i).add j=⟨a.block,a.off + (i + j),none⟩:=by
 obtain ⟨b,o,s⟩:=a
 simp only at hs
 subst hs
 rw [add_off,add_off,Nat.add_assoc]
theorem fields_read {d:Nat} (ih:∀ {fuel:Nat} {t:TypeId} {cs:List Value} {y:DataW H × List MemPlace} {u:U},uOf P d t=some u→DataW.trod enc P W base spare held fuel t cs=some y→IsTr (Cx.of W) u cs) {n:Nat} {cs:List Value} {xs:List (DataW H × List MemPlace)}:
  ∀ (fs:List Field) (off:Nat) (us:List U),fieldsU P (uOf P d) off fs=some us→(∀ (i:Nat) (f:Field),fs[i]? =some f→∃ y,DataW.trod enc P W base spare held n f.type ((cs.drop f.offset).take (P.cellsOf f.type))=some y)→
   off + U.sizeL us≤cs.length→∃ ts:List Tr,Tr.cellsL ts=(cs.drop off).take (U.sizeL us)∧Tr.OkL (Cx.of W) us ts
 |[],off,us,h,_,_=>by
  simp only [fieldsU,Option.some.injEq] at h
  subst h
  exact ⟨[],by simp [Tr.cellsL,U.sizeL],by unfold Tr.OkL;trivial⟩
 |f::fs,off,us,h,hf,hl=>by
  unfold fieldsU at h
  split at h
  ·cases h
  rename_i hoff
  have hoff:=Nat.eq_of_beq_eq_true hoff
  split at h
  ·cases h
  rename_i u hu
  split at h
  ·cases h
  rename_i hc
  have hc:=Nat.eq_of_beq_eq_true hc
  split at h
  ·cases h
  rename_i us' hus
  cases h
  simp only [U.sizeL] at hl ⊢
  obtain ⟨y,hy⟩:=hf 0 f rfl
  obtain ⟨x,hx,hxo⟩:=ih hu hy
  obtain ⟨ts,hts,htso⟩:=fields_read ih (n:=n) (xs:=xs) fs (off + u.size) us' hus (fun i g hg=>hf (i + 1) g (by simpa using hg)) (by omega)
  refine ⟨x::ts,?_,by unfold Tr.OkL;exact ⟨hxo,htso⟩⟩
  simp only [Tr.cellsL]
  rw [hx,hts,hoff,hc,List.take_add,List.drop_drop]
theorem reps_read {u:U} {n s:Nat}:∀ {m:Nat} {cs:List Value},cs.length=m * s→u.size=s→(∀ i,i<m→IsTr (Cx.of W) u ((cs.drop (i * s)).take s))→∃ ts:List Tr,Tr.cellsL ts=cs∧Tr.OkL (Cx.of W) (List.replicate m u) ts
 |0,cs,hl,_,_=>by
  have:cs=[]:=List.length_eq_zero_iff.1 (by simpa using hl)
  subst this
  exact ⟨[],rfl,by unfold Tr.OkL;trivial⟩
 |m + 1,cs,hl,hs,h=>by
  obtain ⟨x,hx,hxo⟩:=h 0 (by omega)
  obtain ⟨ts,hts,htso⟩:=reps_read (n:=n) (m:=m) (cs:=cs.drop s) (by rw [List.length_drop,hl,Nat.add_mul];omega) hs (fun i hi=>by
   have:=h (i + 1) (by omega)
   rw [Nat.add_mul,Nat.one_mul,Nat.add_comm,←List.drop_drop] at this
   exact this)
  refine ⟨x::ts,?_,by rw [List.replicate_succ];unfold Tr.OkL;exact ⟨hxo,htso⟩⟩
  simp only [Tr.cellsL]
  rw [hx,hts]
  simp
theorem choose_list {α β:Type} {p:Nat→α→Prop}:∀ {n:Nat},(∀ i,i<n→∃ x:α,p i x)→∃ xs:List α,xs.length=n∧∀ i (hi:i<xs.length),p i xs[i]
 |0,_=>⟨[],rfl,fun i hi=>by simp at hi⟩
 |n + 1,h=>by
  obtain ⟨xs,hl,hp⟩:=choose_list (β:=β) (n:=n) fun i hi=>h i (by omega)
  obtain ⟨x,hx⟩:=h n (by omega)
  refine ⟨xs++[x],by simp [hl],fun i hi=>?_⟩
  by_cases h2:i<xs.length
  ·rw [List.getElem_append_left h2];exact hp i h2
  ·have:i=n:=by simp at hi;omega
   subst this
   rw [List.getElem_append_right (by omega)]
   simpa using hx
theorem trod_f64 {fuel:Nat} {t:TypeId} {cs:List Value} {x:DataW H × List MemPlace} (ht:P.underlying t=some (.float .f64)) (h:DataW.trod enc P W base spare held fuel t cs=some x):∃ n,cs=[.float .f64 n]∧(Lit.float .f64 n).wf=true:=by
 cases fuel with
 |zero=>simp [DataW.trod] at h
 |succ n=>
  unfold DataW.trod at h
  rw [ht] at h
  split at h<;>simp_all
theorem tr_read:∀ {d fuel:Nat} {t:TypeId} {cs:List Value} {y:DataW H × List MemPlace} {u:U},uOf P d t=some u→DataW.trod enc P W base spare held fuel t cs=some y→IsTr (Cx.of W) u cs
 |0,_,_,_,_,_,h,_=>by cases h
 |d + 1,fuel,t,cs,y,u,h,hy=>by
  unfold uOf at h
  split at h
  ·rename_i k ht
   cases h
   obtain ⟨n,rfl,_,hw⟩:=DataW.trod_int ht hy
   exact ⟨.int k n,rfl,rfl,hw⟩
  ·rename_i ht
   cases h
   obtain ⟨b,rfl,_⟩:=DataW.trod_bool ht hy
   exact ⟨.bool b,rfl,by unfold Tr.Ok;trivial⟩
  ·rename_i ht
   cases h
   obtain ⟨n,rfl,hn⟩:=trod_f64 ht hy
   exact ⟨.flt n,rfl,by unfold Tr.Ok;exact hn⟩
  ·rename_i ht
   cases h
   obtain ⟨s,rfl,_,hs⟩:=DataW.trod_string ht hy
   exact ⟨.str s,rfl,hs⟩
  ·rename_i e ht
   split at h
   case h_2=>cases h
   rename_i ue hue
   split at h
   case h_2=>cases h
   rename_i hc
   simp only [Bool.and_eq_true] at hc
   have hpos:0<ue.size:=Nat.blt_eq.mp hc.2
   have hc:=Nat.eq_of_beq_eq_true hc.1
   cases h
   rcases DataW.trod_slice ht hy with ⟨rfl,_⟩|⟨a,len,cap,elems,rest,n,_,rfl,_,_,hlc,hcm,hel,helem,_,_⟩
   ·refine ⟨.sl ⟨none,0,0⟩ [],rfl,?_⟩
    unfold Tr.Ok
    exact ⟨⟨⟨Wid.nil,rfl,fun h=>absurd rfl h⟩,Nat.le_refl _⟩,Nat.zero_le _,by unfold Tr.OkA;trivial⟩
   ·obtain ⟨xs,hxl,hxs⟩:=choose_list (β:=Unit) (p:=fun i (x:Tr)=>W.cells? base (a.add (i * P.cellsOf e)) (P.cellsOf e)=some x.cells∧x.Ok (Cx.of W) ue) (n:=len) fun i hi=>by
     have h1:=helem i hi
     rw [List.getElem?_eq_getElem (by omega)] at h1
     obtain ⟨ce,hce,hte⟩:=Option.bind_eq_some_iff.1 h1
     obtain ⟨x,rfl,hx⟩:=tr_read hue hte
     exact ⟨x,hce,hx⟩
    refine ⟨.sl ⟨some a,len,cap⟩ xs,rfl,?_⟩
    unfold Tr.Ok
    have hwid:Wid ue.size (xs.map Tr.cells):=fun r hr=>by
     obtain ⟨x,hx,rfl⟩:=List.mem_map.1 hr
     obtain ⟨i,hi,rfl⟩:=List.getElem_of_mem hx
     have:=(cells?_cell (hxs i hi).1).1
     rw [this,hc]
    refine ⟨⟨⟨hwid,by simp [hxl],fun hne=>?_⟩,hlc⟩,by omega,Tr.okA_mk fun x hx=>by obtain ⟨i,hi,rfl⟩:=List.getElem_of_mem hx;exact (hxs i hi).2⟩
    -- the block
    have h0:0<xs.length:=by
     have:0<(xs.map Tr.cells).length:=List.length_pos_iff.2 hne
     simpa using this
    have hcell:∀ i (hi:i<xs.length) j,j<ue.size→W.cell? ((a.add (i * ue.size)).add j)=(xs[i].cells)[j]?:=fun i hi j hj=>by
     have:=(cells?_cell (hxs i hi).1).2 j (by rw [hc];exact hj)
     rw [hc] at this;exact this
    have hxl0:∀ i (hi:i<xs.length),(xs[i].cells).length=ue.size:=fun i hi=>by rw [(cells?_cell (hxs i hi).1).1,hc]
    have hc0:=hcell 0 h0 0 (by omega)
    rw [List.getElem?_eq_getElem (by rw [hxl0 0 h0];omega)] at hc0
    have hz0:(a.add (0 * ue.size)).add 0=a:=by rw [Nat.zero_mul];simp [Addr.add]
    rw [hz0] at hc0
    obtain ⟨hs,l,T,fr,hl,_⟩:=block_of_cell hc0
    refine ⟨a.block,a.off,l,T,fr,by cases a;simp_all,hl,fun i v hv=>?_⟩
    -- which row, which place
    have hlen:=hwid.len
    rw [List.length_map] at hlen
    have hi:i<(xs.map Tr.cells).flatten.length:=(List.getElem?_eq_some_iff.1 hv).1
    have hq:i / ue.size<xs.length:=by
     rw [hlen] at hi;exact Nat.div_lt_of_lt_mul (by rwa [Nat.mul_comm])
    have hm:i % ue.size<ue.size:=Nat.mod_lt _ (by omega)
    have hcc:=hcell (i / ue.size) hq (i % ue.size) hm
    rw [add_add a _ _ hs,show i / ue.size * ue.size + i % ue.size=i by rw [Nat.mul_comm];exact Nat.div_add_mod _ _] at hcc
    have e1:(xs.map Tr.cells).flatten[i]? =(xs[i / ue.size].cells)[i % ue.size]?:=by
     have h1:i=i / ue.size * ue.size + i % ue.size:=by rw [Nat.mul_comm];exact (Nat.div_add_mod _ _).symm
     conv=>lhs;rw [h1]
     rw [←List.getElem?_drop,hwid.drop_flat,List.drop_eq_getElem_cons (by simpa using hq),List.flatten_cons,List.getElem?_append_left (by rw [List.getElem_map,hxl0 _ hq];exact hm),List.getElem_map]
    rw [←e1,hv] at hcc
    simp only [World.cell?,hl,Option.isSome_none,Bool.false_eq_true,if_false] at hcc
    exact hcc
  ·rename_i fs ht
   split at h
   case h_2=>cases h
   rename_i us hus
   split at h
   case h_2=>cases h
   rename_i hc
   have hc:=Nat.eq_of_beq_eq_true hc
   cases h
   obtain ⟨xs,n,_,_,hl,hxl,hf⟩:=DataW.trod_struct ht hy
   obtain ⟨ts,hts,hto⟩:=fields_read (d:=d) (fun h h2=>tr_read h h2) (n:=n) (cs:=cs) (xs:=xs) fs.toList 0 us hus (fun i f hfi=>by
    have hfi2:fs[i]? =some f:=by simpa using hfi
    have hlt:i<xs.length:=by rw [hxl];exact (Array.getElem?_eq_some_iff.1 hfi2).1
    exact ⟨xs[i],by rw [hf i f hfi2];exact List.getElem?_eq_getElem hlt⟩) (by omega)
   refine ⟨.st ts,?_,by unfold Tr.Ok;exact hto⟩
   unfold Tr.cells
   rw [hts,List.drop_zero,List.take_of_length_le (by omega)]
  ·rename_i m e ht
   split at h
   case h_2=>cases h
   rename_i ue hue
   split at h
   case h_2=>cases h
   rename_i hc
   simp only [Bool.and_eq_true] at hc
   have hc1:=Nat.eq_of_beq_eq_true hc.1
   have hc2:=Nat.eq_of_beq_eq_true hc.2
   cases h
   obtain ⟨xs,n,_,_,hl,hxl,hf⟩:=DataW.trod_array ht hy
   obtain ⟨ts,hts,hto⟩:=reps_read (n:=n) (u:=ue) (s:=ue.size) (m:=m) (cs:=cs) (by rw [hl,hc2]) rfl (fun i hi=>by
    have:=hf i hi
    rw [hc1,List.getElem?_eq_getElem (by omega)] at this
    exact tr_read hue this)
   exact ⟨.st ts,by unfold Tr.cells;exact hts,by unfold Tr.Ok;exact hto⟩
  ·cases h
theorem tr_arg {d:Nat} {t:TypeId} {v:Value} {dt:DataW H} {p:List MemPlace} {u:U} (hu:uOf P d t=some u) (h:DataW.Trod enc P W base spare held t v dt p):IsTr (Cx.of W) u v.cells.toList:=by
 obtain ⟨fuel,hf⟩:=h
 exact tr_read hu hf
theorem sl_form {α:Type} {R:Cx} {u:U} {s:Sl} {xs:List Tr} (g:α→List Value) (Q:α→Prop) (ho:Tr.Ok R (.sl u) (.sl s xs)) (h:∀ x:Tr,x.Ok R u→∃ e:α,x.cells=g e∧Q e):
  ∃ es:List α,RoN u.size R s (es.map g)∧es.length≤maxLen∧∀ e∈es,Q e:=by
 unfold Tr.Ok at ho
 obtain ⟨⟨h1,_⟩,h2,h3⟩:=ho
 have key:∀ l:List Tr,(∀ x∈l,x.Ok R u)→∃ es:List α,l.map Tr.cells=es.map g∧es.length=l.length∧∀ e∈es,Q e:=fun l=>by
  induction l with
  |nil=>exact fun _=>⟨[],rfl,rfl,fun _ h=>by cases h⟩
  |cons x l ih=>
   intro hl
   obtain ⟨es,h1,h2,h3⟩:=ih fun y hy=>hl y (List.mem_cons_of_mem _ hy)
   obtain ⟨e,he,hq⟩:=h x (hl x List.mem_cons_self)
   exact ⟨e::es,by rw [List.map_cons,List.map_cons,he,h1],by simp [h2],fun y hy=>by
    rcases List.mem_cons.1 hy with rfl|hy
    ·exact hq
    ·exact h3 y hy⟩
 obtain ⟨es,e1,e2,e3⟩:=key xs (Tr.okA h3)
 rw [e1] at h1
 exact ⟨es,h1,by omega,e3⟩
end
end Go.VC
/- Arguments of RaftSafe, read. No condition. -/
namespace Go.Proofs.YthpmfnffkjjlnaaGreat
set_option linter.unusedVariables false
set_option linter.unusedSimpArgs false
open Go Go.VC Go.ChangeShapes Go.WideShapes Go.ChangeAt Go.RowKit
abbrev evU:U:=.st [.int .i64,.int .i64,.int .i64,.int .i64]
theorem ev_form {R:Cx} {x:Tr} (ho:x.Ok R evU):∃ e:Ev,x.cells=evRow e∧True:=by
 cases x<;>simp only [Tr.Ok] at ho
 rename_i xs
 match xs,ho with
 |[x0,x1,x2,x3],ho=>
  simp only [Tr.OkL,and_true] at ho
  obtain ⟨h0,h1,h2,h3⟩:=ho
  cases x0<;>simp only [Tr.Ok] at h0
  rename_i k0 n0
  obtain ⟨rfl,_⟩:=h0
  cases x1<;>simp only [Tr.Ok] at h1
  rename_i k1 n1
  obtain ⟨rfl,_⟩:=h1
  cases x2<;>simp only [Tr.Ok] at h2
  rename_i k2 n2
  obtain ⟨rfl,_⟩:=h2
  cases x3<;>simp only [Tr.Ok] at h3
  rename_i k3 n3
  obtain ⟨rfl,_⟩:=h3
  exact ⟨⟨n0,n1,n2,n3⟩,rfl,trivial⟩
variable {H:Type} {enc:TypeId × Value→H} {W:World} {r:Reach} {b0:Nat} {v:Value} {d:DataW H} {p:List MemPlace}
set_option maxRecDepth 100000 in
theorem events_in (hv:Value.okWide Tryz.prog W r b0 79 v) (h:DataW.Trod enc Tryz.prog W 0 (fun _=>true) true 79 v d p):
  ∃ (m:Sl) (l:List Ev),v=.slice m.a m.len m.cap∧RoN 4 (Cx.of W) m (l.map evRow):=by
 obtain ⟨a,n,c,rfl⟩:=okWide_slice Tryz.underlying79 hv
 obtain ⟨x,hx,ho⟩:=tr_arg (d:=6) (u:=.sl evU) (by kernel_rfl) h
 cases x<;>simp only [Tr.Ok] at ho
 rename_i s xs
 obtain ⟨l,h1,_,_⟩:=sl_form evRow (fun _=>True) (show Tr.Ok (Cx.of W) (.sl evU) (.sl s xs) by unfold Tr.Ok;exact ho) fun x hx=>ev_form hx
 refine ⟨s,l,?_,h1⟩
 have:[Value.slice s.a s.len s.cap]=[Value.slice a n c]:=by simpa [Tr.cells,Value.cells] using hx
 exact (List.cons.inj this).1.symm
end Go.Proofs.YthpmfnffkjjlnaaGreat
