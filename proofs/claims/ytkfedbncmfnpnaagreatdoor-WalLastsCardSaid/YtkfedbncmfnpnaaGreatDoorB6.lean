/- Later logs, walked. Condition: bounds on lengths. -/
import Derived.Test.YtkfedbncmfnpnaaGreatDoorB5
namespace Go.Proofs.YtkfedbncmfnpnaaGreatDoor
set_option linter.unusedVariables false
set_option linter.unusedSimpArgs false
open Go Go.VC
open Classical
variable {R R':Cx} {Hs Rest:List HP} {w:World}
abbrev stC (b:Nat) (e:StE):HP:=pts b (.cells (stV e).toArray 43 (0,0))
set_option maxHeartbeats 1000000 in
theorem laterL_spec {base:Int} {s:Sl} {dl:List DE4} {e:StE} (h0:0≤base) (h1:base≤1099511627776) (hlen:dl.length≤100000) (hel:e.dl.length≤1000) (hl:RoN 4 R s (dl.map eRow)) (hcap:s.len≤s.cap) (hd:DsR R dl) (hE:EsR R e.sl e.dl) (hn: -9223372036854775808≤e.n∧e.n<9223372036854775808) (hw:Sat R Hs w):
  Gets Tryz.prog 29 #[.agg #[.int .i64 base,.slice s.a s.len s.cap],.agg (stV e).toArray] w fun v w'=>∃ (R':Cx) (t:Sl) (ls:List LgE),R.Ext R'∧v=.slice t.a t.len t.cap∧(∀ q∈ls,LgR R' q)∧ls.map lgOf=laterS ⟨base,erE dl⟩ e∧Sat R' (LgsO t ls::Hs) w':=by
 have hsl:s.len=dl.length:=by have:=hl.len;simpa using this
 have hlast:(⟨base,erE dl⟩:Lg).last=base + dl.length:=by unfold Lg.last;simp
 refine call29 base s e.d e.n e.most e.sl e.sk _ w ?_
 suffices H:∀ K:Value→World→Prop,(∀ (R':Cx) (t:Sl) (ls:List LgE) w',R.Ext R'→(∀ q∈ls,LgR R' q)→ls.map lgOf=laterS ⟨base,erE dl⟩ e→Sat R' (LgsO t ls::Hs) w'→K (.slice t.a t.len t.cap) w')→B29 base s e.d e.n e.most e.sl e.sk K w from H _ fun R' t ls w' a b c h=>⟨R',t,ls,a,rfl,b,c,h⟩
 intro K hK
 have none':laterS ⟨base,erE dl⟩ e=[]→∀ {w:World},Sat R Hs w→K (.slice none 0 0) w:=fun he {w} hw=>hK R ⟨none,0,0⟩ [] w .refl (fun _ h=>by cases h) (by rw [he];rfl) (nil_log hw)
 refine new_rule hw fun bg w hw=>new_rule hw fun bs w hw=>?_
 have hw:Sat R (lgC bg base s::pts bs (.cells (stV e).toArray 43 (0,0))::Hs) w:=hw.swap
 refine ⟨e.d,At.own (eqS hw) (by exact ⟨rfl,trivial⟩),Br.e (fun hd0=>?_) (fun hd0=>?_)⟩
 ·have hS:laterS ⟨base,erE dl⟩ e=laterApp ⟨base,erE dl⟩ (erE e.dl):=by unfold laterS;rw [if_pos hd0]
  have hel2:e.sl.len=e.dl.length:=by have:=hE.rows.len;simpa using this
  obtain ⟨I,hI⟩:∃ I:Sl→Int→World→Prop,∀ t i w,I t i w↔∃ (j:Nat) (R1:Cx) (s1:Sl) (dl1:List DE4) (ls:List LgE),i=j∧j≤e.dl.length∧R.Ext R1∧RoN 4 R1 s1 (dl1.map eRow)∧DsR R1 dl1∧dl1.length≤dl.length + j∧ls.length≤j∧(∀ q∈ls,LgR R1 q)∧
    laterApp ⟨base,erE dl⟩ (erE e.dl)=ls.map lgOf++laterApp ⟨base,erE dl1⟩ ((erE e.dl).drop j)∧Sat R1 (lgC bg base s1::LgsO t ls::stC bs e::Hs) w:=⟨_,fun _ _ _=>Iff.rfl⟩
  refine ⟨I,fun _ i _=>(e.dl.length - i).toNat,(hI _ _ _).2 ⟨0,R,s,dl,[],rfl,Nat.zero_le _,.refl,hl,hd,by omega,by simp,fun _ h=>(by cases h),by simp,(nil_log hw).arr⟩,?_⟩
  clear hw
  intro z t i w h
  obtain ⟨j,R1,s1,dl1,ls,rfl,hj,e1,hs1,hd1,hl1,hll,hls,heq,hw⟩:=(hI _ _ _).1 h
  clear h
  have stop:∀ {w:World},laterApp ⟨base,erE dl1⟩ ((erE e.dl).drop j)=[]→Sat R1 (lgC bg base s1::LgsO t ls::stC bs e::Hs) w→K (.slice t.a t.len t.cap) w:=fun h0 hw=>
   hK R1 t ls _ e1 hls (by rw [hS,heq,h0,List.append_nil]) (hw.drop.cons fun _ h=>h.drop)
  refine ⟨e.sl,At.own (eqS hw) (by exact ⟨rfl,trivial⟩),Br.d (fun hk=>?_) (fun hk=>stop (by rw [List.drop_eq_nil_of_le (by rw [List.length_map];omega)];rfl) hw)⟩
  have hjl:j<e.dl.length:=by omega
  have hdrop:(erE e.dl).drop j=e.dl[j].2::(erE e.dl).drop (j + 1):=by
   rw [List.drop_eq_getElem_cons (by rw [List.length_map];exact hjl),List.getElem_map]
  have hej:=hE.each.ext e1 _ (List.getElem_mem hjl)
  refine ⟨e.sl,At.own (eqS hw) (by exact ⟨rfl,trivial⟩),?_⟩
  have rr:∀ {S:World→Prop} {Hs':List HP},(∀ w,S w→Sat R1 Hs' w)→ReadsN 4 e.sl (e.dl.map eRow) S:=fun hS=>(e1.roN hE.rows).reads hS
  refine (rr (eqS hw)).rngM hjl fun a _ el=>⟨e.dl[j].2.ix,e.dl[j].2.tm,e.dl[j].2.kd,e.dl[j].1,el.z (by exact ⟨rfl,rfl,rfl,rfl,trivial⟩),?_⟩
  refine (right06_spec (e:=e.dl[j]) (by have:=hej.len;simpa using this) hw).use ?_
  clear hw
  rintro _ w ⟨rfl,hw⟩
  refine ⟨_,rfl,fun w=>(e.dl[j].2.Ok∧e.dl[j].2.ix=base + dl1.length + 1)∧Sat R1 (lgC bg base s1::LgsO t ls::stC bs e::Hs) w,?_,?_⟩
  ·refine drw_rule hw fun w hw=>Br.nd (fun ho=>stop (by rw [hdrop];unfold laterApp;rw [if_neg fun h=>ho h.1]) hw) (fun ho=>?_)
   refine ⟨e.sl,At.own selfS (by exact ⟨rfl,trivial⟩),?_⟩
   refine (rr selfS).rngM hjl fun a _ el=>⟨e.dl[j].2.ix,el.zz (by exact ⟨rfl,trivial⟩),base,s1,At.own selfS (by exact ⟨rfl,rfl,trivial⟩),?_⟩
   have hs1l:s1.len=dl1.length:=by have:=hs1.len;simpa using this
   refine (logLast_spec h0 h1 (by omega) hw).use ?_
   rintro _ w ⟨rfl,hw⟩
   refine ⟨_,rfl,hw,?_⟩
   rw [hs1l,wrap64 (by omega) (by omega)]
   exact Br.ne (fun hne=>stop (by rw [hdrop];unfold laterApp;rw [if_neg fun h=>hne (by rw [h.2];unfold Lg.last;simp)]) hw) (fun he=>⟨⟨ho,he⟩,hw⟩)
  clear hw
  rintro z _ ⟨⟨hok,hix⟩,hw⟩
  refine ⟨base,s1,At.own (eqS hw) (by exact ⟨rfl,rfl,trivial⟩),?_⟩
  refine (logCopyO_spec hs1 (by omega) hw).use ?_
  clear hw
  rintro _ w ⟨tc,rfl,hw⟩
  refine ⟨base,tc,rfl,?_⟩
  have hw:Sat R1 (lgC bg base s1::EntO tc dl1::LgsO t ls::stC bs e::Hs) w:=hw.arr
  refine store_rule hw (by kernel_rfl) rfl (by simp [Value.cells]) fun w hw=>?_
  have hw:=hw.re (lgC bg base tc)
  have toS:∀ {A:List HP} {w:World},Sat R1 (lgC bg base tc::A) w→Sat R1 [lgC bg base tc,VC.tru] w:=fun h=>h.cons fun _ h=>allTruA h
  have toS2:∀ {A:List HP} {w:World},Sat R1 (lgC bg base tc::stC bs e::A) w→Sat R1 [lgC bg base tc,stC bs e,VC.tru] w:=fun h=>h.cons fun _ h=>h.cons fun _ h=>allTruA h
  have hw:Sat R1 (lgC bg base tc::stC bs e::EntO tc dl1::LgsO t ls::Hs) w:=hw.arr
  refine drw_rule' (Sat R1 [lgC bg base tc,stC bs e,VC.tru]) hw (fun w hw=>toS2 hw) fun w hw=>?_
  refine ⟨tc,At.own selfS (by exact ⟨rfl,trivial⟩),e.sl,At.own selfS (by exact ⟨rfl,trivial⟩),?_⟩
  refine (rr selfS).rngM hjl fun a _ el=>⟨e.dl[j].2.ix,e.dl[j].2.tm,e.dl[j].2.kd,e.dl[j].1,el.z (by exact ⟨rfl,rfl,rfl,rfl,trivial⟩),?_⟩
  refine new_rule hw fun b3 w hw=>⟨toS2 (A:=pts b3 (.cells (eRow e.dl[j]).toArray 55 (0,0))::EntO tc dl1::LgsO t ls::Hs) hw.arr,?_⟩
  have hw:Sat R1 (EntO tc dl1::pts b3 (.cells (eRow e.dl[j]).toArray 55 (0,0))::lgC bg base tc::stC bs e::LgsO t ls::Hs) w:=hw.arr
  refine pushN_in elE (s:=tc) (rows:=dl1.map eRow) (x:=eRow e.dl[j]) hw rfl rfl (by rw [List.length_map];omega) (by rw [List.length_map];omega) fun t5 w hw=>?_
  have hw:Sat R1 (lgC bg base tc::stC bs e::EntO t5 (dl1++[e.dl[j]])::LgsO t ls::Hs) w:=by
   unfold EntO;rw [List.map_append];simp only [List.map_cons,List.map_nil];exact hw.arr
  refine ⟨toS2 hw,?_⟩
  refine store_rule hw (by kernel_rfl) rfl (by simp [Value.cells]) fun w hw=>?_
  have hw:=hw.re (lgC bg base t5)
  have hw:Sat R1 (EntO t5 (dl1++[e.dl[j]])::lgC bg base t5::stC bs e::LgsO t ls::Hs) w:=hw.arr
  have hc5:=OwnN.cap (by decide) hw
  obtain ⟨R2,e2,hr5,hw⟩:=OwnN.leak hw
  refine ⟨base,t5,At.own (eqS hw) (by exact ⟨rfl,rfl,trivial⟩),?_⟩
  refine new_rule hw fun b4 w hw=>?_
  have hw:Sat R2 (LgsO t ls::pts b4 (.cells (lgRow (base,t5,dl1++[e.dl[j]])).toArray 59 (0,0))::lgC bg base t5::stC bs e::Hs) w:=hw.arr
  refine pushN_in elL (s:=t) (rows:=ls.map lgRow) (x:=lgRow (base,t5,dl1++[e.dl[j]])) hw rfl rfl (by rw [List.length_map];omega) (by rw [List.length_map];omega) fun t6 w hw=>?_
  have hw:Sat R2 (lgC bg base t5::LgsO t6 (ls++[(base,t5,dl1++[e.dl[j]])])::stC bs e::Hs) w:=by
   unfold LgsO;rw [List.map_append];simp only [List.map_cons,List.map_nil];exact hw.arr
  rw [wrap64 (by omega) (by omega)]
  have hd2:DsR R2 (dl1++[e.dl[j]]):=(hd1.ext e2).app fun x hx=>by rw [List.mem_singleton.1 hx];exact e2.slR hej
  refine ⟨(hI _ _ _).2 ⟨j + 1,R2,t5,dl1++[e.dl[j]],ls++[(base,t5,dl1++[e.dl[j]])],by omega,hjl,e1.trans e2,hr5,hd2,by simp;omega,by simp;omega,fun q hq=>?_,?_,hw⟩,by dsimp only;omega⟩
  ·rcases List.mem_append.1 hq with hq|hq
   ·exact (hls q hq).ext e2
   ·rw [List.mem_singleton.1 hq];exact ⟨hr5,hd2,hc5⟩
  ·rw [heq,hdrop,List.map_append,List.append_assoc]
   congr 1
   conv=>lhs;unfold laterApp
   rw [if_pos ⟨hok,by rw [hix];unfold Lg.last;simp⟩]
   simp [lgOf]
 refine Br.e (fun hd1=>?_) (fun hd1=>?_)
 ·have hS:laterS ⟨base,erE dl⟩ e=laterCut ⟨base,erE dl⟩ e.n:=by unfold laterS;rw [if_neg hd0,if_pos hd1]
  refine ⟨fun t w=>t=decide (base<e.n∧e.n≤base + dl.length)∧Sat R (lgC bg base s::pts bs (.cells (stV e).toArray 43 (0,0))::Hs) w,?_,?_⟩
  ·refine drw_rule hw fun w hw=>⟨e.n,At.own selfS (by exact ⟨rfl,trivial⟩),base,At.own selfS (by exact ⟨rfl,trivial⟩),Br.d (fun a1=>?_) (fun a1=>⟨by rw [eq_comm,decide_eq_false_iff_not];omega,hw⟩)⟩
   refine ⟨e.n,At.own selfS (by exact ⟨rfl,trivial⟩),base,s,At.own selfS (by exact ⟨rfl,rfl,trivial⟩),?_⟩
   refine (logLast_spec h0 h1 (by omega) hw).use ?_
   rintro _ w ⟨rfl,hw⟩
   refine ⟨_,rfl,hw,?_,hw⟩
   rw [hsl]
   exact decide_eq_decide.2 ⟨fun h=>⟨by omega,h⟩,fun h=>h.2⟩
  clear hw
  rintro _ _ w ⟨rfl,hw⟩
  refine Br.d (fun hc=>?_) (fun hc=>none' (by rw [hS];unfold laterCut;rw [if_neg (by rw [hlast];exact hc)]) hw.drop.drop)
  refine drw_rule hw fun w hw=>⟨base,At.own selfS (by exact ⟨rfl,trivial⟩),s,At.own selfS (by exact ⟨rfl,trivial⟩),e.n,At.own selfS (by exact ⟨rfl,trivial⟩),base,At.own selfS (by exact ⟨rfl,trivial⟩),?_⟩
  rw [wrap64 (x:=e.n - 1) (by omega) (by omega),wrap64 (by omega) (by omega)]
  refine ⟨by omega,by omega,new_rule hw fun b w hw=>⟨hw.drop,?_⟩⟩
  have ht:RoN 4 R ⟨s.a,(e.n - 1 - base).toNat,s.cap⟩ ((dl.take (e.n - 1 - base).toNat).map eRow):=by
   rw [List.map_take]
   exact hl.take (by rw [List.length_map];omega) s.cap
  exact one_log (q:=(base,⟨s.a,(e.n - 1 - base).toNat,s.cap⟩,dl.take (e.n - 1 - base).toNat)) hw fun t w hw=>⟨hw.drop,hK R t [(base,⟨s.a,(e.n - 1 - base).toNat,s.cap⟩,dl.take (e.n - 1 - base).toNat)] w .refl (fun q hq=>by rw [List.mem_singleton.1 hq];exact ⟨ht,fun x hx=>hd x (List.mem_of_mem_take hx),by show (e.n - 1 - base).toNat≤s.cap;omega⟩)
   (by rw [hS];unfold laterCut;rw [if_pos (by rw [hlast];exact hc)];simp [lgOf]) (hw.cons fun _ h=>h.drop.drop)⟩
 refine Br.e (fun hd2=>?_) (fun hd2=>none' (by unfold laterS;rw [if_neg hd0,if_neg hd1,if_neg hd2]) hw.drop.drop)
 have hS:laterS ⟨base,erE dl⟩ e=laterReset e.n:=by unfold laterS;rw [if_neg hd0,if_neg hd1,if_pos hd2]
 refine ⟨e.n,At.own (eqS hw) (by exact ⟨rfl,trivial⟩),Br.d (fun a1=>?_) (fun a1=>none' (by rw [hS];unfold laterReset;rw [if_neg (by omega)]) hw.drop.drop)⟩
 refine ⟨e.n,At.own (eqS hw) (by exact ⟨rfl,trivial⟩),Br.d (fun a2=>?_) (fun a2=>none' (by rw [hS];unfold laterReset;rw [if_neg (by omega)]) hw.drop.drop)⟩
 refine ⟨e.n,At.own (eqS hw) (by exact ⟨rfl,trivial⟩),?_⟩
 rw [wrap64 (by omega) (by omega)]
 refine new_rule hw fun b w hw=>?_
 exact one_log (q:=(e.n - 1,⟨none,0,0⟩,[])) hw fun t w hw=>hK R t [(e.n - 1,⟨none,0,0⟩,[])] w .refl (fun q hq=>by rw [List.mem_singleton.1 hq];exact ⟨⟨by simp [Wid],rfl,fun h=>absurd rfl h⟩,fun _ h=>(by cases h),Nat.le_refl _⟩) (by rw [hS];unfold laterReset;rw [if_pos (by omega)];rfl) (hw.cons fun _ h=>h.drop.drop)
end Go.Proofs.YtkfedbncmfnpnaaGreatDoor
/- A log on a disk: bounds behind steps; plain. No program. Condition: none. -/
namespace Go.Proofs.YtkfedbncmfnpnaaGreatDoor
set_option linter.unusedVariables false
set_option linter.unusedSimpArgs false
open Go Go.VC
variable {x:WSt} {st:DS} {k:Nat}
structure LB (x:WSt) (st:DS) (k:Nat):Prop where
 wbk:WBk x k
 inv:Inv st
 by':ByOk st.fs
 files:st.fs.length≤1 + k
 last:x.g.last≤1099511627776
theorem LB.mono {j:Nat} (b:LB x st k) (h:k≤j):LB x st j:=⟨b.wbk.mono h,b.inv,b.by',by have:=b.files;omega,b.last⟩
theorem byt_rec {b:List Int} (h:BodyOk b):Byt (recB b):=recB_bd h.2
theorem by_then {x:DS × Int} {f:DS→DS × Int} (hx:ByOk x.1.fs) (hf:∀ st,ByOk st.fs→ByOk (f st).1.fs):ByOk (thenD x f).1.fs:=by
 unfold thenD;split
 ·exact hf _ hx
 ·exact hx
theorem by_make {st:DS} (h:ByOk st.fs) {n:Nat} {next:Int} (hn:n≤99999999) (h1:next≤1099511627777):ByOk (makeD st n next).1.fs:=
 by_then (by_append h _ (byt_rec (hdB_ok hn h1))) fun _ h=>by_sync h _
theorem make_len (st:DS) (n:Nat) (next:Int):(makeD st n next).1.fs.length≤st.fs.length + 1:=by
 have ha:=append_len st (segName n) (headB n next)
 unfold makeD
 by_cases h:(appendD st (segName n) (headB n next)).2=0
 ·rw [thenD_ok h];have:=sync_len (appendD st (segName n) (headB n next)).1 (segName n);omega
 ·rw [thenD_err h];omega
theorem roll_by (b:LB x st k) (hk:k≤90000000):ByOk (rollW x st).1.fs:=by
 have ht:=b.wbk.tail
 have hl:=b.last
 unfold rollW
 split
 ·exact by_then (by_sync b.by' _) fun st h=>by_make h (by omega) (by omega)
 ·exact b.by'
theorem roll_len (x:WSt) (st:DS):(rollW x st).1.fs.length≤st.fs.length + 1:=by
 unfold rollW
 split
 ·have hs:=sync_len st (segName (tailS x.segs).num)
  by_cases h:(syncD st (segName (tailS x.segs).num)).2=0
  ·rw [thenD_ok h];have:=make_len (syncD st (segName (tailS x.segs).num)).1 ((tailS x.segs).num + 1) (x.g.last + 1);omega
  ·rw [thenD_err h];omega
 ·simp only;omega
theorem put_by {st:DS} (h:ByOk st.fs) (x:WSt) {b:List Int} (hb:Byt b) (g:Lg):ByOk (putW x st b g).1.1.fs:=by
 unfold putW
 split<;>exact by_append h _ hb
theorem put_len (x:WSt) (st:DS) (b:List Int) (g:Lg):(putW x st b g).1.1.fs.length≤st.fs.length + 1:=by
 unfold putW
 split<;>exact append_len _ _ _
theorem put_inv {st:DS} (i:Inv st) (x:WSt) (b:List Int) (g:Lg):Inv (putW x st b g).1.1:=by
 unfold putW
 split<;>exact appendD_inv i _ _
theorem put_g2 (x:WSt) (st:DS) (b:List Int) (g:Lg):(putW x st b g).2.g=g∨(putW x st b g).2.g=x.g:=by
 unfold putW
 split
 ·exact .inl rfl
 ·exact .inr rfl
theorem add_g2 (x:WSt) (st:DS) (e:Ey):(addW x st e).2.g=⟨x.g.base,x.g.l++[e]⟩∨(addW x st e).2.g=x.g:=by
 unfold addW
 split
 ·exact .inr rfl
 ·exact put_g2 _ _ _ _
theorem LB.add (b:LB x st k) {e:Ey} (hok:e.Ok) (hb:∀ y∈e.dt,0≤y∧y<256) (hix:e.ix=x.g.last + 1) (hk:k≤90000000):LB (addW x st e).2 (addW x st e).1.1 (k + 2):=by
 have hi:=hok.i1
 have hl:=b.last
 have hf:=b.files
 refine ⟨b.wbk.add hok hix hk,addW_inv b.inv,?_,?_,?_⟩
 ·unfold addW
  split
  ·exact roll_by b hk
  ·exact put_by (roll_by b hk) _ (byt_rec (entB_ok hok hb)) _
 ·have h1:=roll_len x st
  unfold addW
  split
  ·simp only;omega
  ·have h2:=put_len { x with segs:=rollS x 0 } (rollW x st).1 (recB (entB e)) ⟨x.g.base,x.g.l++[e]⟩
   omega
 ·rcases add_g2 x st e with h|h
  ·rw [h]
   unfold Lg.last at *
   simp only [List.length_append,List.length_cons,List.length_nil]
   omega
  ·rw [h];exact hl
theorem LB.adds:∀ {l:List Ey} {x:WSt} {st:DS} {k:Nat},LB x st k→EsOk (x.g.last + 1) l→k + 2 * l.length≤90000000→LB (addsW x st l).2 (addsW x st l).1.1 (k + 2 * l.length)
 |[],x,st,k,b,_,_=>b
 |e::l,x,st,k,b,hl,hk=>by
  simp only [List.length_cons] at hk ⊢
  have hek:=hl.ok e (List.mem_cons_self ..)
  have h1:=hl.fol 0 (by simp)
  simp only [List.getElem_cons_zero] at h1
  have b1:=b.add hek.1 hek.2 (by omega) (by omega)
  unfold addsW
  by_cases h:(addW x st e).1.2≠0
  ·rw [if_pos h];exact b1.mono (by omega)
  ·rw [if_neg h]
   have hg:=addW_ok (Classical.not_not.1 h)
   have hl2:=(EsOk.app (a:=[e]) (b:=l) hl).2
   have hlast:(addW x st e).2.g.last=x.g.last + 1:=by rw [hg];unfold Lg.last;simp;omega
   exact (LB.adds b1 (by rw [hlast];simpa using hl2) (by omega)).mono (by omega)
theorem LB.does {r:(DS × Int) × WSt} (b:LB r.2 r.1.1 k):LB (doesW r).2 (doesW r).1.1 k:=
 ⟨⟨b.wbk.b0,b.wbk.b1,b.wbk.l1,b.wbk.s0,b.wbk.s1,b.wbk.n1⟩,b.inv,b.by',b.files,b.last⟩
theorem LB.append (b:LB x st k) {l:List Ey} (hby:∀ e∈l,∀ y∈e.dt,0≤y∧y<256) (hk:k + 2 * l.length≤90000000):LB (appendW x st l).2 (appendW x st l).1.1 (k + 2 * l.length):=by
 unfold appendW
 split
 ·exact b.mono (by omega)
 split
 ·exact b.mono (by omega)
 split
 ·exact b.mono (by omega)
 rename_i h1 h2
 exact LB.does (b.adds ⟨fun e he=>⟨Classical.not_not.1 h1 e he,hby e he⟩,Classical.not_not.1 h2⟩ hk)
theorem LB.put1 (b:LB x st k) {bs:List Int} {g:Lg} (hb:BodyOk bs) (hg:0≤g.base∧g.base≤1099511627776∧g.l.length≤100000000000 + (k + 1)) (hl:g.last≤1099511627776):
  LB (putW x st (recB bs) g).2 (putW x st (recB bs) g).1.1 (k + 1):=by
 have h1:=b.last
 have hf:=b.files
 refine ⟨b.wbk.put (by rw [recB_len];have:=hb.1;omega) hg (by omega),put_inv b.inv _ _ _,put_by b.by' _ (byt_rec hb) _,by have:=put_len x st (recB bs) g;omega,?_⟩
 rcases put_g2 x st (recB bs) g with h|h<;>rw [h]<;>assumption
theorem LB.cut (b:LB x st k) (n:Int):LB (cutW x st n).2 (cutW x st n).1.1 (k + 1):=by
 have hl:=b.last
 have h1:=b.wbk.l1
 have h0:=b.wbk.b0
 unfold cutW
 split
 ·exact b.mono (by omega)
 split
 ·exact b.mono (by omega)
 split
 ·exact b.mono (by omega)
 rename_i h2 h3
 refine LB.does (b.put1 (cutB_ok (by omega)) ⟨b.wbk.b0,b.wbk.b1,by simp only [List.length_take];omega⟩ ?_)
 unfold Lg.last at *
 simp only [List.length_take]
 omega
theorem LB.reset (b:LB x st k) (n:Int):LB (resetW x st n).2 (resetW x st n).1.1 (k + 1):=by
 unfold resetW
 split
 ·exact b.mono (by omega)
 split
 ·exact b.mono (by omega)
 rename_i h2
 exact LB.does (b.put1 (resB_ok (by omega)) ⟨by simp only;omega,by simp only;omega,by simp⟩ (by unfold Lg.last;simp;omega))
theorem LB.sync (b:LB x st k):LB (syncW x st).2 (syncW x st).1.1 k:=by
 unfold syncW
 split
 ·exact b
 ·exact LB.does (r:=(syncD st (segName (tailS x.segs).num),x)) ⟨b.wbk,sync_inv b.inv _,by_sync b.by' _,by have:=b.files;have:=sync_len st (segName (tailS x.segs).num);simp only;omega,b.last⟩
theorem arm_inv {st:DS} (i:Inv st) {n:Int} (h:n<9223372036854775808):Inv { st with arm:=if n<0 then st.arm else n }:=
 { a0:=by have:=i.a0;simp only;split<;>omega,a1:=by have:=i.a1;simp only;split<;>omega,f0:=i.f0,f1:=i.f1,r0:=i.r0,r1:=i.r1,full:=i.full,uni:=i.uni,names:=i.names,sure:=i.sure }
theorem laterApp_mem:∀ {l:List Ey} {g q:Lg},q∈laterApp g l→q.base=g.base∧q.l.length≤g.l.length + l.length∧∀ e∈q.l,e∈g.l∨(e∈l∧e.Ok)
 |[],_,_,h=>by unfold laterApp at h;cases h
 |e::l,g,q,h=>by
  unfold laterApp at h
  split at h
  ·rename_i hok
   have key:∀ a∈g.l++[e],a∈g.l∨(a∈e::l∧a.Ok):=fun a ha=>by
    rcases List.mem_append.1 ha with h|h
    ·exact .inl h
    ·rw [List.mem_singleton.1 h];exact .inr ⟨List.mem_cons_self ..,hok.1⟩
   rcases List.mem_cons.1 h with rfl|h
   ·exact ⟨rfl,by simp,key⟩
   ·obtain ⟨h1,h2,h3⟩:=laterApp_mem h
    refine ⟨h1,by simp at h2 ⊢;omega,fun a ha=>?_⟩
    rcases h3 a ha with h|h
    ·exact key a h
    ·exact .inr ⟨List.mem_cons_of_mem _ h.1,h.2⟩
  ·cases h
end Go.Proofs.YtkfedbncmfnpnaaGreatDoor
/- The logs asked for: what they have; a list of logs, its last one. Condition: none. -/
namespace Go.Proofs.YtkfedbncmfnpnaaGreatDoor
set_option linter.unusedVariables false
set_option linter.unusedSimpArgs false
open Go Go.VC
open Classical
variable {R R':Cx} {Hs Rest:List HP} {w:World}
theorem laterS_mem {g q:Lg} {e:StE} (h0:0≤g.base) (h1:g.base≤1099511627776) (h:q∈laterS g e):(0≤q.base∧q.base≤1099511627776)∧q.l.length≤g.l.length + e.dl.length∧∀ x∈q.l,x∈g.l∨(x∈erE e.dl∧x.Ok):=by
 unfold laterS at h
 split at h
 ·obtain ⟨a,b,c⟩:=laterApp_mem h
  exact ⟨by rw [a];exact ⟨h0,h1⟩,by simpa using b,c⟩
 split at h
 ·unfold laterCut at h
  split at h
  ·rw [List.mem_singleton.1 h]
   exact ⟨⟨h0,h1⟩,by simp only [List.length_take];omega,fun x hx=>.inl (List.mem_of_mem_take hx)⟩
  ·cases h
 split at h
 ·unfold laterReset at h
  split at h
  ·rw [List.mem_singleton.1 h]
   exact ⟨by simp only;omega,by simp,fun x hx=>by cases hx⟩
  ·cases h
 ·cases h
structure LgG (q:LgE) (N:Nat):Prop where
 b:0≤q.1∧q.1≤1099511627776
 len:q.2.2.length≤N
 ents:∀ e∈erE q.2.2,e.dt.length≤4096∧∀ y∈e.dt,0≤y∧y<256
theorem LgG.mono {q:LgE} {N M:Nat} (h:LgG q N) (hm:N≤M):LgG q M:=⟨h.b,by have:=h.len;omega,h.ents⟩
theorem later_g {g:LgE} {e:StE} {ls:List LgE} {N:Nat} (hg:LgG g N) (he:∀ x∈erE e.dl,∀ y∈x.dt,0≤y∧y<256) (h:ls.map lgOf=laterS (lgOf g) e):∀ q∈ls,LgG q (N + e.dl.length):=fun q hq=>by
 have hm:lgOf q∈laterS (lgOf g) e:=by rw [←h];exact List.mem_map_of_mem hq
 obtain ⟨a,b,c⟩:=laterS_mem hg.b.1 hg.b.2 hm
 have hl:=hg.len
 refine ⟨a,?_,fun x hx=>?_⟩
 ·simp only [lgOf,List.length_map] at b;omega
 ·rcases c x hx with h|h
  ·exact hg.ents x h
  ·exact ⟨h.2.d1,he x h.1⟩
theorem laterApp_len:∀ {l:List Ey} {g:Lg},(laterApp g l).length≤l.length
 |[],g=>by unfold laterApp;simp
 |e::l,g=>by
  unfold laterApp
  split
  ·have:=laterApp_len (l:=l) (g:=⟨g.base,g.l++[e]⟩);simp;omega
  ·simp
theorem laterS_len (g:Lg) (e:StE):(laterS g e).length≤1 + e.dl.length:=by
 unfold laterS
 split
 ·have:=laterApp_len (l:=erE e.dl) (g:=g);simp at this;omega
 split
 ·unfold laterCut;split<;>simp
 split
 ·unfold laterReset;split<;>simp
 ·simp
theorem costE_le (e:StE):costE (erE e.dl)≤2 * costS e:=by
 rw [costE_eq];unfold costS;have:=sumD_nn (erE e.dl);simp only [List.length_map];omega
end Go.Proofs.YtkfedbncmfnpnaaGreatDoor
/- The law WalLasts: what the codes of the operations tell; where its loop stands. Condition: none. -/
namespace Go.Proofs.YtkfedbncmfnpnaaGreatDoor
set_option linter.unusedVariables false
set_option linter.unusedSimpArgs false
open Go Go.VC
open Classical
variable {R R':Cx} {Hs Rest:List HP} {w:World}
def Cd (e:Int):Prop:=e≠1∧e≠7∧e≠8
theorem Cd.of {e:Int} (n:Int) (h:e=n) (hn:n≠1∧n≠7∧n≠8):Cd e:=h ▸ hn
theorem chg_cd {st:DS}:Cd (chg st true).2:=by
 unfold chg
 split
 ·rename_i h;cases h
 split
 ·(first|exact Cd.of 0 rfl (by decide)|exact Cd.of 5 rfl (by decide)|exact Cd.of 3 rfl (by decide)|exact Cd.of 2 rfl (by decide)|exact Cd.of 4 rfl (by decide))
 split
 ·(first|exact Cd.of 0 rfl (by decide)|exact Cd.of 5 rfl (by decide)|exact Cd.of 3 rfl (by decide)|exact Cd.of 2 rfl (by decide)|exact Cd.of 4 rfl (by decide))
 ·simp only
  split<;>(first|exact Cd.of 0 rfl (by decide)|exact Cd.of 5 rfl (by decide)|exact Cd.of 3 rfl (by decide)|exact Cd.of 2 rfl (by decide)|exact Cd.of 4 rfl (by decide))
theorem doing_cd {st:DS} {ok:Bool} {g:DS→DS × Int} (h:ok=true) (hg:∀ st,Cd (g st).2):Cd (doing st ok g).2:=by
 subst h
 unfold doing
 split
 ·exact hg _
 ·exact chg_cd
theorem append_cd (st:DS) (n:Nat) (xs:List Int):Cd (appendD st (segName n) xs).2:=doing_cd (seg_nameOk n) fun st=>by
 unfold appendG
 split<;>(first|exact Cd.of 0 rfl (by decide)|exact Cd.of 5 rfl (by decide)|exact Cd.of 3 rfl (by decide)|exact Cd.of 2 rfl (by decide)|exact Cd.of 4 rfl (by decide))
theorem sync_cd (st:DS) (n:Nat):Cd (syncD st (segName n)).2:=doing_cd (seg_nameOk n) fun st=>by
 unfold syncG
 split<;>(first|exact Cd.of 0 rfl (by decide)|exact Cd.of 5 rfl (by decide)|exact Cd.of 3 rfl (by decide)|exact Cd.of 2 rfl (by decide)|exact Cd.of 4 rfl (by decide))
theorem then_cd {x:DS × Int} {f:DS→DS × Int} (hx:Cd x.2) (hf:∀ st,Cd (f st).2):Cd (thenD x f).2:=by
 unfold thenD;split
 ·exact hf _
 ·exact hx
theorem roll_cd (x:WSt) (st:DS):Cd (rollW x st).2:=by
 unfold rollW
 split
 ·exact then_cd (sync_cd _ _) fun st=>then_cd (append_cd _ _ _) fun st=>sync_cd _ _
 ·exact ⟨by simp,by simp,by simp⟩
theorem put_cd (x:WSt) (st:DS) (b:List Int) (g:Lg):Cd (putW x st b g).1.2:=by
 unfold putW
 split<;>exact append_cd _ _ _
theorem add_cd (x:WSt) (st:DS) (e:Ey):Cd (addW x st e).1.2:=by
 unfold addW
 split
 ·exact roll_cd _ _
 ·exact put_cd _ _ _ _
theorem adds_cd:∀ (l:List Ey) (x:WSt) (st:DS),Cd (addsW x st l).1.2
 |[],_,_=>⟨by simp [addsW],by simp [addsW],by simp [addsW]⟩
 |e::l,x,st=>by
  unfold addsW
  split
  ·exact add_cd _ _ _
  ·exact adds_cd l _ _
def Odd (e:Int):Prop:=e=1∨e=7∨e=8
theorem Cd.no {e:Int} (h:Cd e) (o:Odd e):False:=by
 obtain ⟨h1,h7,h8⟩:=h
 rcases o with o|o|o
 ·exact h1 o
 ·exact h7 o
 ·exact h8 o
theorem app_odd {x:WSt} {st:DS} {l:List Ey} (h:Odd (appendW x st l).1.2):(appendW x st l).1.1=st∧(appendW x st l).2=x:=by
 unfold appendW at h ⊢
 split
 ·exact ⟨rfl,rfl⟩
 split
 ·exact ⟨rfl,rfl⟩
 split
 ·exact ⟨rfl,rfl⟩
 rename_i h1 h2 h3
 rw [if_neg h1,if_neg h2,if_neg h3] at h
 exact ((adds_cd l x st).no h).elim
theorem cut_odd {x:WSt} {st:DS} {n:Int} (h:Odd (cutW x st n).1.2):(cutW x st n).1.1=st∧(cutW x st n).2=x:=by
 unfold cutW at h ⊢
 split
 ·exact ⟨rfl,rfl⟩
 split
 ·exact ⟨rfl,rfl⟩
 split
 ·exact ⟨rfl,rfl⟩
 rename_i h1 h2 h3
 rw [if_neg h1,if_neg h2,if_neg h3] at h
 exact ((put_cd _ _ _ _).no h).elim
theorem reset_odd {x:WSt} {st:DS} {n:Int} (h:Odd (resetW x st n).1.2):(resetW x st n).1.1=st∧(resetW x st n).2=x:=by
 unfold resetW at h ⊢
 split
 ·exact ⟨rfl,rfl⟩
 split
 ·exact ⟨rfl,rfl⟩
 rename_i h1 h2
 rw [if_neg h1,if_neg h2] at h
 exact ((put_cd _ _ _ _).no h).elim
theorem costSs_mono (es:List StE) {i j:Nat} (h:i≤j):costSs (es.take i)≤costSs (es.take j):=by
 have e:es.take j=es.take i++(es.drop i).take (j - i):=by
  obtain ⟨d,rfl⟩:=Nat.exists_eq_add_of_le h
  rw [List.take_add,Nat.add_sub_cancel_left]
 have nn:∀ l:List StE,0≤costSs l:=fun l=>by
  induction l with
  |nil=>simp [costSs]
  |cons a l ih=>have:=costS_nn a;unfold costSs at *;simp only [List.map_cons,List.sum_cons];omega
 have:=nn ((es.drop i).take (j - i))
 rw [e]
 unfold costSs at *
 rw [List.map_append,List.sum_append]
 omega
structure WlP (x:WSt) (st:DS) (may:List Lg) (k m:Nat) (c:Int):Prop where
 lb:LB x st (1 + 2 * m + k)
 lw:LW x st may (1 + m)
 room:st.room=200000
 tot:total st.fs≤21 + 2 * c + 20 * k
theorem WlP.mono {x:WSt} {st:DS} {may:List Lg} {k m m':Nat} {c c':Int} (h:WlP x st may k m c) (hm:m≤m') (hc:c≤c'):WlP x st may (k + 1) m' c':=
 ⟨h.lb.mono (by omega),h.lw.le (by omega),h.room,by have:=h.tot;omega⟩
structure StepP (x':WSt) (st':DS) (may more:List Lg) (odd:Prop) (k m:Nat) (c:Int):Prop where
 no:odd→WlP x' st' may k m c
 yes:¬ odd→WlP x' st' (may++more) k m c
variable {x:WSt} {st:DS} {may:List Lg} {k m:Nat} {c:Int}
theorem wl_append (h:WlP x st may k m c) {e:StE} (hd:e.d=0) (hby:∀ x∈erE e.dl,∀ y∈x.dt,0≤y∧y<256) (hm:m + e.dl.length≤100000) (hk:k≤100) {g:Lg} (hg:may.getLast? =some g):
  StepP (appendW x st (erE e.dl)).2 (appendW x st (erE e.dl)).1.1 may (laterS g e) (Odd (appendW x st (erE e.dl)).1.2) (k + 1) (m + e.dl.length) (c + costS e):=by
 have hc:=costS_nn e
 have hce:=costE_le e
 refine ⟨fun ho=>?_,fun ho=>?_⟩
 ·obtain ⟨a,b⟩:=app_odd ho
  rw [a,b]
  exact h.mono (by omega) (by omega)
 ·have hb:=h.lb.append hby (by simp only [List.length_map];omega)
  simp only [List.length_map] at hb
  rcases h.lw.append hby (by simp only [List.length_map];omega) (by have:=h.lb.wbk.b0;unfold Lg.last;omega) with ⟨o,_⟩|⟨_,h2,h3,h4,h5⟩
  ·exact absurd o ho
  ·rw [hg] at h2
   obtain rfl:=Option.some.inj h2
   have hS:laterS x.g e=laterApp x.g (erE e.dl):=by unfold laterS;rw [if_pos hd]
   simp only [List.length_map] at h3
   rw [hS]
   exact ⟨hb.mono (by omega),h3.le (by omega),by rw [h4,h.room],by have:=h.tot;omega⟩
theorem wl_cut (h:WlP x st may k m c) {e:StE} (hd:e.d=1) {g:Lg} (hg:may.getLast? =some g):
  StepP (cutW x st e.n).2 (cutW x st e.n).1.1 may (laterS g e) (Odd (cutW x st e.n).1.2) (k + 1) (m + e.dl.length) (c + costS e):=by
 have hc:=costS_nn e
 refine ⟨fun ho=>?_,fun ho=>?_⟩
 ·obtain ⟨a,b⟩:=cut_odd ho
  rw [a,b]
  exact h.mono (by omega) (by omega)
 ·rcases h.lw.cut e.n h.lb.wbk.b0 h.lb.last with ⟨o,_⟩|⟨_,h2,h3,h4,h5⟩
  ·exact absurd o ho
  ·rw [hg] at h2
   obtain rfl:=Option.some.inj h2
   have hS:laterS x.g e=laterCut x.g e.n:=by unfold laterS;rw [if_neg (by omega),if_pos hd]
   rw [hS]
   exact ⟨(h.lb.cut e.n).mono (by omega),h3.le (by omega),by rw [h4,h.room],by have:=h.tot;omega⟩
theorem wl_reset (h:WlP x st may k m c) {e:StE} (hd:e.d=2) {g:Lg} (hg:may.getLast? =some g):
  StepP (resetW x st e.n).2 (resetW x st e.n).1.1 may (laterS g e) (Odd (resetW x st e.n).1.2) (k + 1) (m + e.dl.length) (c + costS e):=by
 have hc:=costS_nn e
 refine ⟨fun ho=>?_,fun ho=>?_⟩
 ·obtain ⟨a,b⟩:=reset_odd ho
  rw [a,b]
  exact h.mono (by omega) (by omega)
 ·rcases h.lw.reset e.n with ⟨o,_⟩|⟨_,h2,h3,h4,h5⟩
  ·exact absurd o ho
  ·rw [hg] at h2
   obtain rfl:=Option.some.inj h2
   have hS:laterS x.g e=laterReset e.n:=by unfold laterS;rw [if_neg (by omega),if_neg (by omega),if_pos hd]
   rw [hS]
   exact ⟨(h.lb.reset e.n).mono (by omega),h3.le (by omega),by rw [h4,h.room],by have:=h.tot;omega⟩
theorem wl_sync (h:WlP x st may k m c) (e:StE) {g:Lg} (hg:may.getLast? =some g):
  ((syncW x st).1.2=0→WlP (syncW x st).2 (syncW x st).1.1 [g] (k + 1) (m + e.dl.length) (c + costS e))∧((syncW x st).1.2≠0→WlP (syncW x st).2 (syncW x st).1.1 may (k + 1) (m + e.dl.length) (c + costS e)):=by
 have hc:=costS_nn e
 obtain ⟨h1,h2,h3,h4⟩:=h.lw.sync
 have hb:=h.lb.sync
 refine ⟨fun hz=>?_,fun hz=>?_⟩
 ·obtain ⟨a,b⟩:=h1 hz
  rw [hg] at b
  obtain rfl:=Option.some.inj b
  exact ⟨hb.mono (by omega),a.le (by omega),by rw [h3,h.room],by have:=h.tot;omega⟩
 ·exact ⟨hb.mono (by omega),(h2 hz).le (by omega),by rw [h3,h.room],by have:=h.tot;omega⟩
theorem wl_arm (h:WlP x st may k m c) (e:StE) (hn:e.n<9223372036854775808):WlP x { st with arm:=if e.n<0 then st.arm else e.n } may (k + 1) (m + e.dl.length) (c + costS e):=by
 have hc:=costS_nn e
 have i:=arm_inv h.lb.inv hn
 exact ⟨LB.mono ⟨h.lb.wbk,i,h.lb.by',h.lb.files,h.lb.last⟩ (by omega),(h.lw.fs i rfl rfl).le (by omega),h.room,by have:=h.tot;simp only;omega⟩
theorem wl_none (h:WlP x st may k m c) (e:StE):WlP x st may (k + 1) (m + e.dl.length) (c + costS e):=by
 have hc:=costS_nn e
 exact h.mono (by omega) (by omega)
theorem wl_start {lim:Int} {st:DS} (f:Fu st 1 1 [[]]) (hw:LW (xOf lim 1 1 [[]]) st [⟨0,[]⟩] 1) (ht:total st.fs≤21) (hr:st.room=200000):WlP (xOf lim 1 1 [[]]) st [⟨0,[]⟩] 0 0 0:=by
 have hlen:st.fs.length=1:=by rw [f.perm.length_eq];simp [segFs,mkC]
 refine ⟨⟨⟨by simp [xOf],by simp [xOf],by simp [xOf],by simp [xOf,mkC],by simp [xOf,mkC],fun g hg=>?_⟩,f.inv,f.by',by omega,by simp [xOf,Lg.last]⟩,hw,hr,by omega⟩
 simp only [xOf,mkC,List.map_cons,List.map_nil,List.mem_singleton] at hg
 subst hg
 obtain ⟨q,hq⟩:=f.get ⟨1,1,[]⟩ (by simp [mkC])
 have:=total_le hq
 refine ⟨by simp [Sc.sg],by simp [Sc.sg],?_⟩
 simp only [Sc.sg] at this ⊢
 omega
end Go.Proofs.YtkfedbncmfnpnaaGreatDoor
/- The law WalLasts. Condition: the library's table of powers is laid. -/
namespace Go.Proofs.YtkfedbncmfnpnaaGreatDoor
set_option linter.unusedVariables false
set_option linter.unusedSimpArgs false
open Go Go.VC
open Classical
variable {R R':Cx} {Hs Rest:List HP} {w:World}
theorem EsR.ext {s:Sl} {dl:List DE4} (h:EsR R s dl) (x:R.Ext R'):EsR R' s dl:=⟨x.roN h.rows,h.each.ext x,h.by',h.cap⟩
theorem StR.ext {s:Sl} {es:List StE} (h:StR R s es) (x:R.Ext R'):StR R' s es:=⟨x.roN h.rows,fun e he=>(h.ents e he).ext x,fun e he=>x.ro (h.keeps e he),h.light⟩
theorem lgRow_all (ls:List LgE):oneAll (ls.map lgRow).flatten=true:=by
 unfold oneAll
 rw [List.all_eq_true]
 intro v hv
 obtain ⟨r,h1,h2⟩:=List.mem_flatten.1 hv
 obtain ⟨x,_,rfl⟩:=List.mem_map.1 h1
 simp at h2
 rcases h2 with rfl|rfl<;>rfl
def WLq (R0:Cx) (Hs:List HP) (p d:Nat) (es:List StE) (k:Nat) (t:Sl) (w:World):Prop:=
 ∃ (R:Cx) (x:WSt) (st:DS) (s sg:Sl) (ds:List DE4) (ls:List LgE) (m:Nat),R0.Ext R∧DsR R ds∧erE ds=x.g.l∧WlP x st (ls.map lgOf) k m (costSs (es.take k))∧30 * (m:Int)≤costSs (es.take k)∧ls≠[]∧ls.length≤1 + m + k∧(∀ q∈ls,LgR R q∧LgG q m)∧
  Sat R (LgsO t ls::WX p d x s sg ds st Hs) w
theorem StepP.or {x':WSt} {st':DS} {may more:List Lg} {o:Prop} {k m:Nat} {c:Int} {d:Int} (h:StepP x' st' may more o k m c) (hd:¬ d>2):StepP x' st' may more (d>2∨o) k m c:=
 ⟨fun h'=>h.no (h'.resolve_left hd),fun h'=>h.yes fun o=>h' (.inr o)⟩
theorem StepP.big {x':WSt} {st':DS} {may more:List Lg} {o:Prop} {k m:Nat} {c:Int} {d:Int} (hd:d>2) (h:WlP x' st' may k m c):StepP x' st' may more (d>2∨o) k m c:=⟨fun _=>h,fun h'=>absurd (.inl hd) h'⟩
theorem last_map {ls:List LgE} (hne:ls≠[]):(ls.map lgOf).getLast? =some (lgOf (ls[ls.length - 1]'(by have:=List.length_pos_iff.2 hne;omega))):=by
 have:=List.length_pos_iff.2 hne
 rw [List.getLast?_eq_getElem?,List.length_map,List.getElem?_eq_getElem (by rw [List.length_map];omega),List.getElem_map]
set_option maxHeartbeats 4000000 in
set_option maxRecDepth 4000 in
theorem lasts_lspec {limit:Int} {sl sk:Sl} {es:List StE} {keep:List Int} (hr:StR R sl es) (hq:∀ e∈es,-9223372036854775808≤e.n∧e.n<9223372036854775808) (hk:RoI R sk keep) (hp:PowR R) (hw:Sat R Hs w):
  Gets Tryz.prog 6 #[.int .i64 limit,.slice sl.a sl.len sl.cap,.slice sk.a sk.len sk.cap] w fun v w'=>v=.bool true∧Sat R Hs w':=by
 have hsl:sl.len=es.length:=by have:=hr.rows.len;simpa using this
 apply call6
 suffices H:∀ K:Value→World→Prop,(∀ w',Sat R Hs w'→K (.bool true) w')→B6 limit sl sk K w from H _ fun w' h=>⟨rfl,h⟩
 intro K hK
 have fin:∀ {R3:Cx} {w:World},R.Ext R3→Sat R3 Hs w→K (.bool true) w:=fun e h=>hK _ (e.back h)
 refine (awake_spec hp hw).use ?_
 clear hw
 rintro _ w ⟨R1,e1,rfl,hw⟩
 refine ⟨_,rfl,(muchS_spec (hr.ext e1) hw).use ?_⟩
 clear hw
 rintro _ w ⟨bm,rfl,hmuch,hw⟩
 refine ⟨_,rfl,fun w=>bm=false∧32≤limit∧limit≤65536∧Sat R1 Hs w,?_,?_⟩
 ·refine Br.f rfl (Br.mk (fun _=>fin e1 hw) (fun h=>Br.d (fun _=>fin e1 hw) (fun h2=>Br.d (fun _=>fin e1 hw) (fun h3=>⟨h,by omega,by omega,hw⟩))))
 clear hw
 rintro _ w ⟨rfl,hl1,hl2,hw⟩
 obtain ⟨m1,m2⟩:=hmuch rfl
 refine (new_ok (room:=200000) (by omega) (by omega) hw).use ?_
 clear hw
 rintro _ w ⟨d,rfl,hw⟩
 refine ⟨_,_,rfl,fun w=>Sat R1 (DiskAt d ⟨200000,[],-1,-1,false⟩::Hs) w,Br.ne (fun h=>absurd rfl h) (fun _=>Br.f rfl hw),?_⟩
 clear hw
 rintro _ w hw
 refine (new_open2 (lim:=limit) (by omega) (by omega) hl1 hl2 (hp.ext e1) hw).use ?_
 clear hw
 rintro _ w ⟨R3,p,s,ds,sg,st,e3,rfl,hd,he,hlw,f,ht,hroom,hw⟩
 have e13:=e1.trans e3
 refine ⟨_,_,rfl,fun w=>Sat R3 (WX p d (xOf limit 1 1 [[]]) s sg ds st Hs) w,Br.ne (fun h=>absurd rfl h) (fun _=>Br.f rfl hw),?_⟩
 clear hw
 rintro _ w hw
 refine new_rule hw fun b60 w hw=>?_
 obtain ⟨q0,hq0⟩:∃ q0:LgE,q0=(0,⟨none,0,0⟩,[]):=⟨_,rfl⟩
 have hw:Sat R3 (pts b60 (.cells (([q0].map lgRow).flatten++[]).toArray 59 (0,0))::WX p d (xOf limit 1 1 [[]]) s sg ds st Hs) w:=by rw [hq0];exact hw
 have hw:Sat R3 (LgsO ⟨some ⟨b60,0,none⟩,1,1⟩ [q0]::WX p d (xOf limit 1 1 [[]]) s sg ds st Hs) w:=OwnN.of_pts (cap:=1) (rows:=[q0].map lgRow) (rest:=[]) (fun r hr=>by simp at hr;subst hr;rfl) rfl hw
 have hinit:WLq R Hs p d es 0 ⟨some ⟨b60,0,none⟩,1,1⟩ w:=by
  refine ⟨R3,_,st,s,sg,ds,[q0],0,e13,hd,he,?_,by simp [costSs],by simp,by simp,fun q hq=>?_,hw⟩
  ·have:=wl_start (lim:=limit) f hlw ht hroom
   have e0:[q0].map lgOf=[(⟨0,[]⟩:Lg)]:=by rw [hq0];rfl
   rw [e0];simpa [costSs] using this
  ·rw [List.mem_singleton.1 hq,hq0]
   exact ⟨⟨⟨by simp [Wid],rfl,fun h=>absurd rfl h⟩,fun _ h=>(by cases h),Nat.le_refl _⟩,⟨by simp,by simp,fun _ h=>(by cases h)⟩⟩
 clear hw hlw f ht hroom hd he
 have hbig:∀ k,k≤60→costSs (es.take k)≤30000:=fun k h=>Int.le_trans (costSs_mono es (by omega)) m2
 refine ⟨fun t w=>∃ k:Nat,k≤60∧WLq R Hs p d es k t w,⟨fun t i w=>∃ k:Nat,i=k∧k≤60∧WLq R Hs p d es k t w,fun _ i _=>(60 - i).toNat,⟨0,rfl,by omega,hinit⟩,?_⟩,?_⟩
 ·clear hinit
  rintro z t _ w ⟨k,rfl,hk60,hW⟩
  refine ⟨fun w=>(k<es.length∧k<60)∧WLq R Hs p d es k t w,Br.d (fun h1=>Br.d (fun h2=>⟨⟨by omega,by omega⟩,hW⟩) (fun _=>⟨k,hk60,hW⟩)) (fun _=>⟨k,hk60,hW⟩),?_⟩
  clear hW
  rintro z w ⟨⟨h1,h2⟩,R4,x,st,s,sg,ds,ls,m,e4,hd,he,hP,hm,hne,hll,hls,hw⟩
  have hck:=hbig k hk60
  have hent:=hr.ents es[k] (List.getElem_mem h1)
  have hdl:es[k].dl.length≤1000:=m1 es[k] (by rw [List.mem_take_iff_getElem];exact ⟨k,by omega,rfl⟩)
  have hnb:=hq es[k] (List.getElem_mem h1)
  have hstep:=costSs_step es h1
  have hc30:30 * (es[k].dl.length:Int)≤costS es[k]:=by unfold costS;have:=sumD_nn (erE es[k].dl);omega
  refine ((e4.roN hr.rows).reads (eqS hw)).rngM h1 fun a _ el=>⟨es[k].d,es[k].n,es[k].most,es[k].sl,es[k].sk,el.z (by exact ⟨rfl,rfl,rfl,rfl,rfl,trivial⟩),?_⟩
  refine new_rule hw fun bs w hw=>?_
  refine store_rule hw (by kernel_rfl) rfl (by simp [Value.cells]) fun w hw=>?_
  have hw:=hw.re (stC bs es[k])
  have hlp:=List.length_pos_iff.2 hne
  have hlt:t.len=ls.length:=by have:=OwnN.len hw.drop;simpa using this
  have hix:(t.len:Int) - 1=((ls.length - 1:Nat):Int):=by omega
  rw [wrap64 (x:=(t.len:Int) - 1) (by omega) (by omega),hix]
  obtain ⟨q,hqe⟩:∃ q,ls[ls.length - 1]'(by omega)=q:=⟨_,rfl⟩
  have hqm:q∈ls:=by rw [←hqe];exact List.getElem_mem _
  have hlast:=last_map hne
  rw [hqe] at hlast
  refine (OwnN.readsM (s:=t) (n:=2) (T:=59) (rows:=ls.map lgRow) hw (eqS hw)).rngM (E:=ls) (g:=lgRow) (k:=ls.length - 1) (by omega) fun a _ el=>?_
  rw [hqe] at el
  refine ⟨q.1,q.2.1,el.z (by exact ⟨rfl,rfl,trivial⟩),?_⟩
  refine new_rule hw fun bn w hw=>?_
  refine store_rule hw (by kernel_rfl) rfl (by simp [Value.cells]) fun w hw=>?_
  have hw:=hw.re (lgC bn q.1 q.2.1)
  obtain ⟨J,hJ⟩:∃ J:Sl→Int→World→Prop,∀ t f w,J t f w↔∃ (R5:Cx) (x':WSt) (st':DS) (s' sg':Sl) (ds':List DE4) (ls':List LgE),R4.Ext R5∧DsR R5 ds'∧erE ds'=x'.g.l∧
    StepP x' st' (ls'.map lgOf) (laterS (lgOf q) es[k]) (es[k].d>2∨Odd f) (k + 1) (m + es[k].dl.length) (costSs (es.take k) + costS es[k])∧ls'≠[]∧ls'.length≤1 + m + k∧(∀ q∈ls',q∈ls)∧
    Sat R5 (lgC bn q.1 q.2.1::stC bs es[k]::LgsO t ls'::WX p d x' s' sg' ds' st' Hs) w:=⟨_,fun _ _ _=>Iff.rfl⟩
  have odd0:¬ Odd 0:=fun h=>by rcases h with h|h|h<;>omega
  refine ⟨J,⟨es[k].d,At.own (eqS hw) (by exact ⟨rfl,trivial⟩),Br.e (fun c0=>?_) (fun c0=>Br.e (fun c1=>?_) (fun c1=>Br.e (fun c2=>?_) (fun c2=>Br.e (fun c3=>?_) (fun c3=>Br.e (fun c7=>?_) (fun c7=>?_)))))⟩,?_⟩
  ·refine ⟨es[k].sl,At.own (eqS hw) (by exact ⟨rfl,trivial⟩),?_⟩
   have hw:Sat R4 (WX p d x s sg ds st (lgC bn q.1 q.2.1::stC bs es[k]::LgsO t ls::Hs)) w:=hw.arr
   refine (appendW_spec hP.lb.wbk (by omega) hP.lb.inv (hp.ext e4) hd he (e4.roN hent.rows) (hent.each.ext e4) hent.by' hw).use ?_
   rintro _ w ⟨R5,e5,rfl,s1,ds1,sg1,hd1,he1,hw⟩
   exact ⟨_,rfl,(hJ _ _ _).2 ⟨R5,_,_,s1,sg1,ds1,ls,e5,hd1,he1,(wl_append hP c0 hent.by' (by omega) (by omega) hlast).or (by omega),hne,hll,fun _ h=>h,hw.arr⟩⟩
  ·refine ⟨es[k].n,At.own (eqS hw) (by exact ⟨rfl,trivial⟩),?_⟩
   have hw:Sat R4 (WX p d x s sg ds st (lgC bn q.1 q.2.1::stC bs es[k]::LgsO t ls::Hs)) w:=hw.arr
   refine (cutW_spec (hP.lb.wbk.wb (by omega)) es[k].n hP.lb.last hP.lb.inv (hp.ext e4) hd he hw).use ?_
   rintro _ w ⟨R5,e5,rfl,s1,ds1,sg1,hd1,he1,hw⟩
   exact ⟨_,rfl,(hJ _ _ _).2 ⟨R5,_,_,s1,sg1,ds1,ls,e5,hd1,he1,(wl_cut hP c1 hlast).or (by omega),hne,hll,fun _ h=>h,hw.arr⟩⟩
  ·refine ⟨es[k].n,At.own (eqS hw) (by exact ⟨rfl,trivial⟩),?_⟩
   have hw:Sat R4 (WX p d x s sg ds st (lgC bn q.1 q.2.1::stC bs es[k]::LgsO t ls::Hs)) w:=hw.arr
   refine (resetW_spec (hP.lb.wbk.wb (by omega)) es[k].n hP.lb.inv (hp.ext e4) hd he hw).use ?_
   rintro _ w ⟨R5,e5,rfl,s1,ds1,sg1,hd1,he1,hw⟩
   exact ⟨_,rfl,(hJ _ _ _).2 ⟨R5,_,_,s1,sg1,ds1,ls,e5,hd1,he1,(wl_reset hP c2 hlast).or (by omega),hne,hll,fun _ h=>h,hw.arr⟩⟩
  ·have hw:Sat R4 (WX p d x s sg ds st (lgC bn q.1 q.2.1::stC bs es[k]::LgsO t ls::Hs)) w:=hw.arr
   obtain ⟨y1,y2⟩:=wl_sync hP es[k] hlast
   refine (syncW_spec (hP.lb.wbk.wb (by omega)) hP.lb.inv (hp.ext e4) hd he hw).use ?_
   rintro _ w ⟨R5,e5,rfl,s1,ds1,sg1,hd1,he1,hw⟩
   have hw:Sat R5 (lgC bn q.1 q.2.1::stC bs es[k]::LgsO t ls::WX p d (syncW x st).2 s1 sg1 ds1 (syncW x st).1.1 Hs) w:=hw.arr
   refine ⟨_,rfl,Br.e (fun z0=>?_) (fun z0=>(hJ _ _ _).2 ⟨R5,_,_,s1,sg1,ds1,ls,e5,hd1,he1,.big (by omega) (y2 z0),hne,hll,fun _ h=>h,hw⟩)⟩
   refine ⟨q.1,q.2.1,At.own (eqS hw) (by exact ⟨rfl,rfl,trivial⟩),new_rule hw fun b2 w hw=>?_⟩
   have hw:Sat R5 (pts b2 (.cells (([q].map lgRow).flatten++[]).toArray 59 (0,0))::lgC bn q.1 q.2.1::stC bs es[k]::LgsO t ls::WX p d (syncW x st).2 s1 sg1 ds1 (syncW x st).1.1 Hs) w:=hw
   have hw:Sat R5 (LgsO ⟨some ⟨b2,0,none⟩,1,1⟩ [q]::lgC bn q.1 q.2.1::stC bs es[k]::LgsO t ls::WX p d (syncW x st).2 s1 sg1 ds1 (syncW x st).1.1 Hs) w:=OwnN.of_pts (cap:=1) (rows:=[q].map lgRow) (rest:=[]) (fun r hr=>by simp at hr;subst hr;rfl) rfl hw
   have hw:Sat R5 (LgsO t ls::lgC bn q.1 q.2.1::stC bs es[k]::LgsO ⟨some ⟨b2,0,none⟩,1,1⟩ [q]::WX p d (syncW x st).2 s1 sg1 ds1 (syncW x st).1.1 Hs) w:=hw.arr
   exact (hJ _ _ _).2 ⟨R5,_,_,s1,sg1,ds1,[q],e5,hd1,he1,.big (by omega) (y1 z0),by simp,by simp;omega,fun a ha=>by rw [List.mem_singleton.1 ha];exact hqm,hw.drop⟩
  ·refine ⟨es[k].n,At.own (eqS hw) (by exact ⟨rfl,trivial⟩),?_⟩
   have hw:Sat R4 (DiskAt d st::lgC bn q.1 q.2.1::stC bs es[k]::LgsO t ls::pts p (wCells d x.lim x.g.base s sg x.brk)::EntO s ds::SegO sg x.segs::Hs) w:=hw.arr
   refine (arm_spec es[k].n hw).use ?_
   rintro _ w ⟨rfl,hw⟩
   exact ⟨_,rfl,(hJ _ _ _).2 ⟨R4,x,_,s,sg,ds,ls,.refl,hd,he,.big (by omega) (wl_arm hP es[k] hnb.2),hne,hll,fun _ h=>h,hw.arr⟩⟩
  ·have hn:=wl_none hP es[k]
   refine (hJ _ _ _).2 ⟨R4,x,st,s,sg,ds,ls,.refl,hd,he,⟨fun _=>hn,fun _=>?_⟩,hne,hll,fun _ h=>h,hw⟩
   unfold laterS
   rw [if_neg c0,if_neg c1,if_neg c2,List.append_nil]
   exact hn
  clear hw hd he
  rintro z t f w hj
  obtain ⟨R5,x',st',s',sg',ds',ls',e5,hd,he,hS,hne',hll',hsub,hw⟩:=(hJ _ _ _).1 hj
  clear hj hJ J
  have e45:=e4.trans e5
  rw [wrap64 (x:=(k:Int) + 1) (by omega) (by omega)]
  have cont:∀ {w:World},(es[k].d>2∨Odd f)→Sat R5 (lgC bn q.1 q.2.1::stC bs es[k]::LgsO t ls'::WX p d x' s' sg' ds' st' Hs) w→((∃ j:Nat,(k:Int) + 1=j∧j≤60∧WLq R Hs p d es j t w)∧(60 - ((k:Int) + 1)).toNat<(60 - (k:Int)).toNat):=fun ho hw=>
   ⟨⟨k + 1,by omega,by omega,R5,x',st',s',sg',ds',ls',m + es[k].dl.length,e45,hd,he,by rw [hstep];exact hS.no ho,by rw [hstep];omega,hne',by omega,fun q hq=>⟨(hls q (hsub q hq)).1.ext e5,(hls q (hsub q hq)).2.mono (by omega)⟩,hw.drop.drop⟩,by omega⟩
  refine ⟨es[k].d,At.own (eqS hw) (by exact ⟨rfl,trivial⟩),Br.d (fun g2=>cont (.inl g2) hw) (fun g2=>Br.e (fun g=>cont (.inr (.inl g)) hw) (fun f1=>Br.e (fun g=>cont (.inr (.inr (.inl g))) hw) (fun f7=>Br.e (fun g=>cont (.inr (.inr (.inr g))) hw) (fun f8=>?_))))⟩
  clear cont
  have hno:¬ (es[k].d>2∨Odd f):=fun h=>by
   rcases h with h|h|h|h
   ·exact g2 h
   ·exact f1 h
   ·exact f7 h
   ·exact f8 h
  obtain ⟨hqR,hqG⟩:=hls q hqm
  have hqR:=hqR.ext e5
  have hql:=hqG.len
  refine ⟨q.1,q.2.1,At.own (eqS hw) (by exact ⟨rfl,rfl,trivial⟩),es[k].d,es[k].n,es[k].most,es[k].sl,es[k].sk,At.own (eqS hw) (by exact ⟨rfl,rfl,rfl,rfl,rfl,trivial⟩),?_⟩
  refine (laterL_spec (e:=es[k]) (dl:=q.2.2) hqG.b.1 hqG.b.2 (by omega) (by omega) hqR.1 hqR.2.2 hqR.2.1 (hent.ext e45) hnb hw).use ?_
  clear hw
  rintro _ w ⟨R6,t7,ls7,e6,rfl,hR7,hmap,hw⟩
  obtain ⟨R7,e7,hr7,hw⟩:=OwnN.leak hw
  have hw:Sat R7 (LgsO t ls'::WX p d x' s' sg' ds' st' Hs) w:=hw.drop.drop
  have hl7:ls7.length≤1 + es[k].dl.length:=by
   have:=congrArg List.length hmap
   rw [List.length_map] at this
   rw [this];exact laterS_len _ _
  refine ⟨t7,rfl,?_⟩
  refine appendN_rule elL hw (srcRoN elL.hk hw hr7 (lgRow_all _)) hr7.wid (by simp only [List.length_map];omega) (by simp only [List.length_map];omega) fun t8 w hw=>?_
  rw [←List.map_append] at hw
  have e67:=e6.trans e7
  refine ⟨⟨k + 1,by omega,by omega,R7,x',st',s',sg',ds',ls'++ls7,m + es[k].dl.length,e45.trans e67,hd.ext e67,he,?_,by rw [hstep];omega,by simp [hne'],by simp;omega,fun a ha=>?_,hw⟩,by dsimp only;omega⟩
  ·rw [hstep,List.map_append,hmap]
   exact hS.yes hno
  ·rcases List.mem_append.1 ha with ha|ha
   ·exact ⟨((hls a (hsub a ha)).1.ext e5).ext e67,(hls a (hsub a ha)).2.mono (by omega)⟩
   ·refine ⟨(hR7 a ha).ext e7,later_g (g:=q) (N:=m) (e:=es[k]) hqG hent.by' hmap a ha⟩
 clear hinit
 rintro z t w ⟨k,hk60,R4,x,st,s,sg,ds,ls,m,e4,hd,he,hP,hm,hne,hll,hls,hw⟩
 have hck:=hbig k hk60
 have hw:Sat R4 (DiskAt d st::pts p (wCells d x.lim x.g.base s sg x.brk)::EntO s ds::SegO sg x.segs::LgsO t ls::Hs) w:=hw.arr
 refine (crash_spec hP.lb.inv (e4.ro hk) (by have:=hP.lb.files;omega) hw).use ?_
 clear hw
 rintro _ w ⟨rfl,hw⟩
 refine ⟨rfl,?_⟩
 obtain ⟨g,cs,hgM,hch,hcne,hsz,hfl⟩:=hP.lw.found keep limit hl1 hl2 (by have:=hP.tot;have:=hP.room;omega)
 obtain ⟨qg,hqg,hqge⟩:=List.mem_map.1 hgM
 refine (open_spec limit (crash_inv hP.lb.inv keep) (by_crashW hP.lb.by' keep) (by rw [crash_len];have:=hP.lb.files;omega) (hp.ext e4) hw).use ?_
 clear hw
 rw [hfl.err]
 rintro _ w h
 rcases h with ⟨h,_⟩|⟨_,R5,p2,s2,ds2,sg2,e5,hd2,rfl,he2,hb0,hb1,hn2,hs2,hw⟩
 ·exact absurd rfl h
 rw [hfl.got] at he2 hb0 hb1 hs2 hw
 have e45:=e4.trans e5
 obtain ⟨x5,hx5⟩:∃ x5:WSt,x5=⟨limit,g,cs.map Sc.sg,false⟩:=⟨_,rfl⟩
 obtain ⟨st5,hst5⟩:∃ q,q=openD (crashD st keep) limit:=⟨_,rfl⟩
 have hw:Sat R5 (WX p2 d x5 s2 sg2 ds2 st5 (pts p (wCells d x.lim x.g.base s sg x.brk)::EntO s ds::SegO sg x.segs::LgsO t ls::Hs)) w:=by rw [hx5,hst5];exact hw
 have hx5g:x5.g=g:=by rw [hx5]
 have hx5b:x5.brk=false:=by rw [hx5]
 have he2:erE ds2=x5.g.l:=by rw [hx5g];exact he2
 have hql:=(hls qg hqg).2
 have hqlen:=hql.len
 have hgb:g.base=qg.1:=by rw [←hqge];rfl
 have hgl:g.l=erE qg.2.2:=by rw [←hqge];rfl
 have b5:WB0 x5:=by
  refine ⟨by rw [hx5g,hgb];exact hql.b.1,by rw [hx5g,hgb];exact hql.b.2,?_⟩
  rw [hx5g,hgl,List.length_map];omega
 refine ⟨_,_,rfl,fun w=>Sat R5 (WX p2 d x5 s2 sg2 ds2 st5 (pts p (wCells d x.lim x.g.base s sg x.brk)::EntO s ds::SegO sg x.segs::LgsO t ls::Hs)) w,Br.ne (fun h=>absurd rfl h) (fun _=>Br.f rfl hw),?_⟩
 clear hw
 rintro _ w hw
 have hf1:firstW x5=g.base + 1:=by unfold firstW;rw [hx5b,if_neg (by simp),hx5g]
 have hlw5:lastW x5=g.base + (g.l.length:Int):=by unfold lastW;rw [hx5b,if_neg (by simp),hx5g];rfl
 have hqb:=hql.b
 have hdt:∀ e∈x5.g.l,e.dt.length≤1099511627776:=fun e he=>by rw [hx5g,hgl] at he;have:=(hql.ents e he).1;omega
 have hfl1:g.l.length≤1000:=by rw [hgl,List.length_map];omega
 refine (first_spec0 b5 hw).use ?_
 clear hw
 rintro _ w ⟨rfl,hw⟩
 refine ⟨_,rfl,(getW_spec0 b5 (firstW x5) 100000 (by rw [hf1];omega) hdt hd2 he2 hw).use ?_⟩
 clear hw
 rintro _ w ⟨R6,t6,dt,e6,rfl,hd6,het,hw⟩
 obtain ⟨R7,e7,hrt,hw⟩:=OwnN.leak hw
 have hw:Sat R7 (LgsO t ls::WX p2 d x5 s2 sg2 ds2 st5 (pts p (wCells d x.lim x.g.base s sg x.brk)::EntO s ds::SegO sg x.segs::Hs)) w:=hw.arr
 obtain ⟨R8,e8,hrm,hw⟩:=OwnN.leak hw
 have hrt:=e8.roN hrt
 have hd8:=(hd6.ext e7).ext e8
 have e48:=((e45.trans e6).trans e7).trans e8
 have e58:=((e5.trans e6).trans e7).trans e8
 have hsame:erE dt=g.l:=by
  rw [het]
  unfold getW
  rw [hx5b,hf1,hx5g]
  by_cases h0:g.l.length=0
  ·have hg0:g.l=[]:=List.length_eq_zero_iff.1 h0
   rw [if_pos (by right;right;left;unfold Lg.last;omega),hg0]
  ·rw [if_neg (by unfold Lg.last;simp;omega),show (g.base + 1 - 1 - g.base:Int).toNat=0 by omega,List.drop_zero,List.take_of_length_le (by simp;omega)]
 have hdtl:dt.length=g.l.length:=by rw [←hsame,List.length_map]
 obtain ⟨j0,hj0,hje⟩:=List.mem_iff_getElem.1 hqg
 have htl:t.len=ls.length:=by have:=hrm.len;simpa using this
 have hdt2:∀ e∈erE dt,e.dt.length≤4096∧∀ y∈e.dt,0≤y∧y<256:=fun e he=>by rw [hsame,hgl] at he;exact hql.ents e he
 refine ⟨t6,rfl,fun i w=>∃ j:Nat,i=j∧j≤j0∧Sat R8 (WX p2 d x5 s2 sg2 ds2 st5 (pts p (wCells d x.lim x.g.base s sg x.brk)::EntO s ds::SegO sg x.segs::Hs)) w,fun i _=>(j0 + 1 - i).toNat,⟨0,rfl,Nat.zero_le _,hw⟩,?_⟩
 clear hw
 rintro z _ w ⟨j,rfl,hj,hw⟩
 refine Br.d (fun hk2=>?_) (fun hk2=>absurd (show (j:Int)<t.len by omega) hk2)
 have hjl:j<ls.length:=by omega
 obtain ⟨⟨hjR,hjd,hjc⟩,hjG⟩:=hls ls[j] (List.getElem_mem hjl)
 have hjn:=hjG.len
 have hjb:=hjG.b
 have hjlen:ls[j].2.1.len=ls[j].2.2.length:=by have:=hjR.len;simpa using this
 have next:j<j0→∀ {w:World},Sat R8 (WX p2 d x5 s2 sg2 ds2 st5 (pts p (wCells d x.lim x.g.base s sg x.brk)::EntO s ds::SegO sg x.segs::Hs)) w→
   ((∃ i:Nat,IntKind.i64.wrap ((j:Int) + 1)=i∧i≤j0∧Sat R8 (WX p2 d x5 s2 sg2 ds2 st5 (pts p (wCells d x.lim x.g.base s sg x.brk)::EntO s ds::SegO sg x.segs::Hs)) w)∧((j0:Int) + 1 - IntKind.i64.wrap ((j:Int) + 1)).toNat<((j0:Int) + 1 - (j:Int)).toNat):=fun h _ hw=>by
  rw [wrap64 (by omega) (by omega)]
  exact ⟨⟨j + 1,by omega,by omega,hw⟩,by omega⟩
 have atj:j=j0→ls[j].1=g.base∧erE ls[j].2.2=g.l:=fun h=>by
  subst h
  rw [hje]
  exact ⟨hgb.symm,hgl.symm⟩
 refine (hrm.reads (eqS hw)).rngM hjl fun a _ el=>⟨ls[j].2.1,el.f 1 (by exact ⟨rfl,trivial⟩),?_⟩
 refine (sameE_spec (xs:=dt) (ys:=ls[j].2.2) hrt (e58.roN hjR) hd8 (hjd.ext e58) (fun e he=>(hdt2 e he).2) (fun e he=>(hjG.ents e he).2) (by omega) (fun e he=>by have:=(hdt2 e.2 (List.mem_map_of_mem he)).1;omega) (fun e he=>by have:=(hjG.ents e.2 (List.mem_map_of_mem he)).1;omega) hw).use ?_
 clear hw
 rintro _ w ⟨bb,rfl,hiff,hw⟩
 refine ⟨_,rfl,drw_rule hw fun w hw=>Br.mk (fun hb=>?_) (fun hb=>next (by
  rcases Nat.lt_or_ge j j0 with h|h
  ·exact h
  ·have h2:=(atj (by omega)).2
   rw [hiff.2 (by rw [hsame,h2])] at hb;cases hb) hw)⟩
 refine (hrm.reads selfS).rngM hjl fun a _ el=>⟨ls[j].1,el.zz (by exact ⟨rfl,trivial⟩),?_⟩
 refine (first_spec0 b5 hw).use ?_
 clear hw
 rintro _ w ⟨rfl,hw⟩
 refine ⟨_,rfl,hw,?_⟩
 rw [hf1,wrap64 (x:=ls[j].1 + 1) (by omega) (by omega)]
 refine Br.e (fun he1=>?_) (fun he1=>next (by
  rcases Nat.lt_or_ge j j0 with h|h
  ·exact h
  ·have h2:=(atj (by omega)).1
   omega) hw)
 refine (hrm.reads selfS).rngM hjl fun a _ el=>⟨ls[j].1,ls[j].2.1,el.z (by exact ⟨rfl,rfl,trivial⟩),?_⟩
 refine (lastW_spec0 b5 he2 hw).use ?_
 clear hw
 rintro _ w ⟨rfl,hw⟩
 refine ⟨_,rfl,hw,(logLast_spec hjb.1 hjb.2 (by omega) hw).use ?_⟩
 clear hw
 rintro _ w ⟨rfl,hw⟩
 refine ⟨_,rfl,hw,?_⟩
 rw [hlw5,hjlen]
 exact Br.e (fun _=>fin e48 hw.drop.drop.drop.drop.drop.drop.drop) (fun he3=>next (by
  rcases Nat.lt_or_ge j j0 with h|h
  ·exact h
  ·have h2:=atj (by omega)
   have h3:=congrArg List.length h2.2
   rw [List.length_map] at h3
   omega) hw)
end Go.Proofs.YtkfedbncmfnpnaaGreatDoor
