/- A node's log in memory: Term, Get and what they want: parts of slices, copies. Condition: bounds on lengths. -/
import Derived.Test.YthpmfnffkjjlnaaGreatB2
import GoSem.Builtin.Clear
namespace Go.Proofs.YthpmfnffkjjlnaaGreat
set_option linter.unusedVariables false
set_option linter.unusedSimpArgs false
open Go Go.VC
open Go.Rf (Ey Lg LgOk)
variable {R R' R1:Cx} {Hs Rest Rest2:List HP} {w:World}
theorem _root_.Go.VC.ReadsN.take {n:Nat} {s:Sl} {rows:List (List Value)} {S:World→Prop} (h:ReadsN n s rows S) {m:Nat} (hm:m≤rows.length) (c:Nat):ReadsN n ⟨s.a,m,c⟩ (rows.take m) S:=
 ⟨by simp;omega,fun k hk=>by
  rw [List.length_take] at hk
  obtain ⟨b,off,ha,hb⟩:=h.2 k (by omega)
  exact ⟨b,off,ha,fun j vs hp=>hb j vs (by rwa [List.getElem_take] at hp)⟩⟩
theorem _root_.Go.VC.ReadsN.sub {n:Nat} {s:Sl} {rows:List (List Value)} {S:World→Prop} (h:ReadsN n s rows S) {l m:Nat} (hl:l≤rows.length) (hm:m=l→rows.length=l) (c:Nat):ReadsN n ⟨cutA s.a l m n,s.len - l,c⟩ (rows.drop l) S:=
 ⟨by simp [h.1],fun k hk=>by
  rw [List.length_drop] at hk
  obtain ⟨b,off,ha,hb⟩:=h.2 (l + k) (by omega)
  refine ⟨b,off + l * n,?_,fun j vs hp=>?_⟩
  ·unfold cutA
   rw [if_neg (fun e=>by have:=hm e;omega),ha]
   simp [add_off]
  ·rw [List.getElem_drop] at hp
   have:=hb j vs hp
   rwa [show off + ((l + k) * n + j)=off + l * n + (k * n + j) by rw [Nat.add_mul];omega] at this⟩
structure Rdg (R:Cx) (A:HP) (n:Nat) (s:Sl) (rows:List (List Value)):Prop where
 r:∀ {R':Cx},R.Ext R'→∀ {Hs Hs':List HP} {w:World} {S:World→Prop},Sat R' (A::Hs) w→(∀ w,S w→Sat R' (A::Hs') w)→ReadsN n s rows S
theorem Rdg.own {n:Nat} {s:Sl} {T:TypeId} {rows:List (List Value)}:Rdg R (OwnN n s T rows) n s rows:=⟨fun _ _ _ _ _ hw hS=>OwnN.reads hw hS⟩
theorem Rdg.ro {n:Nat} {s:Sl} {A:HP} {rows:List (List Value)} (h:RoN n R s rows):Rdg R A n s rows:=⟨fun e _ _ _ _ _ hS=>(e.roN h).reads hS⟩
theorem Rdg.take {A:HP} {n:Nat} {s:Sl} {rows:List (List Value)} (h:Rdg R A n s rows) {m:Nat} (hm:m≤rows.length) (c:Nat):Rdg R A n ⟨s.a,m,c⟩ (rows.take m):=⟨fun e _ _ _ _ hw hS=>(h.r e hw hS).take hm c⟩
theorem Rdg.sub {A:HP} {n:Nat} {s:Sl} {rows:List (List Value)} (h:Rdg R A n s rows) {l m:Nat} (hl:l≤rows.length) (hm:m=l→rows.length=l) (c:Nat):Rdg R A n ⟨cutA s.a l m n,s.len - l,c⟩ (rows.drop l):=⟨fun e _ _ _ _ hw hS=>(h.r e hw hS).sub hl hm c⟩
theorem Rdg.ext {A:HP} {n:Nat} {s:Sl} {rows:List (List Value)} (h:Rdg R A n s rows) (e:R.Ext R'):Rdg R' A n s rows:=⟨fun e2=>h.r (e.trans e2)⟩
theorem Rdg.rng {A:HP} {s:Sl} {ds:List DE4} (h:Rdg R A 4 s (ds.map eRow)) (e:R.Ext R') (hw:Sat R' (A::Hs) w) {S:World→Prop} {Hs':List HP} (hS:∀ w,S w→Sat R' (A::Hs') w) {i:Int} (k:Nat) (hi:i=k) (hk:k<ds.length) {F:Addr→Prop}
  (f:∀ a,s.a=some a→Elt 4 S a k (eRow ds[k])→F a):Rng i s.len (NilP s.a F):=(h.r e hw hS).rngI (g:=eRow) k hi hk f
theorem Rdg.len {A:HP} {s:Sl} {ds:List DE4} (h:Rdg R A 4 s (ds.map eRow)) (hw:Sat R (A::Hs) w):s.len=ds.length:=by
 have:=(h.r .refl hw (S:=fun w=>Sat R (A::Hs) w) fun _ h=>h).1
 simpa using this
section
variable {p:Nat} {g:Lg} {s:Sl} {com app:Int} {ds:List DE4} [tk:TakeP p Hs (lgCells s com app) Rest] [te:Take (EntO s ds) Hs Rest2]
include tk te
omit tk te in
theorem LgIn.at {R':Cx} (hi:LgIn R' g ds) {i:Int} (h:g.has i=true):∃ hk:(i - g.b.ix).toNat<ds.length,ds[(i - g.b.ix).toNat].2=g.at i:=by
 have hh:=Rf.Lg.has_iff.1 h
 unfold Lg.last at hh
 have hk:(i - g.b.ix).toNat<ds.length:=by rw [hi.len];omega
 obtain ⟨h1,h2⟩:=hi.get hk
 obtain ⟨h3,h4⟩:=Rf.Lg.at_eq h
 exact ⟨hk,by rw [h2,h4]⟩
theorem term_spec (hi:LgIn R' g ds) (ok:LgOk g) (i:Int) (hw:Sat R Hs w):Gets Tryz.prog 100 #[.pointer (some ⟨p,0,none⟩),.int .i64 i] w fun v w'=>v=.tuple #[.int .i64 (g.term i).1,.bool (g.term i).2]∧Sat R Hs w':=by
 apply call100
 refine (has_spec hi ok i hw).use ?_
 rintro _ w ⟨rfl,hw⟩
 refine ⟨_,rfl,Br.nb (fun h=>⟨?_,hw⟩) (fun h=>?_)⟩
 ·unfold Lg.term;rw [h];rfl
 ·refine (from_spec hi ok h hw).use ?_
  rintro _ w ⟨rfl,hw⟩
  refine ⟨⟨cutA s.a (i - g.b.ix).toNat s.cap 4,_,_⟩,rfl,?_⟩
  obtain ⟨hk,hd⟩:=hi.at h
  have hw2:=hw.perm te.perm
  have hc:=OwnN.cap (by omega) hw2
  have hsl:s.len=ds.length:=by have:=OwnN.len hw2;simpa using this
  have hr:=(OwnN.readsM (n:=4) (s:=s) (T:=52) (rows:=ds.map eRow) hw (eqS hw)).sub (m:=s.cap) (l:=(i - g.b.ix).toNat) (by rw [List.length_map];omega) (by rw [List.length_map];omega) (s.cap - (i - g.b.ix).toNat)
  rw [←List.map_drop] at hr
  refine hr.rngI (g:=eRow) 0 rfl (by rw [List.length_drop];omega) fun a _ el=>?_
  refine ⟨(g.at i).tm,el.f 1 (by rw [List.getElem_drop];refine ⟨?_,trivial⟩;rw [←hd];rfl),?_,hw⟩
  unfold Lg.term
  rw [if_pos h]
end
theorem pushN_in {P:Program} {n bytes b:Nat} {t1 t2 ty T T':TypeId} {fr:Nat × Nat} {s:Sl} (E:ElN P t1 t2 T n bytes) {rows:List (List Value)} {x:List Value} {K:Sl→World→Prop}
  (hw:Sat R (OwnN n s T rows::pts b (.cells x.toArray T' fr)::Hs) w) (hx:x.length=n) (h1:oneAll x=true) (hb:2 * (rows.length + 1) * bytes≤281474976710656) (hb':rows.length + 1≤9223372036854775807)
  (k:∀ s' w',Sat R (OwnN n s' T (rows++[x])::Hs) w'→K s' w'):
  ∃ w',∃ t:Sl,(Builtin.append_ #[t1,t2] ty #[.slice s.a s.len s.cap,.slice (some ⟨b,0,none⟩) 1 1]).run P w=.ok (.slice t.a t.len t.cap) w'∧K t w':=
 appendN_rule E hw (SrcN_one E.hk 1 hw hx h1) (fun r hr=>by simp at hr;subst hr;exact hx) hb hb' fun s' w' h=>k s' w' (h.cons fun _ h=>h.drop)
def EntsQ (R:Cx) (Hs:List HP) (es:List Ey) (v:Value) (w:World):Prop:=∃ R' t ds',R.Ext R'∧DsR R' ds'∧erE ds'=es∧v=.slice t.a t.len t.cap∧Sat R' (EntO t ds'::Hs) w
theorem copied_spec {A:HP} {s:Sl} {ds:List DE4} (hr:Rdg R A 4 s (ds.map eRow)) (hd:DsR R ds) (hl:ds.length≤1099511627777) (hb:∀ e∈ds,e.2.dt.length≤1099511627776) (hw:Sat R (A::Hs) w):
  Gets Tryz.prog 87 #[.slice s.a s.len s.cap] w (EntsQ R (A::Hs) (erE ds)):=by
 apply call87
 have hsl:=hr.len hw
 refine ⟨fun out i w=>∃ (k:Nat) (R':Cx) (ds':List DE4),i=k∧k≤ds.length∧R.Ext R'∧DsR R' ds'∧erE ds'=erE (ds.take k)∧Sat R' (EntO out ds'::A::Hs) w,fun _ i _=>ds.length - i.toNat,
  ⟨0,R,[],rfl,Nat.zero_le _,.refl,.nil,rfl,OwnN.nil hw⟩,?_⟩
 clear hw
 rintro _ out _ w ⟨k,R1,ds',rfl,hk,e1,hd1,he,hw⟩
 refine Br.d (fun h=>?_) (fun h=>?_)
 ·have hk':k<ds.length:=by omega
  refine hr.rng e1 hw.swap (fun w h=>(eqS hw w h).swap) k rfl hk' fun a _ el=>?_
  refine ⟨_,_,_,_,el.z (by exact ⟨rfl,rfl,rfl,rfl,trivial⟩),new_rule hw fun b w hw=>?_⟩
  refine store_rule hw (by kernel_rfl) rfl (by simp [Value.cells,putL_len]) fun w hw=>?_
  refine ⟨_,At.own (eqS hw) (by exact ⟨rfl,trivial⟩),?_⟩
  have hx:=e1.slR (hd _ (List.getElem_mem hk'))
  have hbl:=hb _ (List.getElem_mem hk')
  refine (clone_spec (hx.ro (by rw [List.length_map];omega)) (by omega) hw).use ?_
  clear hw
  rintro _ w ⟨t,rfl,hw⟩
  refine ⟨t,rfl,?_⟩
  obtain ⟨R2,e2,ht,hw⟩:=Own.leak hw
  refine store_rule hw (by kernel_rfl) rfl (by simp [Value.cells,putL_len]) fun w hw=>?_
  refine ⟨_,_,_,_,At.own (eqS hw) (by exact ⟨rfl,rfl,rfl,rfl,trivial⟩),new_rule hw fun b2 w hw=>?_⟩
  have hw:Sat R2 (pts b2 (.cells (eRow (t,ds[k].2)).toArray 52 (0,0))::pts b (.cells (eRow (t,ds[k].2)).toArray 52 (0,0))::EntO out ds'::A::Hs) w:=hw
  have hw:Sat R2 (EntO out ds'::pts b2 (.cells (eRow (t,ds[k].2)).toArray 52 (0,0))::pts b (.cells (eRow (t,ds[k].2)).toArray 52 (0,0))::A::Hs) w:=hw.arr
  have hlen:ds'.length=k:=by have:=congrArg List.length he;simp at this;omega
  refine pushN_in elE hw rfl rfl (by rw [List.length_map];omega) (by rw [List.length_map];omega) fun s2 w hw=>?_
  rw [wrap64 (by omega) (by omega)]
  refine ⟨⟨k + 1,R2,ds'++[(t,ds[k].2)],by omega,hk',e1.trans e2,(hd1.ext e2).app (.one ht),?_,?_⟩,by dsimp only;omega⟩
  ·rw [List.take_succ_eq_append_getElem hk']
   simp only [erE,List.map_append] at he ⊢
   rw [he];rfl
  ·unfold EntO;rw [List.map_append];exact hw.cons fun _ h=>h.drop
 ·have:k=ds.length:=by omega
  subst this
  rw [List.take_length] at he
  exact ⟨R1,out,ds',e1,hd1,he,rfl,hw⟩
end Go.Proofs.YthpmfnffkjjlnaaGreat
/- A node's log in memory: Get, and what Add and Merge ask of entries. Condition: bounds on lengths. -/
namespace Go.Proofs.YthpmfnffkjjlnaaGreat
set_option linter.unusedVariables false
set_option linter.unusedSimpArgs false
open Go Go.VC
open Go.Rf (Ey Lg LgOk)
variable {R R' R1:Cx} {Hs Rest Rest2:List HP} {w:World}
theorem LgIn.dt {g:Lg} {ds:List DE4} (h:LgIn R g ds) (ok:LgOk g) {k:Nat}:∀ e∈ds.drop (k + 1),Rf.oddE e.2=false:=fun e he=>by
 have h1:e.2∈(erE ds).drop (k + 1):=by rw [←List.map_drop];exact List.mem_map_of_mem he
 rw [h.e] at h1
 exact ok.es.no _ (List.mem_of_mem_drop (l:=g.l) (i:=k) h1)
theorem get_spec {p:Nat} {g:Lg} {s:Sl} {com app:Int} {ds:List DE4} {Hs:List HP} (hi:LgIn R g ds) (ok:LgOk g) (i most:Int) (hw:Sat R (pts p (lgCells s com app)::EntO s ds::Hs) w):
  Gets Tryz.prog 53 #[.pointer (some ⟨p,0,none⟩),.int .i64 i,.int .i64 most] w (EntsQ R (pts p (lgCells s com app)::EntO s ds::Hs) (g.get i most)):=by
 apply call53
 have no:∀ {w},g.get i most=[]→Sat R (pts p (lgCells s com app)::EntO s ds::Hs) w→EntsQ R (pts p (lgCells s com app)::EntO s ds::Hs) (g.get i most) (.slice none 0 0) w:=fun h hw=>by
  rw [h];exact ⟨R,⟨none,0,0⟩,[],.refl,.nil,rfl,rfl,OwnN.nil hw⟩
 refine ⟨fun w=>¬ (i≤g.b.ix∨g.has i=false∨most<1)∧Sat R (pts p (lgCells s com app)::EntO s ds::Hs) w,?_,?_⟩
 ·refine (base_spec hi hw).use ?_
  clear hw
  rintro _ w ⟨rfl,hw⟩
  refine ⟨_,rfl,Br.d (fun h=>no (by unfold Lg.get;rw [if_pos (.inl h)]) hw) (fun h=>?_)⟩
  refine (has_spec hi ok i hw).use ?_
  clear hw
  rintro _ w ⟨rfl,hw⟩
  refine ⟨_,rfl,Br.nb (fun h2=>no (by unfold Lg.get;rw [if_pos (.inr (.inl h2))]) hw) (fun h2=>?_)⟩
  refine Br.d (fun h3=>no (by unfold Lg.get;rw [if_pos (.inr (.inr h3))]) hw) (fun h3=>⟨?_,hw⟩)
  rintro (h4|h4|h4)
  ·exact h h4
  ·rw [h2] at h4;cases h4
  ·exact h3 h4
 clear hw
 rintro _ w ⟨hc,hw⟩
 have h2:g.has i=true:=by
  cases h:g.has i
  ·exact absurd (.inr (.inl h)) hc
  ·rfl
 refine (from_spec hi ok h2 hw).use ?_
 clear hw
 rintro _ w ⟨rfl,hw⟩
 have hh:=Rf.Lg.has_iff.1 h2
 have hll:=ok.last_le
 have h0:=ok.b0
 have hlen:=hi.len
 have hw2:Sat R (EntO s ds::pts p (lgCells s com app)::Hs) w:=hw.swap
 have hcap:=OwnN.cap (by omega) hw2
 have hsl:s.len=ds.length:=by have:=OwnN.len hw2;simpa using this
 obtain ⟨k,hk⟩:∃ k:Nat,(i - g.b.ix).toNat=k + 1:=⟨(i - g.b.ix).toNat - 1,by omega⟩
 rw [hk]
 refine ⟨⟨cutA s.a (k + 1) s.cap 4,s.len - (k + 1),s.cap - (k + 1)⟩,rfl,?_⟩
 unfold Lg.last at *
 have em:∃ m:Nat,(if ((s.len - (k + 1):Nat):Int)<most then ((s.len - (k + 1):Nat):Int) else most)=m∧m≤ds.length - (k + 1)∧((ds.drop (k + 1)).take m)=(ds.drop (k + 1)).take most.toNat:=by
  by_cases h:((s.len - (k + 1):Nat):Int)<most
  ·rw [if_pos h]
   refine ⟨_,rfl,by omega,?_⟩
   rw [List.take_of_length_le (by rw [List.length_drop];omega),List.take_of_length_le (by rw [List.length_drop];omega)]
  ·rw [if_neg h]
   exact ⟨most.toNat,by omega,by omega,rfl⟩
 obtain ⟨m,em,hm,et⟩:=em
 dsimp only
 rw [em]
 refine ⟨by omega,by omega,?_⟩
 have hr:Rdg R (EntO s ds) 4 ⟨cutA s.a (k + 1) s.cap 4,m,s.cap - (k + 1)⟩ (((ds.drop (k + 1)).take m).map eRow):=by
  have h1:=(Rdg.own (R:=R) (n:=4) (s:=s) (T:=52) (rows:=ds.map eRow)).sub (m:=s.cap) (l:=k + 1) (by rw [List.length_map];omega) (by rw [List.length_map];omega) (s.cap - (k + 1))
  have h2:=h1.take (m:=m) (by rw [List.length_drop,List.length_map];omega) (s.cap - (k + 1))
  rwa [←List.map_drop,←List.map_take] at h2
 have hnz:∀ e∈(ds.drop (k + 1)).take m,e.2.dt.length≤1099511627776:=fun e he=>by
  have:=Rf.oddE_no (hi.dt ok (k:=k) e (List.mem_of_mem_take he));omega
 rw [Int.toNat_natCast]
 refine (copied_spec hr ((hi.d.drop _).take _) (by rw [List.length_take,List.length_drop];omega) hnz hw2).use ?_
 clear hw hw2
 rintro _ w ⟨R2,t,ds2,e2,hd2,he2,rfl,hw⟩
 refine ⟨t,rfl,R2,t,ds2,e2,hd2,?_,rfl,hw.arr⟩
 rw [he2,et]
 unfold Lg.get
 rw [if_neg hc,hk]
 simp only [erE,List.map_take,List.map_drop]
 rw [show ds.map (·.2)=g.all from hi.e]
theorem tail_spec {p:Nat} {g:Lg} {s:Sl} {com app:Int} {ds:List DE4} {Hs:List HP} (hi:LgIn R' g ds) (ok:LgOk g) (hw:Sat R (pts p (lgCells s com app)::EntO s ds::Hs) w):
  Gets Tryz.prog 86 #[.pointer (some ⟨p,0,none⟩)] w fun v w'=>∃ t:Sl,v=eVal (t,g.tail)∧Sat R (pts p (lgCells s com app)::EntO s ds::Hs) w':=by
 apply call86
 refine new_rule hw fun b w hw=>?_
 refine drw_rule hw fun w hw=>NilP.mk rfl ⟨s,At.own selfS (by exact ⟨rfl,trivial⟩),NilP.mk rfl ⟨s,At.own selfS (by exact ⟨rfl,trivial⟩),?_⟩⟩
 have hlen:=hi.len
 have hw2:Sat R (EntO s ds::pts b (.cells [.int .i64 0,.int .i64 0,.int .i64 0,.slice none 0 0].toArray 52 (0,0))::pts p (lgCells s com app)::Hs) w:=hw.arr
 have hsl:s.len=ds.length:=by have:=OwnN.len hw2;simpa using this
 have hll:=ok.len
 rw [wrap64 (by omega) (by omega)]
 have hk:ds.length - 1<ds.length:=by omega
 refine ent_rng hw selfS (ds:=ds) (ds.length - 1) (by omega) hk fun a _ el=>?_
 obtain ⟨x,hx⟩:∃ x,x=ds[ds.length - 1]:=⟨_,rfl⟩
 rw [←hx] at el
 rw [show (((s.len:Nat):Int) - 1).toNat=(((ds.length - 1:Nat):Int)).toNat by omega]
 refine ⟨_,_,_,_,el.z (by exact ⟨rfl,rfl,rfl,rfl,trivial⟩),?_⟩
 refine store_rule hw (by kernel_rfl) rfl (by simp [Value.cells,putL_len]) fun w hw=>?_
 have hw:Sat R (pts b (.cells (eRow x).toArray 52 (0,0))::pts p (lgCells s com app)::EntO s ds::Hs) w:=hw
 refine ⟨_,_,_,_,At.own (eqS hw) (by exact ⟨rfl,rfl,rfl,rfl,trivial⟩),x.1,?_,hw.drop⟩
 have:x.2=g.tail:=by
  obtain ⟨h2,h3⟩:=hi.get hk
  rw [hx,h3]
  exact Rf.Lg.tail_at _ (by omega)
 rw [←this]
theorem odd_spec {e:DE4} (hlen:e.1.len=e.2.dt.length) (hw:Sat R Hs w):Gets Tryz.prog 84 #[eVal e] w fun v w'=>v=.bool (Rf.oddE e.2)∧Sat R Hs w':=by
 obtain ⟨s,x⟩:=e
 apply call84
 refine new_rule hw fun b w hw=>⟨_,At.own (eqS hw) (by exact ⟨rfl,trivial⟩),?_⟩
 unfold Rf.oddE
 refine Br.d (fun h=>⟨by rw [decide_eq_true h];rfl,hw.drop⟩) (fun h=>⟨_,At.own (eqS hw) (by exact ⟨rfl,trivial⟩),?_⟩)
 rw [decide_eq_false h]
 refine (within_spec hw).use ?_
 clear hw
 rintro _ w ⟨rfl,hw⟩
 refine ⟨_,rfl,Br.nb (fun h=>⟨by rw [h];rfl,hw.drop⟩) (fun h=>⟨_,At.own (eqS hw) (by exact ⟨rfl,trivial⟩),?_⟩)⟩
 rw [h]
 refine (within_spec hw).use ?_
 clear hw
 rintro _ w ⟨rfl,hw⟩
 refine ⟨_,rfl,Br.nb (fun h=>⟨by rw [h];rfl,hw.drop⟩) (fun h=>⟨_,At.own (eqS hw) (by exact ⟨rfl,trivial⟩),?_⟩)⟩
 rw [h]
 refine Br.d (fun h=>⟨by rw [decide_eq_true h];rfl,hw.drop⟩) (fun h=>⟨_,At.own (eqS hw) (by exact ⟨rfl,trivial⟩),?_⟩)
 rw [decide_eq_false h]
 refine Br.d (fun h=>⟨by rw [decide_eq_true h];rfl,hw.drop⟩) (fun h=>⟨s,At.own (eqS hw) (by exact ⟨rfl,trivial⟩),?_,hw.drop⟩)
 rw [decide_eq_false h]
 simp only at hlen
 rw [hlen];rfl
theorem follow_spec {A:HP} {s:Sl} {ds:List DE4} (hr:Rdg R A 4 s (ds.map eRow)) (hl:ds.length≤1099511627777) (ho:∀ e∈ds,Rf.oddE e.2=false) (i t:Int) (hw:Sat R (A::Hs) w):
  Gets Tryz.prog 85 #[.slice s.a s.len s.cap,.int .i64 i,.int .i64 t] w fun v w'=>v=.bool (Rf.folE (erE ds) i t)∧Sat R (A::Hs) w':=by
 apply call85
 have hsl:=hr.len hw
 refine ⟨fun i' t' j w=>∃ k:Nat,j=k∧k≤ds.length∧Rf.folE (erE ds) i t=Rf.folE (erE (ds.drop k)) i' t'∧Sat R (A::Hs) w,fun _ _ j _=>ds.length - j.toNat,
  ⟨0,rfl,Nat.zero_le _,rfl,hw⟩,?_⟩
 clear hw
 rintro _ i' t' _ w ⟨k,rfl,hk,he,hw⟩
 refine Br.d (fun h=>?_) (fun h=>?_)
 ·have hk':k<ds.length:=by omega
  refine hr.rng .refl hw (fun w h=>eqS hw w h) k rfl hk' fun a _ el=>?_
  have hod:=Rf.oddE_no (ho _ (List.getElem_mem hk'))
  refine ⟨_,_,_,_,el.z (by exact ⟨rfl,rfl,rfl,rfl,trivial⟩),new_rule hw fun b w hw=>?_⟩
  refine store_rule hw (by kernel_rfl) rfl (by simp [Value.cells,putL_len]) fun w hw=>?_
  refine ⟨_,At.own (eqS hw) (by exact ⟨rfl,trivial⟩),?_⟩
  rw [wrap64 (by omega) (by omega)]
  rw [drop_get hk'] at he
  simp only [erE,List.map_cons,Rf.folE] at he
  refine Br.ne (fun h2=>⟨by rw [if_pos (.inl h2)] at he;simpa [erE] using he.symm,hw.drop⟩) (fun h2=>⟨_,At.own (eqS hw) (by exact ⟨rfl,trivial⟩),?_⟩)
  refine Br.d (fun h3=>⟨by rw [if_pos (.inr h3)] at he;simpa [erE] using he.symm,hw.drop⟩) (fun h3=>drw_rule hw fun w hw=>⟨_,At.own selfS (by exact ⟨rfl,trivial⟩),_,At.own selfS (by exact ⟨rfl,trivial⟩),?_⟩)
  rw [if_neg (by rintro (h4|h4)<;>contradiction)] at he
  rw [wrap64 (by omega) (by omega)]
  exact ⟨⟨k + 1,by omega,hk',he,hw.drop⟩,by dsimp only;omega⟩
 ·have:k=ds.length:=by omega
  subst this
  rw [List.drop_length] at he
  exact ⟨by rw [he];rfl,hw⟩
def idxV (o:Option Nat):Int:=match o with|some k=>k|none=>-1
theorem indexE_spec {A:HP} {s:Sl} {ds:List DE4} {f:Value} (p:Ey→Bool) (hr:Rdg R A 4 s (ds.map eRow)) (hl:ds.length≤1099511627777)
  (hf:∀ e∈ds,∀ w,Sat R (A::Hs) w→CalW Tryz.prog cl f [eVal e] w (fun r w'=>r=.returned (.bool (p e.2))∧Sat R (A::Hs) w')) (hw:Sat R (A::Hs) w):
  Gets Tryz.prog 119 #[.slice s.a s.len s.cap,f] w fun v w'=>v=.int .i64 (idxV ((erE ds).findIdx? p))∧Sat R (A::Hs) w':=by
 apply call119
 have hsl:=hr.len hw
 refine ⟨fun j w=>∃ k:Nat,j=k∧k≤ds.length∧(∀ j (hj:j<ds.length),j<k→p ds[j].2=false)∧Sat R (A::Hs) w,fun j _=>ds.length - j.toNat,
  ⟨0,rfl,Nat.zero_le _,fun _ _ h=>by omega,hw⟩,?_⟩
 clear hw
 rintro _ _ w ⟨k,rfl,hk,hno,hw⟩
 refine Br.d (fun h=>?_) (fun h=>?_)
 ·have hk':k<ds.length:=by omega
  refine hr.rng .refl hw (fun w h=>eqS hw w h) k rfl hk' fun a _ el=>?_
  refine ⟨_,_,_,_,el.z (by exact ⟨rfl,rfl,rfl,rfl,trivial⟩),?_⟩
  refine (hf ds[k] (List.getElem_mem hk') w hw).mono ?_
  clear hw
  rintro _ w ⟨rfl,hw⟩
  refine ⟨_,rfl,Br.mk (fun h2=>⟨?_,hw⟩) (fun h2=>?_)⟩
  ·have:(erE ds).findIdx? p=some k:=List.findIdx?_eq_some_iff_getElem.2 ⟨by rw [List.length_map];exact hk',by simpa using h2,fun j hj=>by simpa using hno j (by omega) hj⟩
   rw [this];rfl
  ·rw [wrap64 (by omega) (by omega)]
   refine ⟨⟨k + 1,by omega,hk',fun j hj hjk=>?_,hw⟩,by dsimp only;omega⟩
   by_cases e:j=k
   ·subst e;exact h2
   ·exact hno j hj (by omega)
 ·have:k=ds.length:=by omega
  subst this
  have:(erE ds).findIdx? p=none:=List.findIdx?_eq_none_iff.2 fun x hx=>by
   obtain ⟨e,he,rfl⟩:=List.mem_map.1 hx
   obtain ⟨j,hj,rfl⟩:=List.getElem_of_mem he
   exact hno j hj hj
  exact ⟨by rw [this];rfl,hw⟩
theorem idxV_ge {o:Option Nat}:decide (idxV o ≥ 0)=o.isSome:=by
 cases o with
 |none=>rfl
 |some k=>unfold idxV;simp
theorem containsE_spec {A:HP} {s:Sl} {ds:List DE4} {f:Value} (p:Ey→Bool) (hr:Rdg R A 4 s (ds.map eRow)) (hl:ds.length≤1099511627777)
  (hf:∀ e∈ds,∀ w,Sat R (A::Hs) w→CalW Tryz.prog cl f [eVal e] w (fun r w'=>r=.returned (.bool (p e.2))∧Sat R (A::Hs) w')) (hw:Sat R (A::Hs) w):
  Gets Tryz.prog 56 #[.slice s.a s.len s.cap,f] w fun v w'=>v=.bool ((erE ds).any p)∧Sat R (A::Hs) w':=by
 apply call56
 refine (indexE_spec p hr hl hf hw).use ?_
 rintro _ w ⟨rfl,hw⟩
 refine ⟨_,rfl,?_,hw⟩
 rw [idxV_ge]
 congr 1
 rw [Bool.eq_iff_iff,Option.isSome_iff_ne_none,ne_eq,List.findIdx?_eq_none_iff]
 simp [List.any_eq_true]
 exact ⟨fun ⟨x,⟨a,h⟩,hp⟩=>⟨a,x,h,hp⟩,fun ⟨a,x,h,hp⟩=>⟨x,⟨a,h⟩,hp⟩⟩
theorem anyOdd_spec {A:HP} {s:Sl} {ds:List DE4} (hr:Rdg R A 4 s (ds.map eRow)) (hl:ds.length≤1099511627777) (hd:DsR R ds) (hw:Sat R (A::Hs) w):
  Gets Tryz.prog 56 #[.slice s.a s.len s.cap,.func (.func 84) #[] #[]] w fun v w'=>v=.bool ((erE ds).any Rf.oddE)∧Sat R (A::Hs) w':=
 containsE_spec Rf.oddE hr hl (fun e he w hw=>by
  show Calls Tryz.prog 84 #[eVal e] w _
  refine (odd_spec (by have:=(hd e he).len;simpa using this) hw).use ?_
  rintro _ w ⟨rfl,hw⟩
  exact ⟨rfl,hw⟩) hw
end Go.Proofs.YthpmfnffkjjlnaaGreat
/- A node's log in memory: New, Add, Commit, Apply. Condition: bounds on lengths. -/
namespace Go.Proofs.YthpmfnffkjjlnaaGreat
set_option linter.unusedVariables false
set_option linter.unusedSimpArgs false
open Go Go.VC
open Go.Rf (Ey Lg LgOk)
variable {R R' R1:Cx} {Hs Rest Rest2:List HP} {w:World}
theorem appendEE {s t:Sl} {ds es:List DE4} {K:Sl→World→Prop} (hw:Sat R (EntO s ds::EntO t es::Hs) w) (hl:ds.length + es.length≤1099511627777)
  (k:∀ s' w',Sat R (EntO s' (ds++es)::EntO t es::Hs) w'→K s' w'):
  ∃ w',∃ u:Sl,(Builtin.append_ #[ 46,46 ] 46 #[.slice s.a s.len s.cap,.slice t.a t.len t.cap]).run Tryz.prog w=.ok (.slice u.a u.len u.cap) w'∧K u w':=by
 obtain ⟨R',ht,_,hw2,back⟩:=OwnN.lend hw.swap
 refine appendN_rule elE hw2 (srcRoN elE.hk hw2 ht (one_eRows es)) (wid_eRows es) (by rw [List.length_map,List.length_map];omega) (by rw [List.length_map,List.length_map];omega) fun s' w' h=>k s' w' ?_
 have h:=(back h).swap
 rwa [←List.map_append] at h
theorem lnew_spec (i t:Int) (hw:Sat R Hs w):Gets Tryz.prog 33 #[.int .i64 i,.int .i64 t] w fun v w'=>
  ((Rf.inIx i && Rf.inIx t)=true∧∃ p,v=.tuple #[.pointer (some ⟨p,0,none⟩),.int .i64 0]∧Sat R (LgAt R p (Lg.new i t)::Hs) w')∨((Rf.inIx i && Rf.inIx t)=false∧v=.tuple #[.pointer none,.int .i64 1]∧Sat R Hs w'):=by
 apply call33
 refine (within_spec hw).use ?_
 clear hw
 rintro _ w ⟨rfl,hw⟩
 refine ⟨_,rfl,Br.nb (fun h=>.inr ⟨by rw [h];rfl,rfl,hw⟩) (fun h=>?_)⟩
 refine (within_spec hw).use ?_
 clear hw
 rintro _ w ⟨rfl,hw⟩
 refine ⟨_,rfl,Br.nb (fun h2=>.inr ⟨by rw [h,h2];rfl,rfl,hw⟩) (fun h2=>new_rule hw fun b w hw=>new_rule hw fun p w hw=>.inl ⟨by rw [h,h2];rfl,?_⟩)⟩
 refine ⟨p,rfl,LgAt.iff.2 ⟨⟨some ⟨b,0,none⟩,1,1⟩,[(⟨none,0,0⟩,⟨i,t,0,[]⟩)],⟨rfl,.one ⟨rfl,Nat.le_refl _,fun h=>absurd rfl h⟩⟩,?_⟩⟩
 refine hw.cons fun _ h=>?_
 exact OwnN.of_pts (n:=4) (cap:=1) (rest:=[]) (rows:=[eRow (⟨none,0,0⟩,⟨i,t,0,[]⟩)]) (Wid.one rfl) rfl h
theorem ladd_spec {A:HP} {p:Nat} {g:Lg} {s':Sl} {es:List DE4} (ok:LgOk g) (hr:Rdg R A 4 s' (es.map eRow)) (hd:DsR R es) (hl:es.length≤1099511627777) (hw:Sat R (LgAt R p g::A::Hs) w):
  Gets Tryz.prog 34 #[.pointer (some ⟨p,0,none⟩),.slice s'.a s'.len s'.cap] w fun v w'=>∃ R',R.Ext R'∧v=.int .i64 (g.add (erE es)).1∧Sat R' (LgAt R' p (g.add (erE es)).2::A::Hs) w':=by
 obtain ⟨s,ds,hi,hw⟩:=LgAt.iff.1 hw
 have hw:Sat R (A::pts p (lgCells s g.com g.app)::EntO s ds::Hs) w:=hw.arr
 apply call34
 refine (anyOdd_spec hr hl hd hw).use ?_
 clear hw
 rintro _ w ⟨rfl,hw⟩
 have out:∀ {w},(g.add (erE es)).2=g→Sat R (A::pts p (lgCells s g.com g.app)::EntO s ds::Hs) w→Sat R (LgAt R p (g.add (erE es)).2::A::Hs) w:=fun h hw=>by
  rw [h];exact LgAt.iff.2 ⟨s,ds,hi,hw.arr⟩
 refine ⟨_,rfl,Br.mk (fun h=>?_) (fun h=>?_)⟩
 ·have e:g.add (erE es)=(1,g):=by unfold Lg.add;rw [if_pos h]
  exact ⟨R,.refl,by rw [e],out (by rw [e]) hw⟩
 have hod:∀ e∈es,Rf.oddE e.2=false:=fun e he=>by
  have:=List.any_eq_false.1 h e.2 (List.mem_map_of_mem he)
  simpa using this
 refine (last_spec hi ok hw).use ?_
 clear hw
 rintro _ w ⟨rfl,hw⟩
 refine ⟨_,rfl,?_⟩
 have hw:Sat R (pts p (lgCells s g.com g.app)::EntO s ds::A::Hs) w:=hw.arr
 refine (tail_spec hi ok hw).use ?_
 clear hw
 rintro _ w ⟨t,rfl,hw⟩
 have hw:Sat R (A::pts p (lgCells s g.com g.app)::EntO s ds::Hs) w:=hw.arr
 refine ⟨_,_,_,t,rfl,?_⟩
 refine (follow_spec hr hl hod _ _ hw).use ?_
 clear hw
 rintro _ w ⟨rfl,hw⟩
 refine ⟨_,rfl,Br.nb (fun h2=>?_) (fun h2=>?_)⟩
 ·have e:g.add (erE es)=(7,g):=by unfold Lg.add;rw [if_neg (by rw [h];simp),if_neg (by rw [h2];simp)]
  exact ⟨R,.refl,by rw [e],out (by rw [e]) hw⟩
 have e:g.add (erE es)=(0,{ g with l:=g.l++erE es }):=by unfold Lg.add;rw [if_neg (by rw [h];simp),if_pos h2]
 have ok2:=ok.add (erE es)
 rw [e] at ok2 ⊢
 refine drw_rule' (Sat R [pts p (lgCells s g.com g.app),VC.tru]) hw (fun w hw=>hw.k1) fun w hw=>NilP.mk rfl ⟨s,At.own selfS (by exact ⟨rfl,trivial⟩),?_⟩
 refine (copied_spec hr hd hl (fun x hx=>by have:=Rf.oddE_no (hod x hx);omega) hw).use ?_
 clear hw
 rintro _ w ⟨R2,t2,ds2,e2,hd2,he2,rfl,hw⟩
 refine ⟨t2,rfl,(e2.back hw).k1,?_⟩
 have hw:Sat R2 (EntO s ds::EntO t2 ds2::A::pts p (lgCells s g.com g.app)::Hs) w:=hw.arr
 have hl2:ds2.length=es.length:=by have:=congrArg List.length he2;simpa using this
 have hll:=ok2.len
 simp only [List.length_append,List.length_map] at hll
 refine appendEE hw (by have:=hi.len;omega) fun s3 w hw=>NilP.mk rfl ?_
 have hw:Sat R2 (pts p (lgCells s g.com g.app)::EntO s3 (ds++ds2)::A::Hs) w:=by
  have h:Sat R2 (EntO t2 ds2::pts p (lgCells s g.com g.app)::EntO s3 (ds++ds2)::A::Hs) w:=hw.arr
  exact h.drop
 refine store_rule hw (by kernel_rfl) rfl (by simp [Value.cells,putL_len]) fun w hw=>?_
 refine ⟨R2,e2,rfl,LgAt.iff.2 ⟨s3,ds++ds2,⟨?_,(hi.d.ext e2).app hd2⟩,hw⟩⟩
 simp only [erE,List.map_append] at he2 ⊢
 rw [he2,show ds.map (·.2)=g.all from hi.e];rfl
theorem move_spec {b o:Nat} {i lo hi:Int} {l:List Value} {T:TypeId} (ho:o<l.length) (hw:Sat R (pts b (.cells l.toArray T (0,0))::Hs) w):Gets Tryz.prog 209 #[.pointer (some ⟨b,o,none⟩),.int .i64 i,.int .i64 lo,.int .i64 hi] w fun v w'=>
  (v=.int .i64 (if i<lo∨i>hi then 7 else 0)∧Sat R (pts b (.cells (if i<lo∨i>hi then l else l.set o (.int .i64 i)).toArray T (0,0))::Hs) w'):=by
 apply call209
 refine Br.d (fun h=>by rw [if_pos (.inl h),if_pos (.inl h)];exact ⟨rfl,hw⟩) (fun h=>Br.d (fun h2=>by rw [if_pos (.inr h2),if_pos (.inr h2)];exact ⟨rfl,hw⟩) (fun h2=>NilP.mk rfl ?_))
 rw [if_neg (by omega),if_neg (by omega)]
 refine store_rule hw (by kernel_rfl) rfl (by simp [Value.cells];omega) fun w hw=>⟨rfl,hw⟩
theorem lcommit_spec {p:Nat} {g:Lg} (ok:LgOk g) (i:Int) (hw:Sat R (LgAt R1 p g::Hs) w):Gets Tryz.prog 161 #[.pointer (some ⟨p,0,none⟩),.int .i64 i] w fun v w'=>v=.int .i64 (g.commit i).1∧Sat R (LgAt R1 p (g.commit i).2::Hs) w':=by
 obtain ⟨s,ds,hi,hw⟩:=LgAt.iff.1 hw
 apply call161
 refine drw_rule hw fun w hw=>NilP.mk rfl (NilP.mk rfl ⟨_,At.own selfS (by exact ⟨rfl,trivial⟩),?_⟩)
 refine (last_spec hi ok hw).use ?_
 clear hw
 rintro _ w ⟨rfl,hw⟩
 refine ⟨_,rfl,hw,?_⟩
 refine (move_spec (by simp) hw).use ?_
 clear hw
 rintro _ w ⟨rfl,hw⟩
 refine ⟨_,rfl,?_⟩
 unfold Lg.commit
 by_cases h:i<g.com∨i>g.last
 ·rw [if_pos h] at hw
  rw [if_pos h,if_pos h]
  exact ⟨rfl,LgAt.iff.2 ⟨s,ds,hi,hw⟩⟩
 ·rw [if_neg h] at hw
  rw [if_neg h,if_neg h]
  exact ⟨rfl,LgAt.iff.2 ⟨s,ds,⟨hi.e,hi.d⟩,hw⟩⟩
theorem lapply_spec {p:Nat} {g:Lg} (i:Int) (hw:Sat R (LgAt R1 p g::Hs) w):Gets Tryz.prog 152 #[.pointer (some ⟨p,0,none⟩),.int .i64 i] w fun v w'=>v=.int .i64 (g.apply i).1∧Sat R (LgAt R1 p (g.apply i).2::Hs) w':=by
 obtain ⟨s,ds,hi,hw⟩:=LgAt.iff.1 hw
 apply call152
 refine drw_rule hw fun w hw=>NilP.mk rfl (NilP.mk rfl ⟨_,At.own selfS (by exact ⟨rfl,trivial⟩),NilP.mk rfl ⟨_,At.own selfS (by exact ⟨rfl,trivial⟩),?_⟩⟩)
 refine (move_spec (by simp) hw).use ?_
 clear hw
 rintro _ w ⟨rfl,hw⟩
 refine ⟨_,rfl,?_⟩
 unfold Lg.apply
 by_cases h:i<g.app∨i>g.com
 ·rw [if_pos h] at hw
  rw [if_pos h,if_pos h]
  exact ⟨rfl,LgAt.iff.2 ⟨s,ds,hi,hw⟩⟩
 ·rw [if_neg h] at hw
  rw [if_neg h,if_neg h]
  exact ⟨rfl,LgAt.iff.2 ⟨s,ds,⟨hi.e,hi.d⟩,hw⟩⟩
section
variable {p:Nat} {g:Lg}
theorem llast_spec (ok:LgOk g) (hw:Sat R (LgAt R1 p g::Hs) w):Gets Tryz.prog 39 #[.pointer (some ⟨p,0,none⟩)] w fun v w'=>v=.int .i64 g.last∧Sat R (LgAt R1 p g::Hs) w':=by
 obtain ⟨s,ds,hi,hw⟩:=LgAt.iff.1 hw
 exact (last_spec hi ok hw).mono fun _ _ h=>⟨h.1,LgAt.iff.2 ⟨s,ds,hi,h.2⟩⟩
theorem lfirst_spec (ok:LgOk g) (hw:Sat R (LgAt R1 p g::Hs) w):Gets Tryz.prog 157 #[.pointer (some ⟨p,0,none⟩)] w fun v w'=>v=.int .i64 (g.b.ix + 1)∧Sat R (LgAt R1 p g::Hs) w':=by
 obtain ⟨s,ds,hi,hw⟩:=LgAt.iff.1 hw
 exact (first_spec hi ok hw).mono fun _ _ h=>⟨h.1,LgAt.iff.2 ⟨s,ds,hi,h.2⟩⟩
theorem lterm_spec (ok:LgOk g) (i:Int) (hw:Sat R (LgAt R1 p g::Hs) w):Gets Tryz.prog 100 #[.pointer (some ⟨p,0,none⟩),.int .i64 i] w fun v w'=>v=.tuple #[.int .i64 (g.term i).1,.bool (g.term i).2]∧Sat R (LgAt R1 p g::Hs) w':=by
 obtain ⟨s,ds,hi,hw⟩:=LgAt.iff.1 hw
 exact (term_spec hi ok i hw).mono fun _ _ h=>⟨h.1,LgAt.iff.2 ⟨s,ds,hi,h.2⟩⟩
theorem lcommitted_spec (hw:Sat R (LgAt R1 p g::Hs) w):Gets Tryz.prog 50 #[.pointer (some ⟨p,0,none⟩)] w fun v w'=>v=.int .i64 g.com∧Sat R (LgAt R1 p g::Hs) w':=by
 obtain ⟨s,ds,hi,hw⟩:=LgAt.iff.1 hw
 apply call50
 exact NilP.mk rfl ⟨_,At.own (eqS hw) (by exact ⟨rfl,trivial⟩),rfl,LgAt.iff.2 ⟨s,ds,hi,hw⟩⟩
theorem lapplied_spec (hw:Sat R (LgAt R1 p g::Hs) w):Gets Tryz.prog 155 #[.pointer (some ⟨p,0,none⟩)] w fun v w'=>v=.int .i64 g.app∧Sat R (LgAt R1 p g::Hs) w':=by
 obtain ⟨s,ds,hi,hw⟩:=LgAt.iff.1 hw
 apply call155
 exact NilP.mk rfl ⟨_,At.own (eqS hw) (by exact ⟨rfl,trivial⟩),rfl,LgAt.iff.2 ⟨s,ds,hi,hw⟩⟩
theorem lget_spec (ok:LgOk g) (i most:Int) (hw:Sat R (LgAt R p g::Hs) w):Gets Tryz.prog 53 #[.pointer (some ⟨p,0,none⟩),.int .i64 i,.int .i64 most] w fun v w'=>
  ∃ R' t ds',R.Ext R'∧DsR R' ds'∧erE ds'=g.get i most∧v=.slice t.a t.len t.cap∧Sat R' (EntO t ds'::LgAt R' p g::Hs) w':=by
 obtain ⟨s,ds,hi,hw⟩:=LgAt.iff.1 hw
 refine (get_spec hi ok i most hw).mono ?_
 rintro _ w ⟨R2,t,ds2,e2,hd2,he2,rfl,hw⟩
 exact ⟨R2,t,ds2,e2,hd2,he2,rfl,hw.cons fun _ h=>LgAt.iff.2 ⟨s,ds,hi.ext (e2.trans (by exact ⟨fun _ _ h=>h,⟨rfl,rfl,rfl⟩⟩)),h⟩⟩
end
end Go.Proofs.YthpmfnffkjjlnaaGreat
/- A node's log in memory: Merge, Compact, Reset, Back. Condition: bounds on lengths. -/
namespace Go.Proofs.YthpmfnffkjjlnaaGreat
set_option linter.unusedVariables false
set_option linter.unusedSimpArgs false
open Go Go.VC
open Go.Rf (Ey Lg LgOk)
variable {R R' R1:Cx} {Hs Rest Rest2:List HP} {w:World}
theorem clonE_spec {s:Sl} {ds:List DE4} (hr:RoN 4 R s (ds.map eRow)) (hl:ds.length≤1099511627777) (hw:Sat R Hs w):
  Gets Tryz.prog 210 #[.slice s.a s.len s.cap] w fun v w'=>∃ t:Sl,v=.slice t.a t.len t.cap∧Sat R (EntO t ds::Hs) w':=by
 apply call210
 refine Br.mk (fun h=>?_) (fun h=>?_)
 ·have:ds=[]:=by
   cases ds with
   |nil=>rfl
   |cons e ds=>
    obtain ⟨b,off,l,T,fr,ha,_⟩:=hr.mem (by simp)
    rw [ha] at h;cases h
  subst this
  exact ⟨⟨none,0,0⟩,rfl,OwnN.nil hw⟩
 ·refine new_rule hw fun b w hw=>?_
  have hlen:=hr.len
  have hsrc:=srcRoN (P:=Tryz.prog) ⟨_,Tryz.underlying46⟩ hw hr (one_eRows ds)
  refine appendN0_rule (b:=b) elE hw hsrc (wid_eRows ds) (by rw [List.length_map];omega) (by rw [List.length_map];omega) fun t w hw=>?_
  exact ⟨t,rfl,hw⟩
section
variable {p:Nat} {g:Lg} {s:Sl} {com app:Int} {ds:List DE4} [tk:TakeP p Hs (lgCells s com app) Rest] [te:Take (EntO s ds) Hs Rest2]
include tk te
theorem unlike_spec {e:DE4} {b4:Nat} {Rest3:List HP} [tb:TakeP b4 Hs (.cells [.pointer (some ⟨p,0,none⟩)].toArray 54 (0,0)) Rest3] (hi:LgIn R' g ds) (ok:LgOk g) (hw:Sat R Hs w):
  Gets Tryz.prog 250 #[eVal e,.pointer (some ⟨b4,0,none⟩)] w fun v w'=>v=.bool (g.unlike e.2)∧Sat R Hs w':=by
 apply call250
 refine new_rule hw fun b w hw=>NilP.mk rfl ⟨_,At.own (eqS hw) (by exact ⟨rfl,trivial⟩),e.2.ix,At.own (eqS hw) (by exact ⟨rfl,trivial⟩),?_⟩
 refine (term_spec hi ok e.2.ix hw).use ?_
 clear hw
 rintro _ w ⟨rfl,hw⟩
 unfold Lg.unlike
 refine ⟨_,_,rfl,Br.nb (fun h=>⟨by rw [h];rfl,hw.drop⟩) fun h=>⟨e.2.tm,At.own (eqS hw) (by exact ⟨rfl,trivial⟩),?_,hw.drop⟩⟩
 rw [h,Bool.true_and];rfl
end
def MgQ (R:Cx) (Hs:List HP) (p:Nat) (r:(Int × Int) × Lg) (v:Value) (w:World):Prop:=∃ R',R.Ext R'∧v=.tuple #[.int .i64 r.1.1,.int .i64 r.1.2]∧Sat R' (LgAt R' p r.2::Hs) w
theorem lmerge_spec {A:HP} {p:Nat} {g:Lg} {s':Sl} {es:List DE4} (ok:LgOk g) (i t:Int) (hr:Rdg R A 4 s' (es.map eRow)) (hd:DsR R es) (hl:es.length≤1099511627776) (hcap:s'.len≤s'.cap) (hw:Sat R (LgAt R p g::A::Hs) w):
  Gets Tryz.prog 235 #[.pointer (some ⟨p,0,none⟩),.int .i64 i,.int .i64 t,.slice s'.a s'.len s'.cap] w (MgQ R (A::Hs) p (g.merge i t (erE es))):=by
 obtain ⟨s,ds,hi,hw⟩:=LgAt.iff.1 hw
 apply call235
 refine new_rule hw fun b4 w hw=>?_
 have hw:Sat R (A::pts b4 (.cells [.pointer (some ⟨p,0,none⟩)].toArray 54 (0,0))::pts p (lgCells s g.com g.app)::EntO s ds::Hs) w:=hw.arr
 obtain ⟨M,hM⟩:∃ M,M=g.merge i t (erE es):=⟨_,rfl⟩
 rw [←hM]
 unfold Lg.merge at hM
 have hsl':=hr.len hw
 have no:∀ {w a b},M=((a,b),g)→Sat R (A::pts b4 (.cells [.pointer (some ⟨p,0,none⟩)].toArray 54 (0,0))::pts p (lgCells s g.com g.app)::EntO s ds::Hs) w→MgQ R (A::Hs) p M (.tuple #[.int .i64 a,.int .i64 b]) w:=fun h hw=>by
  rw [h];exact ⟨R,.refl,rfl,LgAt.iff.2 ⟨s,ds,hi,(hw.swap.drop).arr⟩⟩
 refine ⟨fun w=>((erE es).any Rf.oddE=false∧Rf.folE (erE es) i t=true)∧Sat R (A::pts b4 (.cells [.pointer (some ⟨p,0,none⟩)].toArray 54 (0,0))::pts p (lgCells s g.com g.app)::EntO s ds::Hs) w,?_,?_⟩
 ·refine (anyOdd_spec hr (by omega) hd hw).use ?_
  clear hw
  rintro _ w ⟨rfl,hw⟩
  refine ⟨_,rfl,Br.mk (fun h=>no (by rw [hM,if_pos (by rw [h];rfl)]) hw) fun h=>?_⟩
  have hod:∀ e∈es,Rf.oddE e.2=false:=fun e he=>by
   have:=List.any_eq_false.1 h e.2 (List.mem_map_of_mem he)
   simpa using this
  refine (follow_spec hr (by omega) hod _ _ hw).use ?_
  clear hw
  rintro _ w ⟨rfl,hw⟩
  exact ⟨_,rfl,Br.nb (fun h2=>no (by rw [hM,if_pos (by rw [h,h2];rfl)]) hw) fun h2=>⟨⟨h,h2⟩,hw⟩⟩
 clear hw
 rintro _ w ⟨⟨h1,h2⟩,hw⟩
 rw [if_neg (by rw [h1,h2];simp)] at hM
 have hok:=Rf.OkE.of_fol h1 h2
 have hlen:=hi.len
 have hll:=ok.last_le
 have hb0:=ok.b0
 refine ⟨fun x y s1 w=>∃ (es1:List DE4) (y':Int),Rdg R A 4 s1 (es1.map eRow)∧DsR R es1∧es1.length≤1099511627776∧s1.len≤s1.cap∧Rf.OkE (erE es1) x y'∧M=g.mergeAt x y (erE es1)∧Sat R (A::pts b4 (.cells [.pointer (some ⟨p,0,none⟩)].toArray 54 (0,0))::pts p (lgCells s g.com g.app)::EntO s ds::Hs) w,?_,?_⟩
 ·refine ⟨some ⟨p,0,none⟩,At.own (eqS hw) (by exact ⟨rfl,trivial⟩),NilP.mk rfl ⟨s,At.own (eqS hw) (by exact ⟨rfl,trivial⟩),?_⟩⟩
  refine ent_rng hw (eqS hw) (ds:=ds) 0 rfl (by omega) fun a _ el=>?_
  have e0:ds[0].2=g.b:=(hi.get (k:=0) (by omega)).2
  refine ⟨_,_,_,_,el.z (by exact ⟨rfl,rfl,rfl,rfl,trivial⟩),new_rule hw fun b2 w hw=>?_⟩
  refine store_rule hw (by kernel_rfl) rfl (by simp [Value.cells,putL_len]) fun w hw=>?_
  have hw:=hw.re (pts b2 (.cells (eRow ds[0]).toArray 52 (0,0)))
  refine ⟨_,At.own (eqS hw) (by exact ⟨rfl,trivial⟩),?_⟩
  rw [e0]
  refine Br.d (fun h3=>⟨_,At.own (eqS hw) (by exact ⟨rfl,trivial⟩),?_⟩) (fun h3=>⟨es,t,hr,hd,hl,hcap,hok,by rw [hM,if_neg h3],hw.drop⟩)
  rw [e0,wrap64 (by have:=ok.b1;omega) (by have:=ok.b1;omega)]
  rw [if_pos h3,List.length_map] at hM
  refine Br.d (fun h4=>no (by rw [hM,if_pos (by omega)]) hw.drop) (fun h4=>⟨_,At.own (eqS hw) (by exact ⟨rfl,trivial⟩),?_⟩)
  rw [if_neg (by omega)] at hM
  dsimp only at hM
  rw [e0,wrap64 (by have:=ok.b1;omega) (by have:=ok.b1;omega)]
  obtain ⟨k,hk⟩:∃ k:Nat,(g.b.ix - i).toNat=k:=⟨_,rfl⟩
  have hkl:k<es.length:=by omega
  rw [hk] at hM ⊢
  have hsub:=hr.sub (l:=k) (m:=s'.cap) (by rw [List.length_map];omega) (by rw [List.length_map];omega) (s'.cap - k)
  rw [←List.map_drop] at hsub
  refine ⟨by omega,by omega,drw_rule hw fun w hw=>?_⟩
  have hkd:0<(es.drop k).length:=by rw [List.length_drop];omega
  have hw2:Sat R (A::pts b2 (.cells (eRow ds[0]).toArray 52 (0,0))::pts b4 (.cells [.pointer (some ⟨p,0,none⟩)].toArray 54 (0,0))::pts p (lgCells s g.com g.app)::EntO s ds::Hs) w:=hw.swap
  refine hsub.rng .refl hw2 (fun w (h:Sat R (pts b2 (.cells (eRow ds[0]).toArray 52 (0,0))::A::pts b4 (.cells [.pointer (some ⟨p,0,none⟩)].toArray 54 (0,0))::pts p (lgCells s g.com g.app)::EntO s ds::Hs) w)=>h.swap) 0 rfl hkd fun a _ el=>?_
  refine ⟨_,el.f 1 (by exact ⟨rfl,trivial⟩),ds[0].2.tm,At.own selfS (by exact ⟨rfl,trivial⟩),?_⟩
  have e1:((erE es).drop k).getD 0 ⟨0,0,0,[]⟩=(es.drop k)[0].2:=by
   rw [←List.map_drop,List.getD_eq_getElem?_getD,List.getElem?_map,List.getElem?_eq_getElem hkd];rfl
  rw [e1,←e0] at hM
  refine Br.d (fun h5=>no (by rw [hM,if_pos h5]) hw.drop) (fun h5=>drw_rule hw fun w hw=>⟨ds[0].2.ix,At.own selfS (by exact ⟨rfl,trivial⟩),ds[0].2.tm,At.own selfS (by exact ⟨rfl,trivial⟩),es.drop k,(Rf.lastE ⟨i,t,0,[]⟩ ((erE es).take k)).tm,hsub,fun e he=>hd e (List.mem_of_mem_drop he),by rw [List.length_drop];omega,by simp only;omega,?_,?_,hw.drop⟩)
  ·rw [erE,List.map_drop]
   have:=Rf.drop_fol hok (k:=k) (by rw [List.length_map];omega)
   rwa [show i + (k:Int)=ds[0].2.ix by rw [e0];omega] at this
  ·rw [hM,if_neg h5,show erE (es.drop k)=(erE es).drop k from List.map_drop]
 clear hw hM
 rintro _ x y s1 w ⟨es1,y',hr1,hd1,hl1,hcap1,hok1,hM,hw⟩
 have hsl1:=hr1.len hw
 unfold Lg.mergeAt at hM
 refine ⟨fun w=>g.unlike ⟨x,y,0,[]⟩=false∧Sat R (A::pts b4 (.cells [.pointer (some ⟨p,0,none⟩)].toArray 54 (0,0))::pts p (lgCells s g.com g.app)::EntO s ds::Hs) w,?_,?_⟩
 ·refine ⟨_,At.own (eqS hw) (by exact ⟨rfl,trivial⟩),?_⟩
  refine (term_spec hi ok x hw).use ?_
  clear hw
  rintro _ w ⟨rfl,hw⟩
  refine ⟨_,_,rfl,Br.nb (fun h=>no (by rw [hM,if_pos (by unfold Lg.unlike;rw [h];rfl)]) hw) fun h=>Br.ne (fun h2=>no (by rw [hM,if_pos (by unfold Lg.unlike;rw [h];simpa using h2)]) hw) fun h2=>⟨by unfold Lg.unlike;rw [h];simpa using h2,hw⟩⟩
 clear hw
 rintro _ w ⟨hu,hw⟩
 rw [if_neg (by rw [hu];simp)] at hM
 have hlk:=(Rf.Lg.like hu).1
 refine (indexE_spec g.unlike hr1 (by omega) (fun e he w hw=>CalW.mk (by kernel_rfl) ?_) hw).use ?_
 ·refine (unlike_spec (e:=e) (b4:=b4) hi ok hw).use ?_
  rintro _ w ⟨rfl,hw⟩
  exact ⟨rfl,hw⟩
 clear hw
 rintro _ w ⟨rfl,hw⟩
 refine ⟨_,rfl,?_⟩
 cases ho:(erE es1).findIdx? g.unlike with
 |none=>
  rw [ho] at hM
  exact Br.t (by unfold idxV;simp) (no hM hw)
 |some k=>
 rw [ho] at hM
 dsimp only at hM
 obtain ⟨hk1,hk2,hk3⟩:=List.findIdx?_eq_some_iff_getElem.1 ho
 rw [List.length_map] at hk1
 have hix:es1[k].2.ix=x + 1 + k:=by have:=hok1.ix k (by rw [List.length_map];exact hk1);simpa using this
 rw [show ((erE es1).getD k ⟨0,0,0,[]⟩).ix=x + 1 + k by rw [List.getD_eq_getElem?_getD,List.getElem?_map,List.getElem?_eq_getElem hk1,←hix];rfl] at hM
 have hprev:g.has (x + k)=true:=by
  cases k with
  |zero=>simpa using hlk
  |succ k=>
   have:=(Rf.Lg.like (by simpa using hk3 k (by omega)):_).1
   have h2:es1[k].2.ix=x + 1 + k:=by have:=hok1.ix k (by rw [List.length_map];omega);simpa using this
   rw [h2] at this
   refine (congrArg g.has ?_).trans this
   omega
 have hp:=Rf.Lg.has_iff.1 hprev
 unfold Lg.last at hp hll
 unfold idxV
 dsimp only
 refine Br.f (by simp) ?_
 refine hr1.rng .refl hw (fun w h=>eqS hw w h) k rfl hk1 fun a _ el=>⟨es1[k].2.ix,el.zz (by exact ⟨rfl,trivial⟩),some ⟨p,0,none⟩,At.own (eqS hw) (by exact ⟨rfl,trivial⟩),NilP.mk rfl ⟨g.com,At.own (eqS hw) (by exact ⟨rfl,trivial⟩),?_⟩⟩
 rw [hix]
 refine Br.d (fun h=>no (by rw [hM,if_pos h]) hw) fun h=>?_
 rw [if_neg h] at hM
 have hc0:=ok.c0
 refine drw_rule' (Sat R [pts b4 (.cells [.pointer (some ⟨p,0,none⟩)].toArray 54 (0,0)),pts p (lgCells s g.com g.app),VC.tru]) hw (fun w hw=>hw.k2) fun w hw=>⟨some ⟨p,0,none⟩,At.own selfS (by exact ⟨rfl,trivial⟩),some ⟨p,0,none⟩,At.own selfS (by exact ⟨rfl,trivial⟩),NilP.mk rfl ⟨s,At.own selfS (by exact ⟨rfl,trivial⟩),some ⟨p,0,none⟩,At.own selfS (by exact ⟨rfl,trivial⟩),by omega,by omega,?_⟩⟩
 refine (base_spec hi hw).use ?_
 clear hw
 rintro _ w ⟨rfl,hw⟩
 have hw2:Sat R (EntO s ds::A::pts b4 (.cells [.pointer (some ⟨p,0,none⟩)].toArray 54 (0,0))::pts p (lgCells s g.com g.app)::Hs) w:=hw.arr
 have hscap:=OwnN.cap (by omega) hw2
 have hsl:s.len=ds.length:=by have:=OwnN.len hw2;simpa using this
 obtain ⟨m,hm⟩:∃ m:Nat,(x + 1 + k - g.b.ix).toNat=m + 1:=⟨(x + 1 + k - g.b.ix).toNat - 1,by omega⟩
 refine ⟨g.b.ix,rfl,hw.k2,?_⟩
 rw [wrap64 (by omega) (by omega),hm]
 refine ⟨by omega,by omega,?_⟩
 clear hw
 obtain ⟨R2,e2,hro,hw⟩:=OwnN.leak hw2
 have hro2:=hro.take (h:=m + 1) (by rw [List.length_map];omega) s.cap
 rw [←List.map_take] at hro2
 refine (clonE_spec hro2 (by rw [List.length_take];omega) hw).use ?_
 clear hw hw2
 rintro _ w ⟨c,rfl,hw⟩
 have hs1:Rdg R2 A 4 ⟨cutA s1.a k s1.cap 4,s1.len - k,s1.cap - k⟩ ((es1.drop k).map eRow):=by
  have:=(hr1.ext e2).sub (l:=k) (m:=s1.cap) (by rw [List.length_map];omega) (by rw [List.length_map];omega) (s1.cap - k)
  rwa [←List.map_drop] at this
 have hbd:∀ e∈es1.drop k,e.2.dt.length≤1099511627776:=fun e he=>by
  have:=Rf.oddE_no (hok1.no e.2 (List.mem_map_of_mem (List.mem_of_mem_drop he)));omega
 refine ⟨c,rfl,(e2.back hw).k2,?_⟩
 refine (copied_spec hs1 ((hd1.ext e2).drop k) (by rw [List.length_drop];omega) hbd (hw.swap)).use ?_
 clear hw
 rintro _ w ⟨R3,t3,ds3,e3,hd3,he3,rfl,hw⟩
 refine ⟨t3,rfl,((e2.trans e3).back hw).k2,?_⟩
 have hw:Sat R3 (EntO c (ds.take (m + 1))::EntO t3 ds3::A::pts b4 (.cells [.pointer (some ⟨p,0,none⟩)].toArray 54 (0,0))::pts p (lgCells s g.com g.app)::Hs) w:=hw.arr
 have hl3:ds3.length=es1.length - k:=by have:=congrArg List.length he3;simpa using this
 have htop:x + (es1.length:Int)≤1099511627776:=by
  have:=Rf.OkE.top (b:=⟨x,y',0,[]⟩) hok1 (by show x≤_;omega)
  rwa [List.length_map] at this
 refine appendEE hw (by rw [List.length_take];omega) fun u w hw=>⟨((e2.trans e3).back hw).k2,NilP.mk rfl ?_⟩
 refine store_rule hw (by kernel_rfl) rfl (by simp [Value.cells,putL_len]) fun w hw=>?_
 have hw:=hw.re (pts p (lgCells u g.com g.app))
 rw [hM]
 refine ⟨R3,e2.trans e3,rfl,LgAt.iff.2 ⟨u,ds.take (m + 1)++ds3,⟨?_,((hi.d.ext (e2.trans e3)).take _).app hd3⟩,?_⟩⟩
 ·simp only [erE,List.map_append,List.map_take] at he3 ⊢
  rw [he3,show ds.map (·.2)=g.all from hi.e,show (x + 1 + (k:Int) - g.b.ix - 1).toNat=m by omega,List.map_drop];rfl
 ·have h:Sat R3 (EntO t3 ds3::pts b4 (.cells [.pointer (some ⟨p,0,none⟩)].toArray 54 (0,0))::pts p (lgCells u g.com g.app)::EntO u (ds.take (m + 1)++ds3)::A::Hs) w:=hw.arr
  exact h.drop.drop
theorem lcompact_spec {p:Nat} {g:Lg} (ok:LgOk g) (i:Int) (hw:Sat R (LgAt R p g::Hs) w):
  Gets Tryz.prog 153 #[.pointer (some ⟨p,0,none⟩),.int .i64 i] w fun v w'=>v=.int .i64 (g.compact i).1∧∃ R',R.Ext R'∧Sat R' (LgAt R' p (g.compact i).2::Hs) w':=by
 obtain ⟨s,ds,hi,hw⟩:=LgAt.iff.1 hw
 apply call153
 have no:∀ {w},(i<g.b.ix∨i>g.app)→Sat R (pts p (lgCells s g.com g.app)::EntO s ds::Hs) w→(.int .i64 7:Value)=.int .i64 (g.compact i).1∧∃ R',R.Ext R'∧Sat R' (LgAt R' p (g.compact i).2::Hs) w:=fun h hw=>by
  unfold Lg.compact
  rw [if_pos h]
  exact ⟨rfl,R,.refl,LgAt.iff.2 ⟨s,ds,hi,hw⟩⟩
 refine ⟨fun w=>¬ (i<g.b.ix∨i>g.app)∧Sat R (pts p (lgCells s g.com g.app)::EntO s ds::Hs) w,?_,?_⟩
 ·refine (base_spec hi hw).use ?_
  clear hw
  rintro _ w ⟨rfl,hw⟩
  exact ⟨_,rfl,Br.d (fun h=>no (.inl h) hw) fun h=>NilP.mk rfl ⟨_,At.own (eqS hw) (by exact ⟨rfl,trivial⟩),Br.d (fun h2=>no (.inr h2) hw) fun h2=>⟨by omega,hw⟩⟩⟩
 clear hw
 rintro _ w ⟨hc,hw⟩
 have hlen:=hi.len
 have hll:=ok.last_le
 have hb0:=ok.b0
 have hc1:=ok.c1
 have ha1:=ok.a1
 have hh:g.has i=true:=Rf.Lg.has_iff.2 (by omega)
 unfold Lg.last at hll hc1
 refine (from_spec hi ok hh hw).use ?_
 clear hw
 rintro _ w ⟨rfl,hw⟩
 obtain ⟨k,hk,hkd,hat⟩:∃ k:Nat,(i - g.b.ix).toNat=k∧∃ h:k<ds.length,ds[k].2=g.at i:=⟨_,rfl,hi.at hh⟩
 rw [hk]
 refine ⟨⟨cutA s.a k s.cap 4,s.len - k,s.cap - k⟩,rfl,?_⟩
 have hw2:Sat R (EntO s ds::pts p (lgCells s g.com g.app)::Hs) w:=hw.swap
 have hscap:=OwnN.cap (by omega) hw2
 have hsl:s.len=ds.length:=by have:=OwnN.len hw2;simpa using this
 clear hw
 obtain ⟨R2,e2,hro,hw⟩:=OwnN.leak hw2
 have hro2:=hro.sub (l:=k) (h:=s.len) (m:=s.cap) (by omega) (by rw [List.length_map];omega) (by omega)
 rw [←List.map_take,←List.map_drop,List.take_of_length_le (by omega)] at hro2
 refine (clonE_spec hro2 (by rw [List.length_drop];omega) hw).use ?_
 clear hw hw2
 rintro _ w ⟨c,rfl,hw⟩
 refine ⟨c,rfl,NilP.mk rfl ?_⟩
 refine store_rule hw (by kernel_rfl) rfl (by simp [Value.cells,putL_len]) fun w hw=>?_
 have hw:=hw.re (pts p (lgCells c g.com g.app))
 have hw:Sat R2 (pts p (lgCells c g.com g.app)::EntO c (ds.drop k)::Hs) w:=hw
 have hkl:0<(ds.drop k).length:=by rw [List.length_drop];omega
 refine NilP.mk rfl ⟨c,At.own (eqS hw) (by exact ⟨rfl,trivial⟩),?_⟩
 refine (OwnN.readsM (T:=52) (n:=4) (s:=c) (rows:=(ds.drop k).map eRow) hw (eqS hw)).rngI (g:=eRow) 0 rfl hkl fun a ha _=>?_
 have e0:(ds.drop k)[0]=ds[k]:=by simp
 refine OwnN.storeM (n:=4) (s:=c) (T:=52) (E:=ds.drop k) (g:=eRow) 3 (⟨none,0,0⟩,{ ds[k].2 with dt:=[] }) hw ha hkl (by kernel_rfl) rfl (by simp [Value.cells]) (by rw [e0];rfl) fun w hw=>?_
 have hcs:(ds.drop k).set 0 (⟨none,0,0⟩,{ ds[k].2 with dt:=[] })=(⟨none,0,0⟩,{ ds[k].2 with dt:=[] })::ds.drop (k + 1):=by
  rw [List.drop_eq_getElem_cons hkd];rfl
 rw [hcs] at hw
 unfold Lg.compact
 rw [if_neg hc]
 refine ⟨rfl,R2,e2,LgAt.iff.2 ⟨c,_,⟨?_,fun x hx=>?_⟩,hw.swap⟩⟩
 ·show { ds[k].2 with dt:=[] }::(ds.drop (k + 1)).map (·.2)={ g.at i with dt:=[] }::g.l.drop (i - g.b.ix).toNat
  refine congr (congrArg List.cons (congrArg (fun z:Ey=>{ z with dt:=[] }) hat)) ?_
  rw [hk,List.map_drop,show ds.map (·.2)=g.all from hi.e];rfl
 ·rcases List.mem_cons.1 hx with rfl|hx
  ·exact ⟨rfl,Nat.le_refl _,fun h=>absurd rfl h⟩
  ·exact e2.slR (hi.d x (List.mem_of_mem_drop hx))
theorem lreset_spec {p:Nat} {g:Lg} (i t:Int) (hw:Sat R (LgAt R p g::Hs) w):
  Gets Tryz.prog 237 #[.pointer (some ⟨p,0,none⟩),.int .i64 i,.int .i64 t] w fun v w'=>v=.int .i64 (g.reset i t).1∧Sat R (LgAt R p (g.reset i t).2::Hs) w':=by
 apply call237
 unfold Lg.reset
 refine (lnew_spec i t hw).use ?_
 clear hw
 rintro _ w (⟨h,q,rfl,hw⟩|⟨h,rfl,hw⟩)
 ·rw [if_neg (by rw [h];simp)]
  obtain ⟨s,ds,hi,hw⟩:=LgAt.iff.1 hw.swap
  refine ⟨_,_,rfl,Br.f rfl (NilP.mk rfl ⟨_,At.own (eqS hw) (by exact ⟨rfl,trivial⟩),Br.d (fun h2=>?_) (fun h2=>?_)⟩)⟩
  ·rw [if_pos h2]
   exact ⟨rfl,LgAt.iff.2 ⟨s,ds,hi,(hw.take (LgAt R q (Lg.new i t))).drop⟩⟩
  ·rw [if_neg h2]
   have hw:Sat R (LgAt R q (Lg.new i t)::pts p (lgCells s g.com g.app)::EntO s ds::Hs) w:=hw.arr
   obtain ⟨s2,ds2,hi2,hw⟩:=LgAt.iff.1 hw
   refine NilP.mk rfl ⟨s2,_,_,At.own (eqS hw) (by exact ⟨rfl,rfl,rfl,trivial⟩),NilP.mk rfl ?_⟩
   refine store_rule hw (by kernel_rfl) rfl (by simp [Value.cells,putL_len]) fun w hw=>?_
   have hw:=hw.re (pts p (lgCells s2 (Lg.new i t).com (Lg.new i t).app))
   have hw:Sat R (EntO s ds::pts q (lgCells s2 (Lg.new i t).com (Lg.new i t).app)::pts p (lgCells s2 (Lg.new i t).com (Lg.new i t).app)::EntO s2 ds2::Hs) w:=hw.arr
   exact ⟨rfl,LgAt.iff.2 ⟨s2,ds2,hi2,hw.drop.drop⟩⟩
 ·rw [if_pos (by rw [h];rfl)]
  exact ⟨none,1,rfl,Br.t rfl ⟨rfl,hw⟩⟩
theorem lback_spec {p:Nat} {g:Lg} (ok:LgOk g) (i t:Int) (hw:Sat R (LgAt R p g::Hs) w):
  Gets Tryz.prog 236 #[.pointer (some ⟨p,0,none⟩),.int .i64 i,.int .i64 t] w fun v w'=>v=.int .i64 (g.back i t)∧Sat R (LgAt R p g::Hs) w':=by
 obtain ⟨s,ds,hi,hw⟩:=LgAt.iff.1 hw
 apply call236
 have hll:=ok.last_le
 have hb0:=ok.b0
 refine (last_spec hi ok hw).use ?_
 clear hw
 rintro _ w ⟨rfl,hw⟩
 unfold Lg.back
 obtain ⟨k0,hk0⟩:∃ k0,k0=min i g.last:=⟨_,rfl⟩
 have e0:(if g.last<i then g.last else i)=k0:=by rw [hk0];split<;>omega
 rw [←hk0]
 refine ⟨g.last,rfl,?_⟩
 rw [e0]
 refine ⟨fun k w=>(k≤g.last∧g.backF t (k0 - g.b.ix).toNat k0=g.backF t (k - g.b.ix).toNat k)∧Sat R (pts p (lgCells s g.com g.app)::EntO s ds::Hs) w,fun k _=>(k - g.b.ix).toNat,⟨⟨by omega,rfl⟩,hw⟩,?_⟩
 clear hw
 rintro _ k w ⟨⟨hkl,he⟩,hw⟩
 rw [he]
 refine (base_spec hi hw).use ?_
 clear hw
 rintro _ w ⟨rfl,hw⟩
 refine ⟨_,rfl,Br.d (fun h=>?_) (fun h=>?_)⟩
 ·obtain ⟨m,hm⟩:∃ m:Nat,(k - g.b.ix).toNat=m + 1:=⟨(k - g.b.ix).toNat - 1,by omega⟩
  refine (term_spec hi ok k hw).use ?_
  clear hw
  rintro _ w ⟨rfl,hw⟩
  have hb:g.backF t (m + 1) k=(if (g.term k).1≤t then k else g.backF t m (k - 1)):=by
   show (if k>g.b.ix then _ else _)=_
   rw [if_pos h]
  rw [hm,hb]
  refine ⟨_,_,rfl,Br.d (fun h2=>⟨by rw [if_pos h2],LgAt.iff.2 ⟨s,ds,hi,hw⟩⟩) fun h2=>⟨⟨⟨?_,?_⟩,hw⟩,?_⟩⟩
  ·rw [wrap64 (by omega) (by omega)];omega
  ·rw [wrap64 (by omega) (by omega),if_neg h2,show (k - 1 - g.b.ix).toNat=m by omega]
  ·rw [wrap64 (by omega) (by omega)];dsimp only;omega
 ·refine (base_spec hi hw).use ?_
  clear hw
  rintro _ w ⟨rfl,hw⟩
  refine ⟨_,rfl,?_,LgAt.iff.2 ⟨s,ds,hi,hw⟩⟩
  rw [show (k - g.b.ix).toNat=0 by omega];rfl
end Go.Proofs.YthpmfnffkjjlnaaGreat
/- Elections, plain: what a node does. No condition. -/
namespace Go.Proofs.YthpmfnffkjjlnaaGreat
set_option linter.unusedVariables false
set_option linter.unusedSimpArgs false
open Go Go.VC
structure Hd where
 tm:Int
 vt:Int
structure Gp where
 vs:List Int
 ls:List Int
structure Bl where
 kd:Int
 fr:Int
 to':Int
 tm:Int
 ix:Int
 lt:Int
 yes:Bool
structure Eln where
 id:Int
 pat:Int
 hd:Hd
 g:Gp
 role:Int
 lead:Int
 wait:Int
 lim:Int
 yes:List Int
 no:List Int
def rightN (n lo hi:Int):Bool:=decide (lo≤n∧n≤hi)
def elOk (id:Int) (h:Hd) (g:Gp) (pat:Int):Bool:=rightN id 1 15 && rightN h.tm 0 1099511627776 && rightN h.vt 0 15 && rightN pat 1 1000 && rightG g.vs g.ls
def Eln.new (id:Int) (h:Hd) (g:Gp) (pat:Int):Eln:=⟨id,pat,h,g,0,0,0,pat,[],[]⟩
def Eln.other (e:Eln) (n:Int):Bool:=decide (1≤n∧n≤15) && n !=e.id
def Eln.down (e:Eln) (t:Int):Eln:={ e with hd:=⟨t,0⟩,role:=0,lead:=0,yes:=[],no:=[] }
def Eln.heardOk (e:Eln) (fr t:Int):Bool:=e.other fr && !decide (t<e.hd.tm) && !decide (t>1099511627776) && !(t==e.hd.tm && e.role==3)
def Eln.heard (e:Eln) (fr t:Int):Eln:=if e.heardOk fr t then { (if t>e.hd.tm then e.down t else e) with role:=0,lead:=fr,wait:=0 } else e
def Eln.join (e:Eln) (g:Gp):Eln:=if rightG g.vs g.ls then { e with g:=g } else e
def Eln.wins (e:Eln):Bool:=winsG e.g.vs e.g.ls e.yes
def Eln.lost (e:Eln):Bool:=lostG e.g.vs e.g.ls e.no
def Eln.alone (e:Eln) (role:Int):Eln:={ e with role:=role,yes:=[e.id],no:=[] }
def Eln.all (e:Eln) (kd t last lt:Int):List Bl:=(e.g.vs.filter fun v=>v !=e.id).map fun v=>⟨kd,e.id,v,t,last,lt,false⟩
def Eln.lead' (e:Eln):Eln:={ e with role:=3,lead:=e.id }
def Eln.run (e:Eln) (last lt:Int):List Bl × Eln:=
 if e.hd.tm ≥ 1099511627776 then ([],{ e with role:=0 })
 else let e1:=Eln.alone { e with hd:=⟨e.hd.tm + 1,e.id⟩ } 2
  if e1.wins then ([],e1.lead') else (e1.all 3 e1.hd.tm last lt,e1)
def Eln.hope (e:Eln) (draw:Int):Eln:=Eln.alone { e with wait:=0,lim:=e.pat + (if 0>draw then 0 else draw).tmod e.pat,lead:=0 } 1
def Eln.tick (e:Eln) (draw last lt:Int):List Bl × Eln:=
 if e.role==3 then ([],e)
 else let e0:={ e with wait:=e.wait + 1 }
  if e0.wait<e0.lim∨hasL e.g.vs e.id=false then ([],e0)
  else if (e.hope draw).wins then (e.hope draw).run last lt else ((e.hope draw).all 1 (e.hd.tm + 1) last lt,e.hope draw)
def Eln.says (e:Eln) (fr:Int) (yes:Bool):Eln:=
 if hasL e.yes fr||hasL e.no fr then e else if yes then { e with yes:=e.yes++[fr] } else { e with no:=e.no++[fr] }
def Eln.outc (e:Eln):Int:=if e.wins then 1 else if e.lost then 2 else 0
def Eln.counted (e:Eln) (o last lt:Int):List Bl × Eln:=
 if o==2 then ([],{ e with role:=0 }) else if o==1 && e.role==1 then e.run last lt else if o==1 then ([],e.lead') else ([],e)
def Eln.mayVote (e:Eln) (b:Bl) (old:Bool):Bool:=!(b.tm !=e.hd.tm) && !(e.hd.vt !=0 && e.hd.vt !=b.fr) && old
def Eln.vote (e:Eln) (b:Bl) (old:Bool):Eln:=if e.mayVote b old then { e with hd:=⟨e.hd.tm,b.fr⟩,wait:=0,role:=if e.role==1 then 0 else e.role } else e
def Eln.takeOk (e:Eln) (b:Bl):Bool:=!(b.to' !=e.id) && e.other b.fr && !decide (b.tm<0) && !decide (b.tm>1099511627776)
def oldB (b:Bl) (last lt:Int):Bool:=decide (b.lt>lt)||(b.lt==lt && decide (b.ix ≥ last))
def Eln.ans (e:Eln) (b:Bl) (kd t:Int) (yes:Bool):List Bl:=[⟨kd,e.id,b.fr,t,0,0,yes⟩]
def Eln.take (e:Eln) (b:Bl) (last lt:Int):List Bl × Eln:=
 if e.takeOk b then
  (let above:=decide (b.tm>e.hd.tm)
  let old:=oldB b last lt
  if b.kd==1 then
   (if above && old && (e.lead==0||decide (e.wait ≥ e.pat)) then (e.ans b 2 b.tm true,e) else (e.ans b 2 e.hd.tm false,e))
  else if b.kd==3 then
   (let e1:=if above then e.down b.tm else e
   (e1.ans b 4 e1.hd.tm (e1.mayVote b old),e1.vote b old))
  else if b.kd==2 then
   (if above && !b.yes then ([],e.down b.tm)
   else if e.role==1 && (!b.yes||b.tm==e.hd.tm + 1) then (e.says b.fr b.yes).counted (e.says b.fr b.yes).outc last lt
   else ([],e))
  else if b.kd==4 then
   (if above then ([],e.down b.tm)
   else if e.role==2 && b.tm==e.hd.tm then ([],((e.says b.fr b.yes).counted (e.says b.fr b.yes).outc last lt).2)
   else ([],e))
  else ([],e))
 else ([],e)
structure ElnOk (e:Eln):Prop where
 id0:1≤e.id
 id1:e.id≤15
 p0:1≤e.pat
 p1:e.pat≤1000
 t0:0≤e.hd.tm
 t1:e.hd.tm≤1099511627776
 v0:0≤e.hd.vt
 v1:e.hd.vt≤15
 g:rightG e.g.vs e.g.ls=true
 w0:0≤e.wait
 nd:(e.yes++e.no).Nodup
 rg:∀ x∈e.yes++e.no,1≤x∧x≤15
theorem nodup15 {l:List Int} (h:l.Nodup) (hr:∀ x∈l,1≤x∧x≤15):l.length≤15:=by
 refine h.length_le_of_subset (l₂:=[1,2,3,4,5,6,7,8,9,10,11,12,13,14,15]) fun x hx=>?_
 have:=hr x hx
 simp only [List.mem_cons,List.not_mem_nil,or_false]
 omega
theorem ElnOk.len {e:Eln} (h:ElnOk e):e.yes.length≤15∧e.no.length≤15:=by
 have:=nodup15 h.nd h.rg
 rw [List.length_append] at this
 omega
theorem Eln.other_bd {e:Eln} {n:Int} (h:e.other n=true):1≤n∧n≤15∧n≠e.id:=by
 unfold Eln.other at h
 simp only [Bool.and_eq_true,decide_eq_true_eq,bne_iff_ne,ne_eq] at h
 exact ⟨h.1.1,h.1.2,h.2⟩
theorem ElnOk.down {e:Eln} (h:ElnOk e) {t:Int} (h0:0≤t) (h1:t≤1099511627776):ElnOk (e.down t):={ h with t0:=h0,t1:=h1,v0:=Int.le_refl _,v1:=by show (0:Int)≤15;omega,nd:=by simp [Eln.down],rg:=by simp [Eln.down] }
theorem ElnOk.alone {e:Eln} (h:ElnOk e) (r:Int):ElnOk (e.alone r):={ h with nd:=by simp [Eln.alone],rg:=by simp [Eln.alone];exact ⟨h.id0,h.id1⟩ }
theorem ElnOk.lead' {e:Eln} (h:ElnOk e):ElnOk e.lead':={ h with }
theorem ElnOk.role {e:Eln} (h:ElnOk e) (r:Int):ElnOk { e with role:=r }:={ h with }
theorem ElnOk.join {e:Eln} (h:ElnOk e) (g:Gp):ElnOk (e.join g):=by
 unfold Eln.join
 split
 ·rename_i hg;exact { h with g:=hg }
 ·exact h
theorem ElnOk.run {e:Eln} (h:ElnOk e) (last lt:Int):ElnOk (e.run last lt).2:=by
 unfold Eln.run
 split
 ·exact h.role 0
 ·have h2:ElnOk (Eln.alone { e with hd:=⟨e.hd.tm + 1,e.id⟩ } 2):=by
   have h3:ElnOk { e with hd:=⟨e.hd.tm + 1,e.id⟩ }:={ h with t0:=by show 0≤e.hd.tm + 1;have:=h.t0;omega,t1:=by show e.hd.tm + 1≤_;omega,v0:=by show 0≤e.id;have:=h.id0;omega,v1:=h.id1 }
   exact h3.alone 2
  dsimp only
  split
  ·exact h2.lead'
  ·exact h2
theorem ElnOk.tick {e:Eln} (h:ElnOk e) (d last lt:Int):ElnOk (e.tick d last lt).2:=by
 unfold Eln.tick
 split
 ·exact h
 ·dsimp only
  split
  ·exact { h with w0:=by show 0≤e.wait + 1;have:=h.w0;omega }
  ·have h2:ElnOk (e.hope d):=by
    have h3:ElnOk { e with wait:=0,lim:=e.pat + (if 0>d then 0 else d).tmod e.pat,lead:=0 }:={ h with w0:=Int.le_refl _ }
    exact h3.alone 1
   split
   ·exact h2.run _ _
   ·exact h2
theorem ElnOk.says {e:Eln} (h:ElnOk e) {fr:Int} (h0:1≤fr) (h1:fr≤15) (y:Bool):ElnOk (e.says fr y):=by
 unfold Eln.says
 split
 ·exact h
 ·rename_i hn
  have hy:fr ∉ e.yes:=fun hh=>hn (by rw [hasL_mem.2 hh];rfl)
  have hn':fr ∉ e.no:=fun hh=>hn (by rw [hasL_mem.2 hh,Bool.or_true])
  have nd:=h.nd
  rw [List.nodup_append] at nd
  have hx:∀ x,x∈e.yes∨x∈e.no→1≤x∧x≤15:=fun x hx=>h.rg x (List.mem_append.2 hx)
  split
  ·refine { h with nd:=?_,rg:=fun x hx'=>?_ }
   ·show ((e.yes++[fr])++e.no).Nodup
    rw [List.nodup_append,List.nodup_append]
    refine ⟨⟨nd.1,by simp,fun a ha b hb=>?_⟩,nd.2.1,fun a ha b hb=>?_⟩
    ·simp at hb;subst hb;exact fun e=>hy (e ▸ ha)
    ·rcases List.mem_append.1 ha with ha|ha
     ·exact nd.2.2 a ha b hb
     ·simp at ha;subst ha;exact fun e=>hn' (e ▸ hb)
   ·rcases List.mem_append.1 hx' with hx'|hx'
    ·rcases List.mem_append.1 hx' with hx'|hx'
     ·exact hx x (.inl hx')
     ·simp at hx';subst hx';exact ⟨h0,h1⟩
    ·exact hx x (.inr hx')
  ·refine { h with nd:=?_,rg:=fun x hx'=>?_ }
   ·show (e.yes++(e.no++[fr])).Nodup
    rw [←List.append_assoc,List.nodup_append]
    refine ⟨h.nd,by simp,fun a ha b hb=>?_⟩
    simp at hb;subst hb
    rcases List.mem_append.1 ha with ha|ha
    ·exact fun e=>hy (e ▸ ha)
    ·exact fun e=>hn' (e ▸ ha)
   ·rw [←List.append_assoc] at hx'
    rcases List.mem_append.1 hx' with hx'|hx'
    ·exact h.rg x hx'
    ·simp at hx';subst hx';exact ⟨h0,h1⟩
theorem ElnOk.counted {e:Eln} (h:ElnOk e) (o last lt:Int):ElnOk (e.counted o last lt).2:=by
 unfold Eln.counted
 split
 ·exact h.role 0
 ·split
  ·exact h.run _ _
  ·split
   ·exact h.lead'
   ·exact h
theorem ElnOk.heard {e:Eln} (h:ElnOk e) (fr t:Int):ElnOk (e.heard fr t):=by
 unfold Eln.heard
 split
 ·rename_i hh
  unfold Eln.heardOk at hh
  simp only [Bool.and_eq_true,Bool.not_eq_true',decide_eq_false_iff_not] at hh
  have h0:=h.t0
  have h2:ElnOk (if t>e.hd.tm then e.down t else e):=by
   split
   ·exact h.down (by omega) (by omega)
   ·exact h
  exact { h2 with w0:=Int.le_refl _ }
 ·exact h
theorem ElnOk.vote {e:Eln} (h:ElnOk e) {b:Bl} (h0:0≤b.fr) (h1:b.fr≤15) (old:Bool):ElnOk (e.vote b old):=by
 unfold Eln.vote
 split
 ·exact { h with v0:=h0,v1:=h1,w0:=Int.le_refl _ }
 ·exact h
theorem ElnOk.take {e:Eln} (h:ElnOk e) (b:Bl) (last lt:Int):ElnOk (e.take b last lt).2:=by
 unfold Eln.take
 split
 ·rename_i hh
  unfold Eln.takeOk at hh
  simp only [Bool.and_eq_true,Bool.not_eq_true',decide_eq_false_iff_not] at hh
  have ho:=Eln.other_bd hh.1.1.2
  have hd:ElnOk (e.down b.tm):=h.down (by omega) (by omega)
  have hs:=h.says ho.1 ho.2.1 b.yes
  dsimp only
  split
  ·split<;>exact h
  ·split
   ·refine ElnOk.vote ?_ (by omega) ho.2.1 _
    split
    ·exact hd
    ·exact h
   ·split
    ·split
     ·exact hd
     ·split
      ·exact hs.counted _ _ _
      ·exact h
    ·split
     ·split
      ·exact hd
      ·split
       ·exact hs.counted _ _ _
       ·exact h
     ·exact h
 ·exact h
end Go.Proofs.YthpmfnffkjjlnaaGreat
/- The formulas of functions of this seat's translation, printed by a program of mine off the translation; each is proved equal to 'fnF' of the function's body, so it is enough for the call. No condition. -/
namespace Go.Proofs.YthpmfnffkjjlnaaGreat
open Go Go.VC
set_option linter.unusedVariables false
set_option maxRecDepth 10000
def B32 (q:Int) (L:Int) (M:Int) (j:Sl) (k:Sl) (l:Int) (K:Value→World→Prop) (w:World):Prop:=
 New (.cells #[.int .i64 L,.int .i64 M] 29 (0,0)) (fun i N=>
 New (.cells #[.slice j.a j.len j.cap,.slice k.a k.len k.cap] 32 (0,0)) (fun p O=>
 Calls Tryz.prog 82 #[.int .i64 q,.int .i64 1,.int .i64 15] O fun F m=>
 ∃ r:Bool,(F=.returned (.bool r))∧
 Br (!r)
 (K (.tuple #[.pointer none,.int .i64 1]) m)
 (∃ s:Int,(At (fun b=>b=m) ⟨i,0,none⟩ [.int .i64 s])∧
 Calls Tryz.prog 82 #[.int .i64 s,.int .i64 0,.int .i64 1099511627776] m fun G n=>
 ∃ t:Bool,(G=.returned (.bool t))∧
 Br (!t)
 (K (.tuple #[.pointer none,.int .i64 1]) n)
 (∃ u:Int,(At (fun b=>b=n) ⟨i,0 + 1,none⟩ [.int .i64 u])∧
 Calls Tryz.prog 82 #[.int .i64 u,.int .i64 0,.int .i64 15] n fun H C=>
 ∃ v:Bool,(H=.returned (.bool v))∧
 Br (!v)
 (K (.tuple #[.pointer none,.int .i64 1]) C)
 (Calls Tryz.prog 82 #[.int .i64 l,.int .i64 1,.int .i64 1000] C fun I o=>
 ∃ x:Bool,(I=.returned (.bool x))∧
 Br (!x)
 (K (.tuple #[.pointer none,.int .i64 1]) o)
 (∃ c:Sl,∃ d:Sl,(At (fun b=>b=o) ⟨p,0,none⟩ [.slice c.a c.len c.cap,.slice d.a d.len d.cap])∧
 Calls Tryz.prog 81 #[.agg #[.slice c.a c.len c.cap,.slice d.a d.len d.cap]] o fun J g=>
 ∃ y:Bool,(J=.returned (.bool y))∧
 Br (!y)
 (K (.tuple #[.pointer none,.int .i64 1]) g)
 (∃ z:Int,∃ A:Int,(At (fun b=>b=g) ⟨i,0,none⟩ [.int .i64 z,.int .i64 A])∧
 ∃ e:Sl,∃ f:Sl,(At (fun b=>b=g) ⟨p,0,none⟩ [.slice e.a e.len e.cap,.slice f.a f.len f.cap])∧
 New (.map #[] 0) (fun D Q=>
 New (.cells #[.int .i64 q,.int .i64 l,.int .i64 z,.int .i64 A,.slice e.a e.len e.cap,.slice f.a f.len f.cap,.int .i64 0,.int .i64 0,.int .i64 0,.int .i64 l,.map ((some D))] 115 (0,0)) (fun E T=>
 K (.tuple #[.pointer ((some ⟨E,0,none⟩)),.int .i64 0]) T) Q) g)))))) N) w
theorem call32 (f:Int) (d:Int) (e:Int) (b:Sl) (c:Sl) (g:Int) (K:Value→World→Prop) (w:World) (h:B32 f d e b c g K w):Gets Tryz.prog 32 #[.int .i64 f,.agg #[.int .i64 d,.int .i64 e],.agg #[.slice b.a b.len b.cap,.slice c.a c.len c.cap],.int .i64 g] w K:=cq (sk:=.leaf) Tryz.func32 (by kernel_rfl) (by kernel_rfl) (by kernel_rfl) h
def B82 (a:Int) (c:Int) (b:Int) (K:Value→World→Prop) (w:World):Prop:=
 Br (decide (a ≥ c))
 (K (.bool (decide (a≤b))) w)
 (K (.bool false) w)
theorem call82 (c:Int) (b:Int) (a:Int) (K:Value→World→Prop) (w:World) (h:B82 c b a K w):Gets Tryz.prog 82 #[.int .i64 c,.int .i64 b,.int .i64 a] w K:=cq (sk:=.leaf) Tryz.func82 (by kernel_rfl) (by kernel_rfl) (by kernel_rfl) h
def B16 (c:Option Addr) (K:Value→World→Prop) (w:World):Prop:=
 NilP c fun a=>
 ∃ b:Int,(At (fun d=>d=w) ⟨a.block,a.off + 6,none⟩ [.int .i64 b])∧
 K (.int .i64 b) w
theorem call16 (a:Option Addr) (K:Value→World→Prop) (w:World) (h:B16 a K w):Gets Tryz.prog 16 #[.pointer a] w K:=cq (sk:=.leaf) Tryz.func16 (by kernel_rfl) (by kernel_rfl) (by kernel_rfl) h
def B23 (k:Option Addr) (K:Value→World→Prop) (w:World):Prop:=
 New (.cells #[.int .i64 0,.int .i64 0] 29 (0,0)) (fun d j=>
 NilP k fun c=>
 ∃ e:Int,∃ f:Int,(At (fun a=>a=j) ⟨c.block,c.off + 2,none⟩ [.int .i64 e,.int .i64 f])∧
 ∃ b:World,((Instr.storeAt 29 (.pointer ((some ⟨d,0,none⟩))) (.agg #[.int .i64 e,.int .i64 f])).run Tryz.prog j=.ok () b)∧
 ∃ g:Int,∃ i:Int,(At (fun a=>a=b) ⟨d,0,none⟩ [.int .i64 g,.int .i64 i])∧
 K (.agg #[.int .i64 g,.int .i64 i]) b) w
theorem call23 (a:Option Addr) (K:Value→World→Prop) (w:World) (h:B23 a K w):Gets Tryz.prog 23 #[.pointer a] w K:=cq (sk:=.leaf) Tryz.func23 (by kernel_rfl) (by kernel_rfl) (by kernel_rfl) h
def B90 (q:Option Addr) (f:Sl) (g:Sl) (K:Value→World→Prop) (w:World):Prop:=
 New (.cells #[.slice f.a f.len f.cap,.slice g.a g.len g.cap] 32 (0,0)) (fun l n=>
 ∃ b:Sl,∃ c:Sl,(At (fun i=>i=n) ⟨l,0,none⟩ [.slice b.a b.len b.cap,.slice c.a c.len c.cap])∧
 Calls Tryz.prog 81 #[.agg #[.slice b.a b.len b.cap,.slice c.a c.len c.cap]] n fun p j=>
 ∃ m:Bool,(p=.returned (.bool m))∧
 Br (!m)
 (K (.int .i64 1) j)
 (∃ d:Sl,∃ e:Sl,(At (fun i=>i=j) ⟨l,0,none⟩ [.slice d.a d.len d.cap,.slice e.a e.len e.cap])∧
 NilP q fun k=>
 ∃ o:World,((Instr.storeAt 32 (.pointer ((some ⟨k.block,k.off + 4,none⟩))) (.agg #[.slice d.a d.len d.cap,.slice e.a e.len e.cap])).run Tryz.prog j=.ok () o)∧
 K (.int .i64 0) o)) w
theorem call90 (d:Option Addr) (b:Sl) (c:Sl) (K:Value→World→Prop) (w:World) (h:B90 d b c K w):Gets Tryz.prog 90 #[.pointer d,.agg #[.slice b.a b.len b.cap,.slice c.a c.len c.cap]] w K:=cq (sk:=.leaf) Tryz.func90 (by kernel_rfl) (by kernel_rfl) (by kernel_rfl) h
def B96 (e:Option Addr) (z:Int) (K:Value→World→Prop) (w:World):Prop:=
 New (.map #[] 0) (fun m q=>
 NilP e fun v=>
 ∃ n:Int,(At (fun f=>f=q) (Addr.add v 0) [.int .i64 n])∧
 New (.cells #[.int .i64 n] 3 (0,0)) (fun x A=>
 ∃ r:World,((Instr.mapUpdate 113 (.map ((some m))) (.bool true) (.slice ((some ⟨x,0,none⟩)) 1 1)).run Tryz.prog A=.ok () r)∧
 NilP e fun i=>
 ∃ s:World,((Instr.storeAt 3 (.pointer ((some ⟨i.block,i.off + 6,none⟩))) (.int .i64 z)).run Tryz.prog r=.ok () s)∧
 NilP e fun j=>
 ∃ t:World,((Instr.storeAt 113 (.pointer ((some ⟨j.block,j.off + 10,none⟩))) (.map ((some m)))).run Tryz.prog s=.ok () t)∧
 Drw t fun g C=>
 NilP e fun k=>
 ∃ b:Sl,∃ c:Sl,(At g ⟨k.block,k.off + 4,none⟩ [.slice b.a b.len b.cap,.slice c.a c.len c.cap])∧
 NilP e fun l=>
 ∃ o:Option Nat,(At g ⟨l.block,l.off + 10,none⟩ [.map o])∧
 ∃ d:Sl,(∀ f,g f→((Instr.lookup 113 (.map o) (.bool true) false)).run Tryz.prog f=.ok (.slice d.a d.len d.cap) f)∧
 Calls Tryz.prog 51 #[.agg #[.slice b.a b.len b.cap,.slice c.a c.len c.cap],.slice d.a d.len d.cap] C fun y u=>
 ∃ p:Bool,(y=.returned (.bool p))∧
 (g u)∧
 K (.bool p) u) q) w
theorem call96 (a:Option Addr) (b:Int) (K:Value→World→Prop) (w:World) (h:B96 a b K w):Gets Tryz.prog 96 #[.pointer a,.int .i64 b] w K:=cq (sk:=.leaf) Tryz.func96 (by kernel_rfl) (by kernel_rfl) (by kernel_rfl) h
def B97 (b:Option Addr) (E:Int) (F:Int) (K:Value→World→Prop) (w:World):Prop:=
 NilP b fun n=>
 ∃ o:Int,(At (fun d=>d=w) ⟨n.block,n.off + 2,none⟩ [.int .i64 o])∧
 Br (decide (o ≥ 1099511627776))
 (NilP b fun g=>
 ∃ u:World,((Instr.storeAt 3 (.pointer ((some ⟨g.block,g.off + 6,none⟩))) (.int .i64 0)).run Tryz.prog w=.ok () u)∧
 K (.slice none 0 0) u)
 (Drw w fun f G=>
 NilP b fun i=>
 ∃ p:Int,(At f ⟨i.block,i.off + 2,none⟩ [.int .i64 p])∧
 NilP b fun z=>
 ∃ q:Int,(At f (Addr.add z 0) [.int .i64 q])∧
 NilP b fun j=>
 ∃ v:World,((Instr.storeAt 29 (.pointer ((some ⟨j.block,j.off + 2,none⟩))) (.agg #[.int .i64 (IntKind.i64.wrap (p + 1)),.int .i64 q])).run Tryz.prog G=.ok () v)∧
 Calls Tryz.prog 96 #[.pointer b,.int .i64 2] v fun C e=>
 ∃ r:Bool,(C=.returned (.bool r))∧
 Br r
 (NilP b fun A=>
 ∃ s:Int,(At (fun d=>d=e) (Addr.add A 0) [.int .i64 s])∧
 NilP b fun k=>
 ∃ x:World,((Instr.storeAt 3 (.pointer ((some ⟨k.block,k.off + 6,none⟩))) (.int .i64 3)).run Tryz.prog e=.ok () x)∧
 NilP b fun l=>
 ∃ y:World,((Instr.storeAt 3 (.pointer ((some ⟨l.block,l.off + 7,none⟩))) (.int .i64 s)).run Tryz.prog x=.ok () y)∧
 K (.slice none 0 0) y)
 (NilP b fun m=>
 ∃ t:Int,(At (fun d=>d=e) ⟨m.block,m.off + 2,none⟩ [.int .i64 t])∧
 Calls Tryz.prog 98 #[.pointer b,.int .i64 3,.int .i64 t,.int .i64 E,.int .i64 F] e fun D H=>
 ∃ c:Sl,(D=.returned (.slice c.a c.len c.cap))∧
 K (.slice c.a c.len c.cap) H))
theorem call97 (c:Option Addr) (a:Int) (b:Int) (K:Value→World→Prop) (w:World) (h:B97 c a b K w):Gets Tryz.prog 97 #[.pointer c,.int .i64 a,.int .i64 b] w K:=cq (sk:=.leaf) Tryz.func97 (by kernel_rfl) (by kernel_rfl) (by kernel_rfl) h
def B98 (k:Option Addr) (u:Int) (y:Int) (v:Int) (x:Int) (K:Value→World→Prop) (w:World):Prop:=
 NilP k fun n=>
 ∃ f:Sl,(At (fun e=>e=w) ⟨n.block,n.off + 4,none⟩ [.slice f.a f.len f.cap])∧
 ∃ (i:Sl→Int→World→Prop) (j:Sl→Int→World→Nat),(i ⟨none,0,0⟩ 0 w)∧∀ (A:Env) (b:Sl) (c:Int) (d:World),i b c d→
 Br (decide (c<(↑f.len:Int)))
 (Rng c f.len (NilP f.a fun q=>
 ∃ l:Int,(At (fun e=>e=d) (Addr.add q c.toNat) [.int .i64 l])∧
 NilP k fun r=>
 ∃ o:Int,(At (fun e=>e=d) (Addr.add r 0) [.int .i64 o])∧
 Br (l !=o)
 (NilP k fun s=>
 ∃ p:Int,(At (fun e=>e=d) (Addr.add s 0) [.int .i64 p])∧
 New (.cells #[.int .i64 u,.int .i64 p,.int .i64 l,.int .i64 y,.int .i64 v,.int .i64 x,.bool false] 161 (0,0)) (fun t z=>
 ∃ m:World,∃ g:Sl,((Builtin.append_ #[103,103] 103 #[.slice b.a b.len b.cap,.slice ((some ⟨t,0,none⟩)) 1 1]).run Tryz.prog z=.ok (.slice g.a g.len g.cap) m)∧
 (i g (IntKind.i64.wrap (c + 1)) m)∧j g (IntKind.i64.wrap (c + 1)) m<j b c d) d)
 ((i b (IntKind.i64.wrap (c + 1)) d)∧j b (IntKind.i64.wrap (c + 1)) d<j b c d)))
 (K (.slice b.a b.len b.cap) d)
def sk98:Sk:=(.seq .leaf (.seq .leaf (.seq (.seq .leaf (.block (.loop [11,20] [.sl,(.int .i64)] [11,13,20,21,22,23,24,25,26,27,28,29,30,31,32,33,34,35,36,37,38,39,40,41,42,43] .leaf))) .leaf)))
theorem call98 (d:Option Addr) (a:Int) (e:Int) (b:Int) (c:Int) (K:Value→World→Prop) (w:World) (h:B98 d a e b c K w):Gets Tryz.prog 98 #[.pointer d,.int .i64 a,.int .i64 e,.int .i64 b,.int .i64 c] w K:=cq (sk:=sk98) Tryz.func98 (by kernel_rfl) (by kernel_rfl) (by kernel_rfl) h
def B38 (b:Option Addr) (A:Int) (C:Int) (D:Int) (K:Value→World→Prop) (w:World):Prop:=
 NilP b fun n=>
 ∃ E:Int,(At (fun g=>g=w) ⟨n.block,n.off + 6,none⟩ [.int .i64 E])∧
 Br (E==3)
 (K (.slice none 0 0) w)
 (NilP b fun o=>
 ∃ F:Int,(At (fun g=>g=w) ⟨o.block,o.off + 8,none⟩ [.int .i64 F])∧
 NilP b fun p=>
 ∃ O:World,((Instr.storeAt 3 (.pointer ((some ⟨p.block,p.off + 8,none⟩))) (.int .i64 (IntKind.i64.wrap (F + 1)))).run Tryz.prog w=.ok () O)∧
 ∃ (l:World→Prop),(Drw O fun f Q=>
 NilP b fun q=>
 ∃ G:Int,(At f ⟨q.block,q.off + 8,none⟩ [.int .i64 G])∧
 NilP b fun r=>
 ∃ H:Int,(At f ⟨r.block,r.off + 9,none⟩ [.int .i64 H])∧
 Br (decide (G<H))
 (K (.slice none 0 0) Q)
 (NilP b fun s=>
 ∃ c:Sl,(At f ⟨s.block,s.off + 4,none⟩ [.slice c.a c.len c.cap])∧
 NilP b fun Y=>
 ∃ I:Int,(At f (Addr.add Y 0) [.int .i64 I])∧
 Calls Tryz.prog 95 #[.slice c.a c.len c.cap,.int .i64 I] Q fun Z j=>
 ∃ J:Bool,(Z=.returned (.bool J))∧
 (f j)∧
 Br (!J)
 (K (.slice none 0 0) j)
 (l  j)))∧
 ∀ (ag:Env)  (T:World),l  T→
 Drw T fun m af=>
 NilP b fun t=>
 ∃ L:Int,(At m ⟨t.block,t.off + 1,none⟩ [.int .i64 L])∧
 NilP b fun u=>
 ∃ i:Int,(At m ⟨u.block,u.off + 1,none⟩ [.int .i64 i])∧
 Nz i (NilP b fun v=>
 ∃ U:World,((Instr.storeAt 3 (.pointer ((some ⟨v.block,v.off + 8,none⟩))) (.int .i64 0)).run Tryz.prog af=.ok () U)∧
 NilP b fun x=>
 ∃ V:World,((Instr.storeAt 3 (.pointer ((some ⟨x.block,x.off + 9,none⟩))) (.int .i64 (IntKind.i64.wrap (L + (if 0>A then 0 else A).tmod i)))).run Tryz.prog U=.ok () V)∧
 NilP b fun y=>
 ∃ X:World,((Instr.storeAt 3 (.pointer ((some ⟨y.block,y.off + 7,none⟩))) (.int .i64 0)).run Tryz.prog V=.ok () X)∧
 Calls Tryz.prog 96 #[.pointer b,.int .i64 1] X fun aa k=>
 ∃ M:Bool,(aa=.returned (.bool M))∧
 Br M
 (Calls Tryz.prog 97 #[.pointer b,.int .i64 C,.int .i64 D] k fun ab ad=>
 ∃ d:Sl,(ab=.returned (.slice d.a d.len d.cap))∧
 K (.slice d.a d.len d.cap) ad)
 (NilP b fun z=>
 ∃ N:Int,(At (fun g=>g=k) ⟨z.block,z.off + 2,none⟩ [.int .i64 N])∧
 Calls Tryz.prog 98 #[.pointer b,.int .i64 1,.int .i64 (IntKind.i64.wrap (N + 1)),.int .i64 C,.int .i64 D] k fun ac ae=>
 ∃ e:Sl,(ac=.returned (.slice e.a e.len e.cap))∧
 K (.slice e.a e.len e.cap) ae)))
def sk38:Sk:=(.seq .leaf (.seq .leaf (.seq .leaf (.cut [] [] [8,21,22,23,24,25,26,27,28,29,30,31,32,33,34,35,36,37,38,39,40,41,42] .leaf .leaf))))
theorem call38 (d:Option Addr) (a:Int) (b:Int) (c:Int) (K:Value→World→Prop) (w:World) (h:B38 d a b c K w):Gets Tryz.prog 38 #[.pointer d,.int .i64 a,.int .i64 b,.int .i64 c] w K:=cq (sk:=sk38) Tryz.func38 (by kernel_rfl) (by kernel_rfl) (by kernel_rfl) h
def B185 (d:Option Addr) (c7:Int) (c8:Int) (c9:Int) (da:Int) (db:Int) (dc:Int) (dd:Bool) (D:Int) (t:Int) (K:Value→World→Prop) (w:World):Prop:=
 New (.cells #[.int .i64 c7,.int .i64 c8,.int .i64 c9,.int .i64 da,.int .i64 db,.int .i64 dc,.bool dd] 161 (0,0)) (fun c dw=>
 ∃ (M:World→Prop),(Drw dw fun i c3=>
 ∃ a1:Int,(At i ⟨c,0 + 2,none⟩ [.int .i64 a1])∧
 NilP d fun c6=>
 ∃ be:Int,(At i (Addr.add c6 0) [.int .i64 be])∧
 Br (a1 !=be)
 (K (.slice none 0 0) c3)
 (∃ bm:Int,(At i ⟨c,0 + 1,none⟩ [.int .i64 bm])∧
 Calls Tryz.prog 229 #[.pointer d,.int .i64 bm] c3 fun de z=>
 ∃ bn:Bool,(de=.returned (.bool bn))∧
 (i z)∧
 Br (!bn)
 (K (.slice none 0 0) z)
 (∃ bo:Int,(At i ⟨c,0 + 3,none⟩ [.int .i64 bo])∧
 Br (decide (bo<0))
 (K (.slice none 0 0) z)
 (∃ bp:Int,(At i ⟨c,0 + 3,none⟩ [.int .i64 bp])∧
 Br (decide (bp>1099511627776))
 (K (.slice none 0 0) z)
 (M  z)))))∧
 ∀ (ef:Env)  (c5:World),M  c5→
 Drw c5 fun N r=>
 ∃ u:Int,(At N ⟨c,0 + 3,none⟩ [.int .i64 u])∧
 NilP d fun aa=>
 ∃ v:Int,(At N ⟨aa.block,aa.off + 2,none⟩ [.int .i64 v])∧
 ∃ (A:Bool→World→Prop),(∃ bq:Int,(At (fun b=>b=r) ⟨c,0 + 5,none⟩ [.int .i64 bq])∧
 Br (decide (bq>t))
 (A true r)
 (∃ br:Int,(At (fun b=>b=r) ⟨c,0 + 5,none⟩ [.int .i64 br])∧
 Br (br==t)
 (∃ bs:Int,(At (fun b=>b=r) ⟨c,0 + 4,none⟩ [.int .i64 bs])∧
 A (decide (bs ≥ D)) r)
 (A false r)))∧
 ∀ (eg:Env) (J:Bool) (e:World),A J e→
 ∃ x:Int,(At (fun b=>b=e) ⟨c,0,none⟩ [.int .i64 x])∧
 Br (x==1)
 (Drw e fun H f=>
 Br (decide (u>v))
 (Br J
 (NilP d fun ab=>
 ∃ bt:Int,(At H ⟨ab.block,ab.off + 7,none⟩ [.int .i64 bt])∧
 Br (bt==0)
 (∃ bw:Int,∃ bx:Int,∃ b3:Int,∃ b4:Int,∃ b5:Int,∃ b6:Int,∃ b7:Bool,(At (fun b=>b=f) ⟨c,0,none⟩ [.int .i64 bw,.int .i64 bx,.int .i64 b3,.int .i64 b4,.int .i64 b5,.int .i64 b6,.bool b7])∧
 ∃ cb:Int,(At (fun b=>b=f) ⟨c,0 + 3,none⟩ [.int .i64 cb])∧
 Calls Tryz.prog 230 #[.pointer d,.agg #[.int .i64 bw,.int .i64 bx,.int .i64 b3,.int .i64 b4,.int .i64 b5,.int .i64 b6,.bool b7],.int .i64 2,.int .i64 cb,.bool true] f fun df ed=>
 ∃ m:Sl,(df=.returned (.slice m.a m.len m.cap))∧
 K (.slice m.a m.len m.cap) ed)
 (NilP d fun ac=>
 ∃ bu:Int,(At H ⟨ac.block,ac.off + 8,none⟩ [.int .i64 bu])∧
 NilP d fun ad=>
 ∃ bv:Int,(At H ⟨ad.block,ad.off + 1,none⟩ [.int .i64 bv])∧
 Br (decide (bu ≥ bv))
 (∃ b8:Int,∃ b9:Int,∃ ca:Int,∃ bz:Int,∃ b0:Int,∃ b1:Int,∃ b2:Bool,(At (fun b=>b=f) ⟨c,0,none⟩ [.int .i64 b8,.int .i64 b9,.int .i64 ca,.int .i64 bz,.int .i64 b0,.int .i64 b1,.bool b2])∧
 ∃ cc:Int,(At (fun b=>b=f) ⟨c,0 + 3,none⟩ [.int .i64 cc])∧
 Calls Tryz.prog 230 #[.pointer d,.agg #[.int .i64 b8,.int .i64 b9,.int .i64 ca,.int .i64 bz,.int .i64 b0,.int .i64 b1,.bool b2],.int .i64 2,.int .i64 cc,.bool true] f fun dn ee=>
 ∃ n:Sl,(dn=.returned (.slice n.a n.len n.cap))∧
 K (.slice n.a n.len n.cap) ee)
 (Drw f fun O dx=>
 ∃ cd:Int,∃ ce:Int,∃ cp:Int,∃ cr:Int,∃ cs:Int,∃ ct:Int,∃ cu:Bool,(At O ⟨c,0,none⟩ [.int .i64 cd,.int .i64 ce,.int .i64 cp,.int .i64 cr,.int .i64 cs,.int .i64 ct,.bool cu])∧
 NilP d fun ae=>
 ∃ cy:Int,(At O ⟨ae.block,ae.off + 2,none⟩ [.int .i64 cy])∧
 Calls Tryz.prog 230 #[.pointer d,.agg #[.int .i64 cd,.int .i64 ce,.int .i64 cp,.int .i64 cr,.int .i64 cs,.int .i64 ct,.bool cu],.int .i64 2,.int .i64 cy,.bool false] dx fun dp dy=>
 ∃ o:Sl,(dp=.returned (.slice o.a o.len o.cap))∧
 K (.slice o.a o.len o.cap) dy)))
 (Drw f fun Q dz=>
 ∃ cv:Int,∃ cw:Int,∃ cx:Int,∃ cf:Int,∃ cg:Int,∃ ch:Int,∃ ci:Bool,(At Q ⟨c,0,none⟩ [.int .i64 cv,.int .i64 cw,.int .i64 cx,.int .i64 cf,.int .i64 cg,.int .i64 ch,.bool ci])∧
 NilP d fun af=>
 ∃ cz:Int,(At Q ⟨af.block,af.off + 2,none⟩ [.int .i64 cz])∧
 Calls Tryz.prog 230 #[.pointer d,.agg #[.int .i64 cv,.int .i64 cw,.int .i64 cx,.int .i64 cf,.int .i64 cg,.int .i64 ch,.bool ci],.int .i64 2,.int .i64 cz,.bool false] dz fun dq d0=>
 ∃ p:Sl,(dq=.returned (.slice p.a p.len p.cap))∧
 K (.slice p.a p.len p.cap) d0))
 (Drw f fun T d1=>
 ∃ cj:Int,∃ ck:Int,∃ cl:Int,∃ cm:Int,∃ cn:Int,∃ co:Int,∃ cq:Bool,(At T ⟨c,0,none⟩ [.int .i64 cj,.int .i64 ck,.int .i64 cl,.int .i64 cm,.int .i64 cn,.int .i64 co,.bool cq])∧
 NilP d fun ag=>
 ∃ c0:Int,(At T ⟨ag.block,ag.off + 2,none⟩ [.int .i64 c0])∧
 Calls Tryz.prog 230 #[.pointer d,.agg #[.int .i64 cj,.int .i64 ck,.int .i64 cl,.int .i64 cm,.int .i64 cn,.int .i64 co,.bool cq],.int .i64 2,.int .i64 c0,.bool false] d1 fun dr d2=>
 ∃ q:Sl,(dr=.returned (.slice q.a q.len q.cap))∧
 K (.slice q.a q.len q.cap) d2))
 (Br (x==3)
 (∃ (F:World→Prop),(Br (decide (u>v))
 (∃ ah:Int,(At (fun b=>b=e) ⟨c,0 + 3,none⟩ [.int .i64 ah])∧
 Calls Tryz.prog 231 #[.pointer d,.int .i64 ah] e fun ds d3=>
 (ds=.returned (.tuple #[]))∧
 F  d3)
 (F  e))∧
 ∀ (eh:Env)  (c1:World),F  c1→
 Drw c1 fun s d4=>
 ∃ ai:Int,∃ aj:Int,∃ ak:Int,∃ al:Int,∃ am:Int,∃ an:Int,∃ ao:Bool,(At s ⟨c,0,none⟩ [.int .i64 ai,.int .i64 aj,.int .i64 ak,.int .i64 al,.int .i64 am,.int .i64 an,.bool ao])∧
 NilP d fun U=>
 ∃ ap:Int,(At s ⟨U.block,U.off + 2,none⟩ [.int .i64 ap])∧
 ∃ aq:Int,∃ ar:Int,∃ au:Int,∃ av:Int,∃ aw:Int,∃ ax:Int,∃ ay:Bool,(At s ⟨c,0,none⟩ [.int .i64 aq,.int .i64 ar,.int .i64 au,.int .i64 av,.int .i64 aw,.int .i64 ax,.bool ay])∧
 Calls Tryz.prog 232 #[.pointer d,.agg #[.int .i64 aq,.int .i64 ar,.int .i64 au,.int .i64 av,.int .i64 aw,.int .i64 ax,.bool ay],.bool J] d4 fun dt c2=>
 ∃ az:Bool,(dt=.returned (.bool az))∧
 (s c2)∧
 Calls Tryz.prog 230 #[.pointer d,.agg #[.int .i64 ai,.int .i64 aj,.int .i64 ak,.int .i64 al,.int .i64 am,.int .i64 an,.bool ao],.int .i64 4,.int .i64 ap,.bool az] c2 fun du c4=>
 ∃ j:Sl,(du=.returned (.slice j.a j.len j.cap))∧
 (s c4)∧
 K (.slice j.a j.len j.cap) c4)
 (Br (x==2)
 (∃ (G:Bool→World→Prop),(Br (decide (u>v))
 (∃ a2:Bool,(At (fun b=>b=e) ⟨c,0 + 6,none⟩ [.bool a2])∧
 G (!a2) e)
 (G false e))∧
 ∀ (ei:Env) (a0:Bool) (E:World),G a0 E→
 Br a0
 (∃ a3:Int,(At (fun b=>b=E) ⟨c,0 + 3,none⟩ [.int .i64 a3])∧
 Calls Tryz.prog 231 #[.pointer d,.int .i64 a3] E fun dv d5=>
 (dv=.returned (.tuple #[]))∧
 K (.slice none 0 0) d5)
 (Drw E fun C g=>
 NilP d fun V=>
 ∃ a4:Int,(At C ⟨V.block,V.off + 6,none⟩ [.int .i64 a4])∧
 Br (a4==1)
 (∃ a5:Bool,(At C ⟨c,0 + 6,none⟩ [.bool a5])∧
 Br (!a5)
 (∃ a8:Int,(At (fun b=>b=g) ⟨c,0 + 1,none⟩ [.int .i64 a8])∧
 ∃ ba:Bool,(At (fun b=>b=g) ⟨c,0 + 6,none⟩ [.bool ba])∧
 Calls Tryz.prog 234 #[.pointer d,.int .i64 a8,.bool ba] g fun dg d6=>
 ∃ bc:Int,(dg=.returned (.int .i64 bc))∧
 Calls Tryz.prog 233 #[.pointer d,.int .i64 bc,.int .i64 D,.int .i64 t] d6 fun dh d7=>
 ∃ k:Sl,(dh=.returned (.slice k.a k.len k.cap))∧
 K (.slice k.a k.len k.cap) d7)
 (∃ a6:Int,(At C ⟨c,0 + 3,none⟩ [.int .i64 a6])∧
 NilP d fun X=>
 ∃ a7:Int,(At C ⟨X.block,X.off + 2,none⟩ [.int .i64 a7])∧
 Br (a6==IntKind.i64.wrap (a7 + 1))
 (∃ a9:Int,(At (fun b=>b=g) ⟨c,0 + 1,none⟩ [.int .i64 a9])∧
 ∃ bb:Bool,(At (fun b=>b=g) ⟨c,0 + 6,none⟩ [.bool bb])∧
 Calls Tryz.prog 234 #[.pointer d,.int .i64 a9,.bool bb] g fun di d8=>
 ∃ bd:Int,(di=.returned (.int .i64 bd))∧
 Calls Tryz.prog 233 #[.pointer d,.int .i64 bd,.int .i64 D,.int .i64 t] d8 fun dj d9=>
 ∃ l:Sl,(dj=.returned (.slice l.a l.len l.cap))∧
 K (.slice l.a l.len l.cap) d9)
 (K (.slice none 0 0) g)))
 (K (.slice none 0 0) g)))
 (Br (x==4)
 (Br (decide (u>v))
 (∃ bf:Int,(At (fun b=>b=e) ⟨c,0 + 3,none⟩ [.int .i64 bf])∧
 Calls Tryz.prog 231 #[.pointer d,.int .i64 bf] e fun dk ea=>
 (dk=.returned (.tuple #[]))∧
 K (.slice none 0 0) ea)
 (Drw e fun I y=>
 NilP d fun Y=>
 ∃ bg:Int,(At I ⟨Y.block,Y.off + 6,none⟩ [.int .i64 bg])∧
 Br (bg==2)
 (∃ bh:Int,(At I ⟨c,0 + 3,none⟩ [.int .i64 bh])∧
 NilP d fun Z=>
 ∃ bi:Int,(At I ⟨Z.block,Z.off + 2,none⟩ [.int .i64 bi])∧
 Br (bh==bi)
 (∃ bj:Int,(At (fun b=>b=y) ⟨c,0 + 1,none⟩ [.int .i64 bj])∧
 ∃ bk:Bool,(At (fun b=>b=y) ⟨c,0 + 6,none⟩ [.bool bk])∧
 Calls Tryz.prog 234 #[.pointer d,.int .i64 bj,.bool bk] y fun dl eb=>
 ∃ bl:Int,(dl=.returned (.int .i64 bl))∧
 Calls Tryz.prog 233 #[.pointer d,.int .i64 bl,.int .i64 D,.int .i64 t] eb fun dm ec=>
 ∃ L:Sl,(dm=.returned (.slice L.a L.len L.cap))∧
 K (.slice none 0 0) ec)
 (K (.slice none 0 0) y))
 (K (.slice none 0 0) y)))
 (K (.slice none 0 0) e))))) w
def sk185:Sk:=(.seq .leaf (.cut [] [] [8,11,12,13,14,15,16,17,18,19,20,21,22,23,24,25,26,27,28,29,30,31,32,33,34] .leaf (.seq .leaf (.cut [10] [.bool] [10,43,44,45,46,47,48,49,50,51,52,53,54,55,56,57,58] .leaf (.seq (.seq .leaf (.block (.seq .leaf (.cond .leaf (.seq .leaf (.cond (.cut [] [] [100,101,102,103,104] .leaf .leaf) (.seq .leaf (.cond (.block (.cut [119] [.bool] [119,120,121,122,123,124,125] .leaf .leaf)) .leaf)))))))) .leaf)))))
theorem call185 (k:Option Addr) (a:Int) (b:Int) (c:Int) (d:Int) (e:Int) (f:Int) (g:Bool) (i:Int) (j:Int) (K:Value→World→Prop) (w:World) (h:B185 k a b c d e f g i j K w):Gets Tryz.prog 185 #[.pointer k,.agg #[.int .i64 a,.int .i64 b,.int .i64 c,.int .i64 d,.int .i64 e,.int .i64 f,.bool g],.int .i64 i,.int .i64 j] w K:=cq (sk:=sk185) Tryz.func185 (by kernel_rfl) (by kernel_rfl) (by kernel_rfl) h
def B186 (a:Option Addr) (p:Int) (d:Int) (K:Value→World→Prop) (w:World):Prop:=
 ∃ (f:World→Prop),(Calls Tryz.prog 229 #[.pointer a,.int .i64 p] w fun A b=>
 ∃ u:Bool,(A=.returned (.bool u))∧
 Br (!u)
 (K (.bool false) b)
 (NilP a fun i=>
 ∃ q:Int,(At (fun c=>c=b) ⟨i.block,i.off + 2,none⟩ [.int .i64 q])∧
 Br (decide (d<q))
 (K (.bool false) b)
 (Br (decide (d>1099511627776))
 (K (.bool false) b)
 (NilP a fun j=>
 ∃ r:Int,(At (fun c=>c=b) ⟨j.block,j.off + 2,none⟩ [.int .i64 r])∧
 Br (d==r)
 (NilP a fun k=>
 ∃ s:Int,(At (fun c=>c=b) ⟨k.block,k.off + 6,none⟩ [.int .i64 s])∧
 Br (s==3)
 (K (.bool false) b)
 (f  b))
 (f  b)))))∧
 ∀ (E:Env)  (e:World),f  e→
 ∃ (g:World→Prop),(NilP a fun l=>
 ∃ t:Int,(At (fun c=>c=e) ⟨l.block,l.off + 2,none⟩ [.int .i64 t])∧
 Br (decide (d>t))
 (Calls Tryz.prog 231 #[.pointer a,.int .i64 d] e fun C D=>
 (C=.returned (.tuple #[]))∧
 g  D)
 (g  e))∧
 ∀ (F:Env)  (v:World),g  v→
 NilP a fun m=>
 ∃ x:World,((Instr.storeAt 3 (.pointer ((some ⟨m.block,m.off + 6,none⟩))) (.int .i64 0)).run Tryz.prog v=.ok () x)∧
 NilP a fun n=>
 ∃ y:World,((Instr.storeAt 3 (.pointer ((some ⟨n.block,n.off + 7,none⟩))) (.int .i64 p)).run Tryz.prog x=.ok () y)∧
 NilP a fun o=>
 ∃ z:World,((Instr.storeAt 3 (.pointer ((some ⟨o.block,o.off + 8,none⟩))) (.int .i64 0)).run Tryz.prog y=.ok () z)∧
 K (.bool true) z
def sk186:Sk:=(.seq .leaf (.cut [] [] [6,7,8,9,10,11,12,13,14,15,16,17,18,19,20,21,22,23,24,25,26,27,28,29,30,31,32,33,34,35,36,37,38,39] .leaf (.cut [] [] [40,41,42,43,44,45,46,47,48,49] .leaf .leaf)))
theorem call186 (b:Option Addr) (a:Int) (c:Int) (K:Value→World→Prop) (w:World) (h:B186 b a c K w):Gets Tryz.prog 186 #[.pointer b,.int .i64 a,.int .i64 c] w K:=cq (sk:=sk186) Tryz.func186 (by kernel_rfl) (by kernel_rfl) (by kernel_rfl) h
def B229 (d:Option Addr) (a:Int) (K:Value→World→Prop) (w:World):Prop:=
 Br (decide (a ≥ 1))
 (Br (decide (a≤15))
 (NilP d fun c=>
 ∃ b:Int,(At (fun e=>e=w) (Addr.add c 0) [.int .i64 b])∧
 K (.bool (a !=b)) w)
 (K (.bool false) w))
 (K (.bool false) w)
theorem call229 (b:Option Addr) (a:Int) (K:Value→World→Prop) (w:World) (h:B229 b a K w):Gets Tryz.prog 229 #[.pointer b,.int .i64 a] w K:=cq (sk:=.leaf) Tryz.func229 (by kernel_rfl) (by kernel_rfl) (by kernel_rfl) h
def B230 (q:Option Addr) (f:Int) (g:Int) (i:Int) (j:Int) (k:Int) (l:Int) (m:Bool) (p:Int) (r:Int) (u:Bool) (K:Value→World→Prop) (w:World):Prop:=
 New (.cells #[.int .i64 f,.int .i64 g,.int .i64 i,.int .i64 j,.int .i64 k,.int .i64 l,.bool m] 161 (0,0)) (fun n s=>
 Drw s fun a t=>
 NilP q fun e=>
 ∃ b:Int,(At a (Addr.add e 0) [.int .i64 b])∧
 ∃ c:Int,(At a ⟨n,0 + 1,none⟩ [.int .i64 c])∧
 New (.cells #[.int .i64 p,.int .i64 b,.int .i64 c,.int .i64 r,.int .i64 0,.int .i64 0,.bool u] 161 (0,0)) (fun o d=>
 (a d)∧
 K (.slice ((some ⟨o,0,none⟩)) 1 1) d) t) w
theorem call230 (j:Option Addr) (a:Int) (b:Int) (c:Int) (d:Int) (e:Int) (f:Int) (g:Bool) (i:Int) (k:Int) (l:Bool) (K:Value→World→Prop) (w:World) (h:B230 j a b c d e f g i k l K w):Gets Tryz.prog 230 #[.pointer j,.agg #[.int .i64 a,.int .i64 b,.int .i64 c,.int .i64 d,.int .i64 e,.int .i64 f,.bool g],.int .i64 i,.int .i64 k,.bool l] w K:=cq (sk:=.leaf) Tryz.func230 (by kernel_rfl) (by kernel_rfl) (by kernel_rfl) h
def B231 (a:Option Addr) (l:Int) (K:Value→World→Prop) (w:World):Prop:=
 NilP a fun f=>
 ∃ i:World,((Instr.storeAt 29 (.pointer ((some ⟨f.block,f.off + 2,none⟩))) (.agg #[.int .i64 l,.int .i64 0])).run Tryz.prog w=.ok () i)∧
 NilP a fun c=>
 ∃ j:World,((Instr.storeAt 3 (.pointer ((some ⟨c.block,c.off + 6,none⟩))) (.int .i64 0)).run Tryz.prog i=.ok () j)∧
 NilP a fun d=>
 ∃ b:World,((Instr.storeAt 3 (.pointer ((some ⟨d.block,d.off + 7,none⟩))) (.int .i64 0)).run Tryz.prog j=.ok () b)∧
 NilP a fun e=>
 ∃ g:Option Nat,(At (fun m=>m=b) ⟨e.block,e.off + 10,none⟩ [.map g])∧
 ∃ k:World,((Builtin.clear_ #[113] 0 #[.map g]).run Tryz.prog b=.ok (.tuple #[]) k)∧
 K (.tuple #[]) k
theorem call231 (a:Option Addr) (b:Int) (K:Value→World→Prop) (w:World) (h:B231 a b K w):Gets Tryz.prog 231 #[.pointer a,.int .i64 b] w K:=cq (sk:=.leaf) Tryz.func231 (by kernel_rfl) (by kernel_rfl) (by kernel_rfl) h
def B232 (a:Option Addr) (C:Int) (D:Int) (E:Int) (F:Int) (G:Int) (H:Int) (I:Bool) (q:Bool) (K:Value→World→Prop) (w:World):Prop:=
 New (.cells #[.int .i64 C,.int .i64 D,.int .i64 E,.int .i64 F,.int .i64 G,.int .i64 H,.bool I] 161 (0,0)) (fun f J=>
 ∃ (e:World→Prop),(Drw J fun c b=>
 ∃ y:Int,(At c ⟨f,0 + 3,none⟩ [.int .i64 y])∧
 NilP a fun j=>
 ∃ r:Int,(At c ⟨j.block,j.off + 2,none⟩ [.int .i64 r])∧
 Br (y !=r)
 (K (.bool false) b)
 (NilP a fun k=>
 ∃ s:Int,(At c ⟨k.block,k.off + 2 + 1,none⟩ [.int .i64 s])∧
 Br (s !=0)
 (NilP a fun l=>
 ∃ t:Int,(At c ⟨l.block,l.off + 2 + 1,none⟩ [.int .i64 t])∧
 ∃ u:Int,(At c ⟨f,0 + 1,none⟩ [.int .i64 u])∧
 Br (t !=u)
 (K (.bool false) b)
 (Br (!q)
 (K (.bool false) b)
 (e  b)))
 (Br (!q)
 (K (.bool false) b)
 (e  b))))∧
 ∀ (L:Env)  (i:World),e  i→
 ∃ v:Int,(At (fun g=>g=i) ⟨f,0 + 1,none⟩ [.int .i64 v])∧
 NilP a fun m=>
 ∃ z:World,((Instr.storeAt 3 (.pointer ((some ⟨m.block,m.off + 2 + 1,none⟩))) (.int .i64 v)).run Tryz.prog i=.ok () z)∧
 NilP a fun n=>
 ∃ d:World,((Instr.storeAt 3 (.pointer ((some ⟨n.block,n.off + 8,none⟩))) (.int .i64 0)).run Tryz.prog z=.ok () d)∧
 NilP a fun o=>
 ∃ x:Int,(At (fun g=>g=d) ⟨o.block,o.off + 6,none⟩ [.int .i64 x])∧
 Br (x==1)
 (NilP a fun p=>
 ∃ A:World,((Instr.storeAt 3 (.pointer ((some ⟨p.block,p.off + 6,none⟩))) (.int .i64 0)).run Tryz.prog d=.ok () A)∧
 K (.bool true) A)
 (K (.bool true) d)) w
def sk232:Sk:=(.seq .leaf (.cut [] [] [6,7,8,9,10,11,12,13,14,15,16,17,18,19,20,21,22,23,24,25,26,27,28,29,30,31,32,33,34,35,36] .leaf .leaf))
theorem call232 (i:Option Addr) (a:Int) (b:Int) (c:Int) (d:Int) (e:Int) (f:Int) (g:Bool) (j:Bool) (K:Value→World→Prop) (w:World) (h:B232 i a b c d e f g j K w):Gets Tryz.prog 232 #[.pointer i,.agg #[.int .i64 a,.int .i64 b,.int .i64 c,.int .i64 d,.int .i64 e,.int .i64 f,.bool g],.bool j] w K:=cq (sk:=sk232) Tryz.func232 (by kernel_rfl) (by kernel_rfl) (by kernel_rfl) h
def B233 (b:Option Addr) (f:Int) (u:Int) (v:Int) (K:Value→World→Prop) (w:World):Prop:=
 Br (f==2)
 (NilP b fun i=>
 ∃ p:World,((Instr.storeAt 3 (.pointer ((some ⟨i.block,i.off + 6,none⟩))) (.int .i64 0)).run Tryz.prog w=.ok () p)∧
 K (.slice none 0 0) p)
 (∃ (e:Bool→World→Prop),(Br (f==1)
 (NilP b fun j=>
 ∃ n:Int,(At (fun g=>g=w) ⟨j.block,j.off + 6,none⟩ [.int .i64 n])∧
 e (n==1) w)
 (e false w))∧
 ∀ (y:Env) (m:Bool) (d:World),e m d→
 Br m
 (Calls Tryz.prog 97 #[.pointer b,.int .i64 u,.int .i64 v] d fun t x=>
 ∃ c:Sl,(t=.returned (.slice c.a c.len c.cap))∧
 K (.slice c.a c.len c.cap) x)
 (Br (f==1)
 (NilP b fun s=>
 ∃ o:Int,(At (fun g=>g=d) (Addr.add s 0) [.int .i64 o])∧
 NilP b fun k=>
 ∃ q:World,((Instr.storeAt 3 (.pointer ((some ⟨k.block,k.off + 6,none⟩))) (.int .i64 3)).run Tryz.prog d=.ok () q)∧
 NilP b fun l=>
 ∃ r:World,((Instr.storeAt 3 (.pointer ((some ⟨l.block,l.off + 7,none⟩))) (.int .i64 o)).run Tryz.prog q=.ok () r)∧
 K (.slice none 0 0) r)
 (K (.slice none 0 0) d)))
def sk233:Sk:=(.seq .leaf (.seq (.block (.seq .leaf (.cond .leaf (.cut [15] [.bool] [15,16,17,18,19,20,21,22,23,24] .leaf .leaf)))) .leaf))
theorem call233 (c:Option Addr) (d:Int) (a:Int) (b:Int) (K:Value→World→Prop) (w:World) (h:B233 c d a b K w):Gets Tryz.prog 233 #[.pointer c,.int .i64 d,.int .i64 a,.int .i64 b] w K:=cq (sk:=sk233) Tryz.func233 (by kernel_rfl) (by kernel_rfl) (by kernel_rfl) h
def B234 (c:Option Addr) (u:Int) (ac:Bool) (K:Value→World→Prop) (w:World):Prop:=
 ∃ (s:World→Prop),(∃ (t:Bool→World→Prop),(NilP c fun I=>
 ∃ J:Option Nat,(At (fun b=>b=w) ⟨I.block,I.off + 10,none⟩ [.map J])∧
 ∃ d:Sl,(∀ b,(fun b=>b=w) b→((Instr.lookup 113 (.map J) (.bool true) false)).run Tryz.prog b=.ok (.slice d.a d.len d.cap) b)∧
 Calls Tryz.prog 95 #[.slice d.a d.len d.cap,.int .i64 u] w fun ae r=>
 ∃ L:Bool,(ae=.returned (.bool L))∧
 Br (!L)
 (NilP c fun A=>
 ∃ M:Option Nat,(At (fun b=>b=r) ⟨A.block,A.off + 10,none⟩ [.map M])∧
 ∃ e:Sl,(∀ b,(fun b=>b=r) b→((Instr.lookup 113 (.map M) (.bool false) false)).run Tryz.prog b=.ok (.slice e.a e.len e.cap) b)∧
 Calls Tryz.prog 95 #[.slice e.a e.len e.cap,.int .i64 u] r fun af aj=>
 ∃ N:Bool,(af=.returned (.bool N))∧
 t (!N) aj)
 (t false r))∧
 ∀ (am:Env) (O:Bool) (y:World),t O y→
 Br O
 (Drw y fun o ak=>
 NilP c fun C=>
 ∃ Q:Option Nat,(At o ⟨C.block,C.off + 10,none⟩ [.map Q])∧
 NilP c fun D=>
 ∃ T:Option Nat,(At o ⟨D.block,D.off + 10,none⟩ [.map T])∧
 ∃ f:Sl,(∀ b,o b→((Instr.lookup 113 (.map T) (.bool ac) false)).run Tryz.prog b=.ok (.slice f.a f.len f.cap) b)∧
 New (.cells #[.int .i64 u] 3 (0,0)) (fun ad Z=>
 (o Z)∧
 ∃ z:World,∃ g:Sl,((Builtin.append_ #[30,30] 30 #[.slice f.a f.len f.cap,.slice ((some ⟨ad,0,none⟩)) 1 1]).run Tryz.prog Z=.ok (.slice g.a g.len g.cap) z)∧
 (o z)∧
 ∃ aa:World,((Instr.mapUpdate 113 (.map Q) (.bool ac) (.slice g.a g.len g.cap)).run Tryz.prog z=.ok () aa)∧
 s  aa) ak)
 (s  y))∧
 ∀ (an:Env)  (ab:World),s  ab→
 Drw ab fun p al=>
 NilP c fun E=>
 ∃ i:Sl,∃ j:Sl,(At p ⟨E.block,E.off + 4,none⟩ [.slice i.a i.len i.cap,.slice j.a j.len j.cap])∧
 NilP c fun F=>
 ∃ U:Option Nat,(At p ⟨F.block,F.off + 10,none⟩ [.map U])∧
 ∃ k:Sl,(∀ b,p b→((Instr.lookup 113 (.map U) (.bool true) false)).run Tryz.prog b=.ok (.slice k.a k.len k.cap) b)∧
 Calls Tryz.prog 51 #[.agg #[.slice i.a i.len i.cap,.slice j.a j.len j.cap],.slice k.a k.len k.cap] al fun ag v=>
 ∃ V:Bool,(ag=.returned (.bool V))∧
 (p v)∧
 Br V
 (K (.int .i64 1) v)
 (Drw v fun q ai=>
 NilP c fun G=>
 ∃ l:Sl,∃ m:Sl,(At q ⟨G.block,G.off + 4,none⟩ [.slice l.a l.len l.cap,.slice m.a m.len m.cap])∧
 NilP c fun H=>
 ∃ X:Option Nat,(At q ⟨H.block,H.off + 10,none⟩ [.map X])∧
 ∃ n:Sl,(∀ b,q b→((Instr.lookup 113 (.map X) (.bool false) false)).run Tryz.prog b=.ok (.slice n.a n.len n.cap) b)∧
 Calls Tryz.prog 249 #[.agg #[.slice l.a l.len l.cap,.slice m.a m.len m.cap],.slice n.a n.len n.cap] ai fun ah x=>
 ∃ Y:Bool,(ah=.returned (.bool Y))∧
 (q x)∧
 Br Y
 (K (.int .i64 2) x)
 (K (.int .i64 0) x))
def sk234:Sk:=(.seq .leaf (.cut [] [] [7,8,9,10,11,12,13,14,15,16,17,18,19,20,21,22,23,24,25,26,27,28,29,30,31,32,33,34,35,36,37,38] (.cut [24] [.bool] [7,8,9,10,11,12,13,14,15,16,17,18,19,20,21,22,23,24] .leaf .leaf) .leaf))
theorem call234 (b:Option Addr) (a:Int) (c:Bool) (K:Value→World→Prop) (w:World) (h:B234 b a c K w):Gets Tryz.prog 234 #[.pointer b,.int .i64 a,.bool c] w K:=cq (sk:=sk234) Tryz.func234 (by kernel_rfl) (by kernel_rfl) (by kernel_rfl) h
end Go.Proofs.YthpmfnffkjjlnaaGreat
/- SL, part 21: maps whose keys are bools; 'clear' of a map; what is got of a map that was put into. No condition. -/
namespace Go.VC
set_option linter.unusedVariables false
set_option linter.unusedSimpArgs false
instance:KeyK Bool where
 enc:=Value.bool
 desc:=.bool
 same a b:=rfl
 bits a:=by
  have:∀ n,Instr.sameBits n (.bool a) (.bool a)=(a==a):=fun n=>by cases n<;>rfl
  rw [this];simp
 eq a b h:=beq_iff_eq.1 h
 check P em K a w h:=by
  show (Instr.checkKey em (9999 + 1) K (.bool a)).run P w=_
  unfold Instr.checkKey
  simp [run_underlying h]
variable {α:Type} [BEq α] [KeyK α] {P:Program} {R:Cx} {Hs:List HP} {w:World} {T K E:TypeId}
theorem clear_run {P:Program} {T K E ty:TypeId} (hT:P.underlying T=some (.map K E)) {w:World} {m clock:Nat} {es:Array MapEntry} (hm:w.heap[m]? =some (.map es clock)):
  (Builtin.clear_ #[T] ty #[.map (some m)]).run P w=.ok (.tuple #[]) (w.setBlock m (.map #[] clock)):=by
 have h0:(#[T]:Array TypeId)[0]? =some T:=rfl
 have h1:(#[Value.map (some m)]:Array Value)[0]? =some (.map (some m)):=rfl
 unfold Builtin.clear_
 rw [h0,h1]
 simp only [Sem.run_bind,run_underlying hT,Result.andThen,MapKept.run_getObj_map hm,MapKept.run_setObj_map _ hm,World.setBlock,Sem.run_pure]
theorem MapAt.clear {ty:TypeId} {m:Nat} {es:List (α × Value)} (hT:P.underlying T=some (.map K E)) (hw:Sat R (MapAt m es::Hs) w) {Q:World→Prop} (h:∀ w',Sat R (MapAt (α:=α) m []::Hs) w'→Q w'):
  ∃ w',(Builtin.clear_ #[T] ty #[.map (some m)]).run P w=.ok (.tuple #[]) w'∧Q w':=by
 obtain ⟨l,clk,rfl,hst,hp⟩:=MapAt.iff.1 hw
 exact ⟨_,clear_run hT hp.at,h _ (MapAt.iff.2 ⟨[],clk,rfl,⟨fun _ h=>(by cases h),List.nodup_nil⟩,hp.setPts _⟩)⟩
section
variable {β:Type}
omit [KeyK α]
variable [LawfulBEq α]
theorem getM_setM' {k k':α} {v:β}:∀ {l:List (α × β)},(getM k l).isSome=true→getM k' (setM k v l)=if k'==k then some v else getM k' l
 |[],h=>by cases h
 |e::es,h=>by
  unfold getM at h
  unfold setM
  by_cases h1:(k==e.1)=true
  ·rw [if_pos h1]
   have e1:=eq_of_beq h1
   unfold getM
   simp only
   subst e1
   by_cases h2:(k'==e.1)=true
   ·rw [if_pos h2,if_pos h2]
   ·rw [if_neg h2,if_neg h2,if_neg h2]
  ·rw [if_neg h1] at h ⊢
   conv=>lhs;unfold getM
   rw [getM_setM' h]
   by_cases h2:(k'==e.1)=true
   ·rw [if_pos h2]
    have e2:=eq_of_beq h2
    subst e2
    rw [if_neg (fun h3=>h1 (by have:=eq_of_beq h3;rw [this];simp))]
    conv=>rhs;unfold getM
    rw [if_pos (by simp)]
   ·rw [if_neg h2]
    conv=>rhs;rhs;unfold getM
    rw [if_neg h2]
omit [LawfulBEq α] in
theorem getM_app' {k':α}:∀ {l m:List (α × β)},getM k' (l++m)=(getM k' l).or (getM k' m)
 |[],m=>by simp [getM]
 |e::es,m=>by
  show (if k'==e.1 then some e.2 else getM k' (es++m))=(if k'==e.1 then some e.2 else getM k' es).or (getM k' m)
  by_cases h:(k'==e.1)=true
  ·rw [if_pos h,if_pos h];rfl
  ·rw [if_neg h,if_neg h];exact getM_app'
theorem getM_putM' (k k':α) (v:β) (l:List (α × β)):getM k' (putM k v l)=if k'==k then some v else getM k' l:=by
 unfold putM
 split
 ·rename_i h;exact getM_setM' h
 ·rename_i h
  rw [getM_app']
  have e:getM k' [(k,v)]=if k'==k then some v else none:=by unfold getM;rfl
  rw [e]
  split
  ·rename_i h2
   have:=eq_of_beq h2
   subst this
   simp only [Bool.not_eq_true,Option.isSome_eq_false_iff,Option.isNone_iff_eq_none] at h
   rw [h];rfl
  ·cases getM k' l<;>rfl
end
end Go.VC
/- Elections: a node in memory; its small steps. Condition: bounds on numbers. -/
namespace Go.Proofs.YthpmfnffkjjlnaaGreat
set_option linter.unusedVariables false
set_option linter.unusedSimpArgs false
open Go Go.VC
variable {R R' R1:Cx} {Hs Rest Rest2:List HP} {w:World}
theorem _root_.Go.VC.At.ex {α:Type} {S:α→World→Prop} {a:Addr} {vs:List Value} (h:∀ x,At (S x) a vs):At (fun w=>∃ x,S x w) a vs:=fun w ⟨x,hx⟩=>h x w hx
theorem _root_.Go.VC.Cx.Ext.roI {s:Sl} {xs:List Int} (e:R.Ext R') (h:RoI R s xs):RoI R' s xs:=e.ro h
abbrev eCells (e:Eln) (sv sl:Sl) (m:Nat):Obj:=.cells [.int .i64 e.id,.int .i64 e.pat,.int .i64 e.hd.tm,.int .i64 e.hd.vt,.slice sv.a sv.len sv.cap,.slice sl.a sl.len sl.cap,.int .i64 e.role,.int .i64 e.lead,.int .i64 e.wait,.int .i64 e.lim,.map (some m)].toArray 115 (0,0)
abbrev nilV:Value:=.slice none 0 0
def SaidAt (m:Nat) (yes no:List Int):HP:=exs fun es:List (Bool × Value)=>exs fun sy:Sl=>exs fun sn:Sl=>
 Star [pur ((getM true es).getD nilV=sy.v∧(getM false es).getD nilV=sn.v),MapAt m es,Own sy 3 (ints yes),Own sn 3 (ints no)]
theorem SaidAt.iff {m:Nat} {yes no:List Int}:Sat R (SaidAt m yes no::Hs) w↔∃ es sy sn,((getM true es).getD nilV=Sl.v sy∧(getM false es).getD nilV=Sl.v sn)∧Sat R (MapAt m es::Own sy 3 (ints yes)::Own sn 3 (ints no)::Hs) w:=by
 constructor
 ·intro h
  obtain ⟨es,h⟩:=Sat.exs.1 h
  obtain ⟨sy,h⟩:=Sat.exs.1 h
  obtain ⟨sn,h⟩:=Sat.exs.1 h
  obtain ⟨h1,h⟩:=Sat.pur.1 (Sat.star.1 h)
  exact ⟨es,sy,sn,h1,h⟩
 ·rintro ⟨es,sy,sn,h1,h⟩
  exact Sat.exs.2 ⟨es,Sat.exs.2 ⟨sy,Sat.exs.2 ⟨sn,Sat.star.2 (Sat.pur.2 ⟨h1,h⟩)⟩⟩⟩
structure GpIn (R:Cx) (g:Gp) (sv sl:Sl):Prop where
 v:RoI R sv g.vs
 l:RoI R sl g.ls
theorem GpIn.ext {g:Gp} {sv sl:Sl} (h:GpIn R g sv sl) (e:R.Ext R'):GpIn R' g sv sl:=⟨e.roI h.v,e.roI h.l⟩
def ElAt (R:Cx) (p:Nat) (e:Eln):HP:=exs fun sv:Sl=>exs fun sl:Sl=>exs fun m:Nat=>Star [pur (GpIn R e.g sv sl),pts p (eCells e sv sl m),SaidAt m e.yes e.no]
theorem ElAt.iff {p:Nat} {e:Eln}:Sat R (ElAt R1 p e::Hs) w↔∃ sv sl m,GpIn R1 e.g sv sl∧Sat R (pts p (eCells e sv sl m)::SaidAt m e.yes e.no::Hs) w:=by
 constructor
 ·intro h
  obtain ⟨sv,h⟩:=Sat.exs.1 h
  obtain ⟨sl,h⟩:=Sat.exs.1 h
  obtain ⟨m,h⟩:=Sat.exs.1 h
  obtain ⟨h1,h⟩:=Sat.pur.1 (Sat.star.1 h)
  exact ⟨sv,sl,m,h1,h⟩
 ·rintro ⟨sv,sl,m,h1,h⟩
  exact Sat.exs.2 ⟨sv,Sat.exs.2 ⟨sl,Sat.exs.2 ⟨m,Sat.star.2 (Sat.pur.2 ⟨h1,h⟩)⟩⟩⟩
theorem ElAt.ext {R2:Cx} {p:Nat} {e:Eln} (hw:Sat R (ElAt R1 p e::Hs) w) (x:R1.Ext R2):Sat R (ElAt R2 p e::Hs) w:=by
 obtain ⟨sv,sl,m,h,hw⟩:=ElAt.iff.1 hw
 exact ElAt.iff.2 ⟨sv,sl,m,h.ext x,hw⟩
theorem mapS:MapT Tryz.prog 113 Bool 4 30 nilV:=⟨Tryz.underlying113,Tryz.underlying4,fun _=>Tryz.zeroValue30 _⟩
theorem MapAt.lookS {m:Nat} {es:List (Bool × Value)} (hw:Sat R (MapAt m es::Hs) w) (k:Bool) {s:Sl} (h:(getM k es).getD nilV=s.v):
  (Instr.lookup 113 (.map (some m)) (.bool k) false).run Tryz.prog w=.ok (.slice s.a s.len s.cap) w:=by
 have:=MapAt.look mapS hw k false
 rw [if_neg (by simp),h] at this
 exact this
abbrev blRow (b:Bl):List Value:=[.int .i64 b.kd,.int .i64 b.fr,.int .i64 b.to',.int .i64 b.tm,.int .i64 b.ix,.int .i64 b.lt,.bool b.yes]
abbrev blVal (b:Bl):Value:=.agg #[.int .i64 b.kd,.int .i64 b.fr,.int .i64 b.to',.int .i64 b.tm,.int .i64 b.ix,.int .i64 b.lt,.bool b.yes]
abbrev BlO (s:Sl) (bs:List Bl):HP:=OwnN 7 s 161 (bs.map blRow)
theorem elBl:ElN Tryz.prog 103 103 161 7 56:=⟨Tryz.underlying103,⟨_,Tryz.underlying103⟩,by kernel_rfl⟩
section
variable {p m:Nat} {e:Eln} {sv sl:Sl} [tk:TakeP p Hs (eCells e sv sl m) Rest]
include tk
theorem other_spec (n:Int) (hw:Sat R Hs w):Gets Tryz.prog 229 #[.pointer (some ⟨p,0,none⟩),.int .i64 n] w fun v w'=>v=.bool (e.other n)∧Sat R Hs w':=by
 apply call229
 unfold Eln.other
 refine Br.d (fun h=>Br.d (fun h2=>NilP.mk rfl ⟨_,At.own (eqS hw) (by exact ⟨rfl,trivial⟩),?_,hw⟩) (fun h2=>⟨?_,hw⟩)) (fun h=>⟨?_,hw⟩)
 ·rw [decide_eq_true (by omega),Bool.true_and]
 ·rw [decide_eq_false (by omega)];rfl
 ·rw [decide_eq_false (by omega)];rfl
theorem hard_spec (hw:Sat R Hs w):Gets Tryz.prog 23 #[.pointer (some ⟨p,0,none⟩)] w fun v w'=>v=.agg #[.int .i64 e.hd.tm,.int .i64 e.hd.vt]∧Sat R Hs w':=by
 apply call23
 refine new_rule hw fun b w hw=>NilP.mk rfl ⟨_,_,At.own (eqS hw) (by exact ⟨rfl,rfl,trivial⟩),?_⟩
 refine store_rule hw (by kernel_rfl) rfl (by simp [Value.cells,putL_len]) fun w hw=>?_
 exact ⟨_,_,At.own (eqS hw) (by exact ⟨rfl,rfl,trivial⟩),rfl,hw.drop⟩
theorem role_spec (hw:Sat R Hs w):Gets Tryz.prog 16 #[.pointer (some ⟨p,0,none⟩)] w fun v w'=>v=.int .i64 e.role∧Sat R Hs w':=by
 apply call16
 exact NilP.mk rfl ⟨_,At.own (eqS hw) (by exact ⟨rfl,trivial⟩),rfl,hw⟩
end
section
variable {p:Nat} {e:Eln}
theorem eother_spec (n:Int) (hw:Sat R (ElAt R p e::Hs) w):Gets Tryz.prog 229 #[.pointer (some ⟨p,0,none⟩),.int .i64 n] w fun v w'=>v=.bool (e.other n)∧Sat R (ElAt R p e::Hs) w':=by
 obtain ⟨sv,sl,m,hg,hw⟩:=ElAt.iff.1 hw
 exact (other_spec n hw).mono fun _ _ h=>⟨h.1,ElAt.iff.2 ⟨sv,sl,m,hg,h.2⟩⟩
theorem ehard_spec (hw:Sat R (ElAt R p e::Hs) w):Gets Tryz.prog 23 #[.pointer (some ⟨p,0,none⟩)] w fun v w'=>v=.agg #[.int .i64 e.hd.tm,.int .i64 e.hd.vt]∧Sat R (ElAt R p e::Hs) w':=by
 obtain ⟨sv,sl,m,hg,hw⟩:=ElAt.iff.1 hw
 exact (hard_spec hw).mono fun _ _ h=>⟨h.1,ElAt.iff.2 ⟨sv,sl,m,hg,h.2⟩⟩
theorem erole_spec (hw:Sat R (ElAt R p e::Hs) w):Gets Tryz.prog 16 #[.pointer (some ⟨p,0,none⟩)] w fun v w'=>v=.int .i64 e.role∧Sat R (ElAt R p e::Hs) w':=by
 obtain ⟨sv,sl,m,hg,hw⟩:=ElAt.iff.1 hw
 exact (role_spec hw).mono fun _ _ h=>⟨h.1,ElAt.iff.2 ⟨sv,sl,m,hg,h.2⟩⟩
theorem rightN_spec {lo hi n:Int} (hw:Sat R Hs w):Gets Tryz.prog 82 #[.int .i64 n,.int .i64 lo,.int .i64 hi] w fun v w'=>v=.bool (rightN n lo hi)∧Sat R Hs w':=by
 apply call82
 unfold rightN
 refine Br.d (fun h=>⟨?_,hw⟩) (fun h=>⟨by rw [decide_eq_false (by omega)],hw⟩)
 congr 1
 rw [decide_eq_decide]
 omega
theorem down_spec (t:Int) (hw:Sat R (ElAt R p e::Hs) w):Gets Tryz.prog 231 #[.pointer (some ⟨p,0,none⟩),.int .i64 t] w fun v w'=>v=.tuple #[]∧Sat R (ElAt R p (e.down t)::Hs) w':=by
 obtain ⟨sv,sl,m,hg,hw⟩:=ElAt.iff.1 hw
 apply call231
 refine NilP.mk rfl ?_
 refine store_rule hw (by kernel_rfl) rfl (by simp [Value.cells,putL_len]) fun w hw=>?_
 refine NilP.mk rfl ?_
 refine store_rule hw (by kernel_rfl) rfl (by simp [Value.cells,putL_len]) fun w hw=>?_
 refine NilP.mk rfl ?_
 refine store_rule hw (by kernel_rfl) rfl (by simp [Value.cells,putL_len]) fun w hw=>?_
 have hw:Sat R (pts p (eCells { e with hd:=⟨t,0⟩,role:=0,lead:=0 } sv sl m)::SaidAt m e.yes e.no::Hs) w:=hw
 refine NilP.mk rfl ⟨_,At.own (eqS hw) (by exact ⟨rfl,trivial⟩),?_⟩
 obtain ⟨es,sy,sn,_,hw⟩:=SaidAt.iff.1 hw.swap
 refine MapAt.clear mapS.hT hw fun w hw=>⟨rfl,ElAt.iff.2 ⟨sv,sl,m,hg,?_⟩⟩
 have hw2:Sat R (Own sy 3 (ints e.yes)::Own sn 3 (ints e.no)::MapAt m ([]:List (Bool × Value))::pts p (eCells { e with hd:=⟨t,0⟩,role:=0,lead:=0 } sv sl m)::Hs) w:=hw.arr
 exact Sat.swap (SaidAt.iff.2 ⟨[],⟨none,0,0⟩,⟨none,0,0⟩,⟨rfl,rfl⟩,hw2.drop.drop.cons fun _ h=>Own.nil (Own.nil h)⟩)
theorem join_spec {g:Gp} {tv tl:Sl} (hn:GpIn R g tv tl) (hw:Sat R (ElAt R p e::Hs) w):Gets Tryz.prog 90 #[.pointer (some ⟨p,0,none⟩),.agg #[.slice tv.a tv.len tv.cap,.slice tl.a tl.len tl.cap]] w fun v w'=>
  v=.int .i64 (if rightG g.vs g.ls then 0 else 1)∧Sat R (ElAt R p (e.join g)::Hs) w':=by
 obtain ⟨sv,sl,m,hg,hw⟩:=ElAt.iff.1 hw
 apply call90
 refine new_rule hw fun b w hw=>⟨tv,tl,At.own (eqS hw) (by exact ⟨rfl,rfl,trivial⟩),?_⟩
 refine (right_spec hw hn.v hn.l).use ?_
 clear hw
 rintro _ w ⟨rfl,hw⟩
 unfold Eln.join
 refine ⟨_,rfl,Br.nb (fun h=>?_) (fun h=>⟨tv,tl,At.own (eqS hw) (by exact ⟨rfl,rfl,trivial⟩),NilP.mk rfl ?_⟩)⟩
 ·rw [h];exact ⟨rfl,ElAt.iff.2 ⟨sv,sl,m,hg,hw.drop⟩⟩
 ·rw [h,if_pos rfl,if_pos rfl]
  have hw:=hw.swap
  refine store_rule hw (by kernel_rfl) rfl (by simp [Value.cells,putL_len]) fun w hw=>?_
  have hw:Sat R (pts p (eCells { e with g:=g } tv tl m)::pts b (.cells [.slice tv.a tv.len tv.cap,.slice tl.a tl.len tl.cap].toArray 32 (0,0))::SaidAt m e.yes e.no::Hs) w:=hw
  exact ⟨rfl,ElAt.iff.2 ⟨tv,tl,m,hn,hw.cons fun _ h=>h.drop⟩⟩
theorem alone_spec (role:Int) (hw:Sat R (ElAt R p e::Hs) w):Gets Tryz.prog 96 #[.pointer (some ⟨p,0,none⟩),.int .i64 role] w fun v w'=>
  v=.bool (e.alone role).wins∧Sat R (ElAt R p (e.alone role)::Hs) w':=by
 obtain ⟨sv,sl,m,hg,hw⟩:=ElAt.iff.1 hw
 apply call96
 refine new_rule hw fun m2 w hw=>?_
 have hw:=MapAt.new (α:=Bool) rfl hw
 refine NilP.mk rfl ⟨_,At.own (eqS hw) (by exact ⟨rfl,trivial⟩),new_rule hw fun b w hw=>?_⟩
 have hw:Sat R (MapAt m2 ([]:List (Bool × Value))::pts b (.cells [.int .i64 e.id].toArray 3 (0,0))::pts p (eCells e sv sl m)::SaidAt m e.yes e.no::Hs) w:=hw.arr
 refine MapAt.put mapS hw true _ fun w hw=>NilP.mk rfl ?_
 have hw:Sat R (MapAt m2 [(true,Value.slice (some ⟨b,0,none⟩) 1 1)]::pts b (.cells [.int .i64 e.id].toArray 3 (0,0))::pts p (eCells e sv sl m)::SaidAt m e.yes e.no::Hs) w:=hw
 have hw:Sat R (pts p (eCells e sv sl m)::MapAt m2 [(true,Value.slice (some ⟨b,0,none⟩) 1 1)]::pts b (.cells [.int .i64 e.id].toArray 3 (0,0))::SaidAt m e.yes e.no::Hs) w:=hw.arr
 refine store_rule hw (by kernel_rfl) rfl (by simp [Value.cells,putL_len]) fun w hw=>?_
 refine NilP.mk rfl ?_
 refine store_rule hw (by kernel_rfl) rfl (by simp [Value.cells,putL_len]) fun w hw=>?_
 have hw:Sat R (pts p (eCells (e.alone role) sv sl m2)::MapAt m2 [(true,Value.slice (some ⟨b,0,none⟩) 1 1)]::pts b (.cells [.int .i64 e.id].toArray 3 (0,0))::SaidAt m e.yes e.no::Hs) w:=hw
 have h0:Sat R (pts b (.cells [.int .i64 e.id].toArray 3 (0,0))::pts p (eCells (e.alone role) sv sl m2)::MapAt m2 [(true,Value.slice (some ⟨b,0,none⟩) 1 1)]::SaidAt m e.yes e.no::Hs) w:=hw.arr
 have hw:Sat R (Own ⟨some ⟨b,0,none⟩,1,1⟩ 3 (ints [e.id])::pts p (eCells (e.alone role) sv sl m2)::MapAt m2 [(true,Value.slice (some ⟨b,0,none⟩) 1 1)]::SaidAt m e.yes e.no::Hs) w:=own_lit h0
 clear h0
 refine drw_rule' (Sat R [MapAt m2 [(true,Value.slice (some ⟨b,0,none⟩) 1 1)],pts p (eCells (e.alone role) sv sl m2),VC.tru]) hw (fun w hw=>hw.k2) fun w hw=>NilP.mk rfl ⟨sv,sl,At.own selfS (by exact ⟨rfl,rfl,trivial⟩),NilP.mk rfl ⟨some m2,At.own selfS (by exact ⟨rfl,trivial⟩),⟨some ⟨b,0,none⟩,1,1⟩,fun w h=>MapAt.lookS h true rfl,?_⟩⟩
 obtain ⟨R2,hb,keep,hw,back⟩:=Own.lendI hw (by simp)
 refine (wins_spec hw (keep _ _ hg.v) (keep _ _ hg.l) hb).use ?_
 clear hw
 rintro _ w ⟨rfl,hw⟩
 have hw:=back hw
 refine ⟨_,rfl,hw.k2,rfl,ElAt.iff.2 ⟨sv,sl,m2,hg,?_⟩⟩
 have h2:Sat R (MapAt m2 [(true,Value.slice (some ⟨b,0,none⟩) 1 1)]::Own ⟨some ⟨b,0,none⟩,1,1⟩ 3 (ints [e.id])::pts p (eCells (e.alone role) sv sl m2)::SaidAt m e.yes e.no::Hs) w:=hw.arr
 have h3:Sat R (SaidAt m2 [e.id] []::pts p (eCells (e.alone role) sv sl m2)::SaidAt m e.yes e.no::Hs) w:=
  SaidAt.iff.2 ⟨_,⟨some ⟨b,0,none⟩,1,1⟩,⟨none,0,0⟩,⟨rfl,rfl⟩,h2.cons fun _ h=>h.cons fun _ h=>Own.nil h⟩
 exact h3.swap.cons fun _ h=>h.cons fun _ h=>h.drop
end
end Go.Proofs.YthpmfnffkjjlnaaGreat
/- Elections: runs, ticks, votes. Condition: bounds on numbers. -/
namespace Go.Proofs.YthpmfnffkjjlnaaGreat
set_option linter.unusedVariables false
set_option linter.unusedSimpArgs false
open Go Go.VC
variable {R R' R1:Cx} {Hs Rest Rest2:List HP} {w:World} {p:Nat} {e:Eln}
def BlQ (R:Cx) (Hs:List HP) (p:Nat) (r:List Bl × Eln) (v:Value) (w:World):Prop:=∃ t:Sl,v=.slice t.a t.len t.cap∧Sat R (BlO t r.1::ElAt R p r.2::Hs) w
theorem BlQ.nil {r:List Bl × Eln} (h:r=([],e)) (hw:Sat R (ElAt R p e::Hs) w):BlQ R Hs p r nilV w:=by subst h;exact ⟨⟨none,0,0⟩,rfl,OwnN.nil hw⟩
theorem eall_spec (ok:ElnOk e) (kd tm last lt:Int) (hw:Sat R (ElAt R p e::Hs) w):Gets Tryz.prog 98 #[.pointer (some ⟨p,0,none⟩),.int .i64 kd,.int .i64 tm,.int .i64 last,.int .i64 lt] w (BlQ R Hs p (e.all kd tm last lt,e)):=by
 obtain ⟨sv,sl,m,hg,hw⟩:=ElAt.iff.1 hw
 apply call98
 have h15:=rises_len15 (right_rises ok.g)
 have hsl:=hg.v.len
 refine NilP.mk rfl ⟨sv,At.own (eqS hw) (by exact ⟨rfl,trivial⟩),?_⟩
 refine ⟨fun out i w=>∃ k:Nat,i=k∧k≤e.g.vs.length∧Sat R (BlO out (((e.g.vs.take k).filter fun v=>v !=e.id).map fun v=>⟨kd,e.id,v,tm,last,lt,false⟩)::pts p (eCells e sv sl m)::SaidAt m e.yes e.no::Hs) w,fun _ i _=>e.g.vs.length - i.toNat,
  ⟨0,rfl,Nat.zero_le _,OwnN.nil hw⟩,?_⟩
 clear hw
 rintro _ out _ w ⟨k,rfl,hk,hw⟩
 refine Br.d (fun h=>?_) (fun h=>?_)
 ·have hk':k<e.g.vs.length:=by omega
  refine Ro.ix hg.v (eqS hw) k rfl hk' (NilP.mk rfl ⟨_,At.own (eqS hw) (by exact ⟨rfl,trivial⟩),?_⟩)
  rw [wrap64 (by omega) (by omega)]
  have es:=filter_snoc (fun v=>v !=e.id) hk'
  refine Br.ne (fun h2=>NilP.mk rfl ⟨_,At.own (eqS hw) (by exact ⟨rfl,trivial⟩),?_⟩) (fun h2=>⟨⟨k + 1,by omega,hk',?_⟩,by dsimp only;omega⟩)
  ·have hl:((e.g.vs.take k).filter fun v=>v !=e.id).length≤k:=Nat.le_trans (List.length_filter_le _ _) (by rw [List.length_take];omega)
   refine pushN_rule elBl hw rfl rfl (by rw [List.length_map,List.length_map];omega) (by rw [List.length_map,List.length_map];omega) fun s2 w hw=>?_
   refine ⟨⟨k + 1,by omega,hk',?_⟩,by dsimp only;omega⟩
   rw [es,if_pos (by simp [h2])]
   unfold BlO
   rw [List.map_append,List.map_append];exact hw
  ·rw [es,if_neg (by simp [h2]),List.append_nil];exact hw
 ·have:k=e.g.vs.length:=by omega
  subst this
  rw [List.take_length] at hw
  exact ⟨out,rfl,hw.cons fun _ h=>ElAt.iff.2 ⟨sv,sl,m,hg,h⟩⟩
theorem run_spec (ok:ElnOk e) (last lt:Int) (hw:Sat R (ElAt R p e::Hs) w):Gets Tryz.prog 97 #[.pointer (some ⟨p,0,none⟩),.int .i64 last,.int .i64 lt] w (BlQ R Hs p (e.run last lt)):=by
 obtain ⟨sv,sl,m,hg,hw⟩:=ElAt.iff.1 hw
 apply call97
 have h0:=ok.t0
 unfold Eln.run
 refine NilP.mk rfl ⟨_,At.own (eqS hw) (by exact ⟨rfl,trivial⟩),Br.d (fun h=>NilP.mk rfl ?_) (fun h=>?_)⟩
 ·refine store_rule hw (by kernel_rfl) rfl (by simp [Value.cells,putL_len]) fun w hw=>?_
  rw [if_pos h]
  exact .nil rfl (ElAt.iff.2 ⟨sv,sl,m,hg,hw⟩)
 rw [if_neg h]
 refine drw_rule hw fun w hw=>NilP.mk rfl ⟨_,At.own selfS (by exact ⟨rfl,trivial⟩),NilP.mk rfl ⟨_,At.own selfS (by exact ⟨rfl,trivial⟩),NilP.mk rfl ?_⟩⟩
 rw [wrap64 (by omega) (by omega)]
 refine store_rule hw (by kernel_rfl) rfl (by simp [Value.cells,putL_len]) fun w hw=>?_
 have hw:Sat R (ElAt R p { e with hd:=⟨e.hd.tm + 1,e.id⟩ }::Hs) w:=ElAt.iff.2 ⟨sv,sl,m,hg,hw⟩
 refine (alone_spec 2 hw).use ?_
 clear hw
 rintro _ w ⟨rfl,hw⟩
 obtain ⟨e1,he1⟩:∃ e1,e1=Eln.alone { e with hd:=⟨e.hd.tm + 1,e.id⟩ } 2:=⟨_,rfl⟩
 have ok1:ElnOk e1:=by
  have h3:ElnOk { e with hd:=⟨e.hd.tm + 1,e.id⟩ }:={ ok with t0:=by show 0≤e.hd.tm + 1;omega,t1:=by show e.hd.tm + 1≤_;omega,v0:=by show 0≤e.id;have:=ok.id0;omega,v1:=ok.id1 }
  rw [he1];exact h3.alone 2
 rw [←he1] at hw ⊢
 obtain ⟨sv,sl,m,hg,hw⟩:=ElAt.iff.1 hw
 refine ⟨_,rfl,Br.mk (fun h2=>NilP.mk rfl ⟨_,At.own (eqS hw) (by exact ⟨rfl,trivial⟩),NilP.mk rfl ?_⟩) (fun h2=>NilP.mk rfl ⟨_,At.own (eqS hw) (by exact ⟨rfl,trivial⟩),?_⟩)⟩
 ·refine store_rule hw (by kernel_rfl) rfl (by simp [Value.cells,putL_len]) fun w hw=>?_
  refine NilP.mk rfl ?_
  refine store_rule hw (by kernel_rfl) rfl (by simp [Value.cells,putL_len]) fun w hw=>?_
  rw [if_pos h2]
  exact .nil rfl (ElAt.iff.2 ⟨sv,sl,m,hg,hw⟩)
 ·rw [if_neg (by rw [h2];simp)]
  refine (eall_spec ok1 3 _ last lt (ElAt.iff.2 ⟨sv,sl,m,hg,hw⟩)).use ?_
  rintro _ w ⟨t,rfl,hw⟩
  exact ⟨t,rfl,t,rfl,hw⟩
theorem etick_spec (ok:ElnOk e) (hwt:e.wait<4611686018427387904) (draw last lt:Int) (hw:Sat R (ElAt R p e::Hs) w):Gets Tryz.prog 38 #[.pointer (some ⟨p,0,none⟩),.int .i64 draw,.int .i64 last,.int .i64 lt] w (BlQ R Hs p (e.tick draw last lt)):=by
 obtain ⟨sv,sl,m,hg,hw⟩:=ElAt.iff.1 hw
 apply call38
 have h0:=ok.w0
 have hp0:=ok.p0
 have hp1:=ok.p1
 have ht0:=ok.t0
 have ht1:=ok.t1
 have okh:ElnOk (e.hope draw):=by
  have h3:ElnOk { e with wait:=0,lim:=e.pat + (if 0>draw then 0 else draw).tmod e.pat,lead:=0 }:={ ok with w0:=Int.le_refl _ }
  exact h3.alone 1
 unfold Eln.tick
 refine NilP.mk rfl ⟨_,At.own (eqS hw) (by exact ⟨rfl,trivial⟩),Br.e (fun h=>?_) (fun h=>?_)⟩
 ·rw [if_pos (by simp [h])]
  exact .nil rfl (ElAt.iff.2 ⟨sv,sl,m,hg,hw⟩)
 rw [if_neg (by simp [h])]
 refine NilP.mk rfl ⟨_,At.own (eqS hw) (by exact ⟨rfl,trivial⟩),NilP.mk rfl ?_⟩
 rw [wrap64 (by omega) (by omega)]
 refine store_rule hw (by kernel_rfl) rfl (by simp [Value.cells,putL_len]) fun w hw=>?_
 have hw:Sat R (pts p (eCells { e with wait:=e.wait + 1 } sv sl m)::SaidAt m e.yes e.no::Hs) w:=hw
 refine ⟨fun w=>¬ (e.wait + 1<e.lim∨hasL e.g.vs e.id=false)∧Sat R (pts p (eCells { e with wait:=e.wait + 1 } sv sl m)::SaidAt m e.yes e.no::Hs) w,?_,?_⟩
 ·refine drw_rule hw fun w hw=>NilP.mk rfl ⟨_,At.own selfS (by exact ⟨rfl,trivial⟩),NilP.mk rfl ⟨_,At.own selfS (by exact ⟨rfl,trivial⟩),?_⟩⟩
  have out:∀ {w},(e.wait + 1<e.lim∨hasL e.g.vs e.id=false)→Sat R (pts p (eCells { e with wait:=e.wait + 1 } sv sl m)::SaidAt m e.yes e.no::Hs) w→BlQ R Hs p (if e.wait + 1<e.lim∨hasL e.g.vs e.id=false then ([],{ e with wait:=e.wait + 1 }) else if (e.hope draw).wins then (e.hope draw).run last lt else ((e.hope draw).all 1 (e.hd.tm + 1) last lt,e.hope draw)) nilV w:=fun h hw=>by
   rw [if_pos h];exact .nil rfl (ElAt.iff.2 ⟨sv,sl,m,hg,hw⟩)
  refine Br.d (fun h=>out (.inl h) hw) (fun h=>NilP.mk rfl ⟨sv,At.own selfS (by exact ⟨rfl,trivial⟩),NilP.mk rfl ⟨_,At.own selfS (by exact ⟨rfl,trivial⟩),?_⟩⟩)
  refine (contains_spec _ hw hg.v).use ?_
  clear hw
  rintro _ w ⟨rfl,hw⟩
  refine ⟨_,rfl,hw,Br.nb (fun h2=>out (.inr h2) hw) (fun h2=>⟨?_,hw⟩)⟩
  rintro (h3|h3)
  ·exact h h3
  ·rw [h2] at h3;cases h3
 clear hw
 rintro _ w ⟨hc,hw⟩
 show Drw w _
 dsimp only
 rw [if_neg hc]
 refine drw_rule hw fun w hw=>NilP.mk rfl ⟨e.pat,At.own selfS (by exact ⟨rfl,trivial⟩),NilP.mk rfl ⟨e.pat,At.own selfS (by exact ⟨rfl,trivial⟩),Nz.mk (by omega) (NilP.mk rfl ?_)⟩⟩
 refine store_rule hw (by kernel_rfl) rfl (by simp [Value.cells,putL_len]) fun w hw=>?_
 refine NilP.mk rfl ?_
 have hm:0≤(if 0>draw then 0 else draw).tmod e.pat∧(if 0>draw then 0 else draw).tmod e.pat<e.pat:=by
  refine ⟨Int.tmod_nonneg _ (by split<;>omega),?_⟩
  exact Int.tmod_lt_of_pos _ (by omega)
 rw [wrap64 (x:=e.pat + _) (by omega) (by omega)]
 refine store_rule hw (by kernel_rfl) rfl (by simp [Value.cells,putL_len]) fun w hw=>?_
 refine NilP.mk rfl ?_
 refine store_rule hw (by kernel_rfl) rfl (by simp [Value.cells,putL_len]) fun w hw=>?_
 have hw:Sat R (ElAt R p { e with wait:=0,lim:=e.pat + (if 0>draw then 0 else draw).tmod e.pat,lead:=0 }::Hs) w:=ElAt.iff.2 ⟨sv,sl,m,hg,hw⟩
 refine (alone_spec 1 hw).use ?_
 clear hw
 rintro _ w ⟨rfl,hw⟩
 have hw:Sat R (ElAt R p (e.hope draw)::Hs) w:=hw
 refine ⟨_,rfl,Br.mk (fun h2=>?_) (fun h2=>?_)⟩
 ·rw [if_pos (show (e.hope draw).wins=true from h2)]
  refine (run_spec okh last lt hw).use ?_
  rintro _ w ⟨t,rfl,hw⟩
  exact ⟨t,rfl,t,rfl,hw⟩
 ·rw [if_neg (by rw [show (e.hope draw).wins=false from h2];simp)]
  obtain ⟨sv,sl,m,hg,hw⟩:=ElAt.iff.1 hw
  refine NilP.mk rfl ⟨e.hd.tm,At.own (eqS hw) (by exact ⟨rfl,trivial⟩),?_⟩
  rw [wrap64 (by omega) (by omega)]
  refine (eall_spec okh 1 _ last lt (ElAt.iff.2 ⟨sv,sl,m,hg,hw⟩)).use ?_
  rintro _ w ⟨t,rfl,hw⟩
  exact ⟨t,rfl,t,rfl,hw⟩
theorem enew_spec {sv sl:Sl} {h:Hd} {g:Gp} (id pat:Int) (hn:GpIn R g sv sl) (hw:Sat R Hs w):
  Gets Tryz.prog 32 #[.int .i64 id,.agg #[.int .i64 h.tm,.int .i64 h.vt],.agg #[.slice sv.a sv.len sv.cap,.slice sl.a sl.len sl.cap],.int .i64 pat] w fun v w'=>
   (elOk id h g pat=true∧∃ p,v=.tuple #[.pointer (some ⟨p,0,none⟩),.int .i64 0]∧Sat R (ElAt R p (Eln.new id h g pat)::Hs) w')∨(elOk id h g pat=false∧v=.tuple #[.pointer none,.int .i64 1]∧Sat R Hs w'):=by
 apply call32
 unfold elOk
 refine new_rule hw fun b1 w hw=>new_rule hw fun b2 w hw=>?_
 refine (rightN_spec hw).use ?_
 clear hw
 rintro _ w ⟨rfl,hw⟩
 refine ⟨_,rfl,Br.nb (fun h1=>.inr ⟨by rw [h1];rfl,rfl,hw.drop.drop⟩) (fun h1=>⟨_,At.own (eqS hw) (by exact ⟨rfl,trivial⟩),?_⟩)⟩
 refine (rightN_spec hw).use ?_
 clear hw
 rintro _ w ⟨rfl,hw⟩
 refine ⟨_,rfl,Br.nb (fun h2=>.inr ⟨by rw [h1,h2];rfl,rfl,hw.drop.drop⟩) (fun h2=>⟨_,At.own (eqS hw) (by exact ⟨rfl,trivial⟩),?_⟩)⟩
 refine (rightN_spec hw).use ?_
 clear hw
 rintro _ w ⟨rfl,hw⟩
 refine ⟨_,rfl,Br.nb (fun h3=>.inr ⟨by rw [h1,h2,h3];rfl,rfl,hw.drop.drop⟩) (fun h3=>?_)⟩
 refine (rightN_spec hw).use ?_
 clear hw
 rintro _ w ⟨rfl,hw⟩
 refine ⟨_,rfl,Br.nb (fun h4=>.inr ⟨by rw [h1,h2,h3,h4];rfl,rfl,hw.drop.drop⟩) (fun h4=>⟨sv,sl,At.own (eqS hw) (by exact ⟨rfl,rfl,trivial⟩),?_⟩)⟩
 refine (right_spec hw hn.v hn.l).use ?_
 clear hw
 rintro _ w ⟨rfl,hw⟩
 refine ⟨_,rfl,Br.nb (fun h5=>.inr ⟨by rw [h1,h2,h3,h4,h5];rfl,rfl,hw.drop.drop⟩) (fun h5=>⟨_,_,At.own (eqS hw) (by exact ⟨rfl,rfl,trivial⟩),sv,sl,At.own (eqS hw) (by exact ⟨rfl,rfl,trivial⟩),?_⟩)⟩
 refine new_rule hw fun m w hw=>new_rule hw fun p w hw=>.inl ⟨by rw [h1,h2,h3,h4,h5];rfl,p,rfl,ElAt.iff.2 ⟨sv,sl,m,hn,hw.cons fun _ h=>?_⟩⟩
 exact SaidAt.iff.2 ⟨[],⟨none,0,0⟩,⟨none,0,0⟩,⟨rfl,rfl⟩,Sat.cons (fun _ h=>Own.nil (Own.nil h.drop.drop)) (MapAt.new (α:=Bool) rfl h)⟩
end Go.Proofs.YthpmfnffkjjlnaaGreat
/- Elections: answers, votes. Condition: none. -/
namespace Go.Proofs.YthpmfnffkjjlnaaGreat
set_option linter.unusedVariables false
set_option linter.unusedSimpArgs false
open Go Go.VC
variable {R R' R1:Cx} {Hs Rest Rest2:List HP} {w:World} {p:Nat} {e:Eln}
theorem says_f {fr:Int} {y:Bool}:(e.says fr y).g=e.g∧(e.says fr y).role=e.role∧(e.says fr y).hd=e.hd∧(e.says fr y).id=e.id:=by
 unfold Eln.says
 split
 ·exact ⟨rfl,rfl,rfl,rfl⟩
 ·split<;>exact ⟨rfl,rfl,rfl,rfl⟩
theorem says_cells {fr:Int} {y:Bool} (sv sl:Sl) (m:Nat):eCells (e.says fr y) sv sl m=eCells e sv sl m:=by
 unfold Eln.says
 split
 ·rfl
 ·split<;>rfl
theorem say_spec (ok:ElnOk e) (fr:Int) (y:Bool) (hw:Sat R (ElAt R p e::Hs) w):Gets Tryz.prog 234 #[.pointer (some ⟨p,0,none⟩),.int .i64 fr,.bool y] w fun v w'=>v=.int .i64 (e.says fr y).outc∧Sat R (ElAt R p (e.says fr y)::Hs) w':=by
 obtain ⟨sv,sl,m,hg,hw⟩:=ElAt.iff.1 hw
 apply call234
 have hl:=ok.len
 refine ⟨fun w=>Sat R (pts p (eCells e sv sl m)::SaidAt m (e.says fr y).yes (e.says fr y).no::Hs) w,?_,?_⟩
 ·obtain ⟨es,sy,sn,⟨h1,h2⟩,hw⟩:=SaidAt.iff.1 hw.swap
  have hw:Sat R (MapAt m es::Own sy 3 (ints e.yes)::Own sn 3 (ints e.no)::pts p (eCells e sv sl m)::Hs) w:=hw
  refine ⟨fun b w=>b=!(hasL e.yes fr||hasL e.no fr)∧Sat R (MapAt m es::Own sy 3 (ints e.yes)::Own sn 3 (ints e.no)::pts p (eCells e sv sl m)::Hs) w,?_,?_⟩
  ·refine NilP.mk rfl ⟨some m,At.own (eqS hw) (by exact ⟨rfl,trivial⟩),sy,fun w' h=>by subst h;exact MapAt.lookS hw true h1,?_⟩
   obtain ⟨R2,hb,_,hw,back⟩:=Own.lendI hw.swap (by omega)
   refine (contains_spec fr hw hb).use ?_
   clear hw
   rintro _ w ⟨rfl,hw⟩
   have hw:=(back hw).swap
   clear back
   refine ⟨_,rfl,Br.nb (fun h=>NilP.mk rfl ⟨some m,At.own (eqS hw) (by exact ⟨rfl,trivial⟩),sn,fun w' h=>by subst h;exact MapAt.lookS hw false h2,?_⟩) (fun h=>⟨by rw [h];rfl,hw⟩)⟩
   have hw2:Sat R (Own sn 3 (ints e.no)::MapAt m es::Own sy 3 (ints e.yes)::pts p (eCells e sv sl m)::Hs) w:=hw.arr
   obtain ⟨R2,hb,_,hw,back⟩:=Own.lendI hw2 (by omega)
   refine (contains_spec fr hw hb).use ?_
   clear hw
   rintro _ w ⟨rfl,hw⟩
   have hw:=back hw
   exact ⟨_,rfl,by rw [h,Bool.false_or],hw.arr⟩
  clear hw
  rintro _ _ w ⟨rfl,hw⟩
  refine Br.nb (fun h=>?_) (fun h=>?_)
  ·have es1:e.says fr y=if y then { e with yes:=e.yes++[fr] } else { e with no:=e.no++[fr] }:=by unfold Eln.says;rw [if_neg (by rw [h];simp)]
   refine drw_rule' (Sat R [MapAt m es,pts p (eCells e sv sl m),VC.tru]) hw (fun w hw=>hw.k2) fun w hw=>NilP.mk rfl ⟨some m,At.own selfS (by exact ⟨rfl,trivial⟩),NilP.mk rfl ⟨some m,At.own selfS (by exact ⟨rfl,trivial⟩),?_⟩⟩
   cases y with
   |true=>
    rw [if_pos rfl] at es1
    refine ⟨sy,fun w' h=>MapAt.lookS h true h1,new_rule hw fun b w hw=>⟨hw.k2,?_⟩⟩
    have hw:=own_lit hw
    have hw:=hw.re (Own ⟨some ⟨b,0,none⟩,1,1⟩ 3 (ints [fr]))
    have hw:Sat R (Own sy 3 (ints e.yes)::Own ⟨some ⟨b,0,none⟩,1,1⟩ 3 (ints [fr])::MapAt m es::Own sn 3 (ints e.no)::pts p (eCells e sv sl m)::Hs) w:=hw.arr
    refine appendOO (s:=sy) (t:=⟨some ⟨b,0,none⟩,1,1⟩) (k:=.i64) (n:=16) el_int Tryz.underlying30 hw (by simp;omega) (by omega) (by omega) fun s' w hw=>⟨hw.k2,?_⟩
    have hw:Sat R (MapAt m es::Own ⟨some ⟨b,0,none⟩,1,1⟩ 3 (ints [fr])::Own s' 3 (ints (e.yes++[fr]))::Own sn 3 (ints e.no)::pts p (eCells e sv sl m)::Hs) w:=hw.arr
    refine MapAt.put mapS hw true _ fun w hw=>?_
    rw [es1]
    have hw:=hw.swap.drop
    have hw:Sat R (SaidAt m (e.yes++[fr]) e.no::pts p (eCells e sv sl m)::Hs) w:=SaidAt.iff.2 ⟨_,s',sn,⟨by rw [getM_putM',if_pos (by rfl)];rfl,by rw [getM_putM',if_neg (by decide)];exact h2⟩,hw⟩
    exact hw.swap
   |false=>
    rw [if_neg (by decide)] at es1
    refine ⟨sn,fun w' h=>MapAt.lookS h false h2,new_rule hw fun b w hw=>⟨hw.k2,?_⟩⟩
    have hw:=own_lit hw
    have hw:=hw.re (Own ⟨some ⟨b,0,none⟩,1,1⟩ 3 (ints [fr]))
    have hw:Sat R (Own sn 3 (ints e.no)::Own ⟨some ⟨b,0,none⟩,1,1⟩ 3 (ints [fr])::MapAt m es::Own sy 3 (ints e.yes)::pts p (eCells e sv sl m)::Hs) w:=hw.arr
    refine appendOO (s:=sn) (t:=⟨some ⟨b,0,none⟩,1,1⟩) (k:=.i64) (n:=16) el_int Tryz.underlying30 hw (by simp;omega) (by omega) (by omega) fun s' w hw=>⟨hw.k2,?_⟩
    have hw:Sat R (MapAt m es::Own ⟨some ⟨b,0,none⟩,1,1⟩ 3 (ints [fr])::Own sy 3 (ints e.yes)::Own s' 3 (ints (e.no++[fr]))::pts p (eCells e sv sl m)::Hs) w:=hw.arr
    refine MapAt.put mapS hw false _ fun w hw=>?_
    rw [es1]
    have hw:=hw.swap.drop
    have hw:Sat R (SaidAt m e.yes (e.no++[fr])::pts p (eCells e sv sl m)::Hs) w:=SaidAt.iff.2 ⟨_,sy,s',⟨by rw [getM_putM',if_neg (by decide)];exact h1,by rw [getM_putM',if_pos (by rfl)];rfl⟩,hw⟩
    exact hw.swap
  ·have es1:e.says fr y=e:=by unfold Eln.says;rw [if_pos h]
   rw [es1]
   have hw:Sat R (SaidAt m e.yes e.no::pts p (eCells e sv sl m)::Hs) w:=SaidAt.iff.2 ⟨es,sy,sn,⟨h1,h2⟩,hw⟩
   exact hw.swap
 clear hw
 rintro _ w hw
 obtain ⟨yes,hy⟩:∃ yes,yes=(e.says fr y).yes:=⟨_,rfl⟩
 obtain ⟨no,hn⟩:∃ no,no=(e.says fr y).no:=⟨_,rfl⟩
 have fin:∀ {w},Sat R (pts p (eCells e sv sl m)::SaidAt m yes no::Hs) w→Sat R (ElAt R p (e.says fr y)::Hs) w:=fun hw=>by
  refine ElAt.iff.2 ⟨sv,sl,m,by rw [says_f.1];exact hg,?_⟩
  rw [says_cells,←hy,←hn];exact hw
 have hout:(e.says fr y).outc=if winsG e.g.vs e.g.ls yes then 1 else if lostG e.g.vs e.g.ls no then 2 else 0:=by
  unfold Eln.outc Eln.wins Eln.lost
  rw [says_f.1,←hy,←hn]
 rw [←hy,←hn] at hw
 rw [hout]
 have hly:yes.length≤16∧no.length≤16:=by
  rw [hy,hn];unfold Eln.says
  split
  ·omega
  ·split<;>simp<;>omega
 obtain ⟨es,sy,sn,⟨h1,h2⟩,hw⟩:=SaidAt.iff.1 hw.swap
 have hw:Sat R (MapAt m es::Own sy 3 (ints yes)::Own sn 3 (ints no)::pts p (eCells e sv sl m)::Hs) w:=hw
 have fin2:∀ {w},Sat R (MapAt m es::Own sy 3 (ints yes)::Own sn 3 (ints no)::pts p (eCells e sv sl m)::Hs) w→Sat R (ElAt R p (e.says fr y)::Hs) w:=fun hw=>by
  have hw:Sat R (SaidAt m yes no::pts p (eCells e sv sl m)::Hs) _:=SaidAt.iff.2 ⟨es,sy,sn,⟨h1,h2⟩,hw⟩
  exact fin hw.swap
 refine drw_rule' (Sat R [MapAt m es,pts p (eCells e sv sl m),VC.tru]) hw (fun w hw=>hw.k2) fun w hw=>NilP.mk rfl ⟨sv,sl,At.own selfS (by exact ⟨rfl,rfl,trivial⟩),NilP.mk rfl ⟨some m,At.own selfS (by exact ⟨rfl,trivial⟩),sy,fun w' h=>MapAt.lookS h true h1,?_⟩⟩
 obtain ⟨R2,hb,keep,hw,back⟩:=Own.lendI hw.swap (by omega)
 refine (wins_spec hw (keep _ _ hg.v) (keep _ _ hg.l) hb).use ?_
 clear hw
 rintro _ w ⟨rfl,hw⟩
 have hw:=(back hw).swap
 clear back keep
 refine ⟨_,rfl,hw.k2,Br.mk (fun h=>⟨by rw [h];rfl,fin2 hw⟩) fun h=>?_⟩
 rw [if_neg (by rw [h];simp)]
 refine drw_rule' (Sat R [MapAt m es,pts p (eCells e sv sl m),VC.tru]) hw (fun w hw=>hw.k2) fun w hw=>NilP.mk rfl ⟨sv,sl,At.own selfS (by exact ⟨rfl,rfl,trivial⟩),NilP.mk rfl ⟨some m,At.own selfS (by exact ⟨rfl,trivial⟩),sn,fun w' h=>MapAt.lookS h false h2,?_⟩⟩
 have hw2:Sat R (Own sn 3 (ints no)::MapAt m es::Own sy 3 (ints yes)::pts p (eCells e sv sl m)::Hs) w:=hw.arr
 obtain ⟨R2,hb,keep,hw,back⟩:=Own.lendI hw2 (by omega)
 refine (lost_spec hw (keep _ _ hg.v) (keep _ _ hg.l) hb).use ?_
 clear hw
 rintro _ w ⟨rfl,hw⟩
 have hw3:=back hw
 have hw:Sat R (MapAt m es::Own sy 3 (ints yes)::Own sn 3 (ints no)::pts p (eCells e sv sl m)::Hs) w:=hw3.arr
 exact ⟨_,rfl,hw.k2,Br.mk (fun h=>⟨by rw [h];rfl,fin2 hw⟩) fun h=>⟨by rw [h];rfl,fin2 hw⟩⟩
theorem counted_spec (ok:ElnOk e) (o last lt:Int) (hw:Sat R (ElAt R p e::Hs) w):Gets Tryz.prog 233 #[.pointer (some ⟨p,0,none⟩),.int .i64 o,.int .i64 last,.int .i64 lt] w (BlQ R Hs p (e.counted o last lt)):=by
 obtain ⟨C,hC⟩:∃ C,C=e.counted o last lt:=⟨_,rfl⟩
 rw [←hC]
 unfold Eln.counted at hC
 apply call233
 refine Br.e (fun h=>?_) (fun h=>?_)
 ·obtain ⟨sv,sl,m,hg,hw⟩:=ElAt.iff.1 hw
  refine NilP.mk rfl ?_
  refine store_rule hw (by kernel_rfl) rfl (by simp [Value.cells,putL_len]) fun w hw=>?_
  rw [if_pos (by simpa using h)] at hC
  exact BlQ.nil hC (ElAt.iff.2 ⟨sv,sl,m,hg,hw⟩)
 rw [if_neg (by simpa using h)] at hC
 refine ⟨fun b w=>b=(o==1 && e.role==1)∧Sat R (ElAt R p e::Hs) w,?_,?_⟩
 ·refine Br.e (fun h=>?_) (fun h=>⟨by rw [show (o==1)=false by simpa using h];rfl,hw⟩)
  obtain ⟨sv,sl,m,hg,hw⟩:=ElAt.iff.1 hw
  exact NilP.mk rfl ⟨e.role,At.own (eqS hw) (by exact ⟨rfl,trivial⟩),by rw [show (o==1)=true by simpa using h];rfl,ElAt.iff.2 ⟨sv,sl,m,hg,hw⟩⟩
 clear hw
 rintro _ _ w ⟨rfl,hw⟩
 refine Br.mk (fun h2=>?_) (fun h2=>?_)
 ·rw [if_pos h2] at hC
  refine (run_spec ok last lt hw).use ?_
  rintro _ w ⟨t,rfl,hw⟩
  rw [hC]
  exact ⟨t,rfl,t,rfl,hw⟩
 rw [if_neg (by rw [h2];simp)] at hC
 refine Br.e (fun h3=>?_) (fun h3=>?_)
 ·rw [if_pos (by simpa using h3)] at hC
  obtain ⟨sv,sl,m,hg,hw⟩:=ElAt.iff.1 hw
  refine NilP.mk rfl ⟨e.id,At.own (eqS hw) (by exact ⟨rfl,trivial⟩),NilP.mk rfl ?_⟩
  refine store_rule hw (by kernel_rfl) rfl (by simp [Value.cells,putL_len]) fun w hw=>?_
  refine NilP.mk rfl ?_
  refine store_rule hw (by kernel_rfl) rfl (by simp [Value.cells,putL_len]) fun w hw=>?_
  exact BlQ.nil hC (ElAt.iff.2 ⟨sv,sl,m,hg,hw⟩)
 ·rw [if_neg (by simpa using h3)] at hC
  exact BlQ.nil hC hw
theorem vote_spec {b:Bl} (old:Bool) (hw:Sat R (ElAt R p e::Hs) w):Gets Tryz.prog 232 #[.pointer (some ⟨p,0,none⟩),blVal b,.bool old] w fun v w'=>v=.bool (e.mayVote b old)∧Sat R (ElAt R p (e.vote b old)::Hs) w':=by
 obtain ⟨sv,sl,m,hg,hw⟩:=ElAt.iff.1 hw
 apply call232
 refine new_rule hw fun q w hw=>?_
 obtain ⟨C,hC⟩:∃ C,C=e.mayVote b old:=⟨_,rfl⟩
 have ev:e.vote b old=if C then { e with hd:=⟨e.hd.tm,b.fr⟩,wait:=0,role:=if e.role==1 then 0 else e.role } else e:=by rw [hC];rfl
 rw [←hC,ev]
 unfold Eln.mayVote at hC
 have no:∀ {w},C=false→Sat R (pts q (.cells (blRow b).toArray 161 (0,0))::pts p (eCells e sv sl m)::SaidAt m e.yes e.no::Hs) w→Value.bool false=.bool C∧Sat R (ElAt R p (if C then { e with hd:=⟨e.hd.tm,b.fr⟩,wait:=0,role:=if e.role==1 then 0 else e.role } else e)::Hs) w:=fun h hw=>by
  rw [h,if_neg (by simp)];exact ⟨rfl,ElAt.iff.2 ⟨sv,sl,m,hg,hw.drop⟩⟩
 have hw:Sat R (pts q (.cells (blRow b).toArray 161 (0,0))::pts p (eCells e sv sl m)::SaidAt m e.yes e.no::Hs) w:=hw
 refine ⟨fun w=>C=true∧Sat R (pts q (.cells (blRow b).toArray 161 (0,0))::pts p (eCells e sv sl m)::SaidAt m e.yes e.no::Hs) w,?_,?_⟩
 ·refine drw_rule hw fun w hw=>⟨b.tm,At.own selfS (by exact ⟨rfl,trivial⟩),NilP.mk rfl ⟨e.hd.tm,At.own selfS (by exact ⟨rfl,trivial⟩),Br.ne (fun h=>no (by rw [hC,show (b.tm !=e.hd.tm)=true by simpa using h];rfl) hw) fun h=>NilP.mk rfl ⟨e.hd.vt,At.own selfS (by exact ⟨rfl,trivial⟩),?_⟩⟩⟩
  rw [show (b.tm !=e.hd.tm)=false by simpa using h] at hC
  refine Br.ne (fun h2=>NilP.mk rfl ⟨e.hd.vt,At.own selfS (by exact ⟨rfl,trivial⟩),b.fr,At.own selfS (by exact ⟨rfl,trivial⟩),Br.ne (fun h3=>no (by rw [hC,show (e.hd.vt !=0)=true by simpa using h2,show (e.hd.vt !=b.fr)=true by simpa using h3];rfl) hw) fun h3=>?_⟩) fun h2=>?_
  ·rw [show (e.hd.vt !=b.fr)=false by simpa using h3,Bool.and_false] at hC
   exact Br.nb (fun h4=>no (by rw [hC,h4];rfl) hw) fun h4=>⟨by rw [hC,h4];rfl,hw⟩
  ·rw [show (e.hd.vt !=0)=false by simpa using h2,Bool.false_and] at hC
   exact Br.nb (fun h4=>no (by rw [hC,h4];rfl) hw) fun h4=>⟨by rw [hC,h4];rfl,hw⟩
 clear hw
 rintro _ w ⟨hc,hw⟩
 rw [hc,if_pos rfl]
 have hw:=hw.swap
 refine ⟨b.fr,At.own (eqS hw) (by exact ⟨rfl,trivial⟩),NilP.mk rfl ?_⟩
 refine store_rule hw (by kernel_rfl) rfl (by simp [Value.cells,putL_len]) fun w hw=>?_
 refine NilP.mk rfl ?_
 refine store_rule hw (by kernel_rfl) rfl (by simp [Value.cells,putL_len]) fun w hw=>?_
 have hw:=hw.re (pts p (eCells { e with hd:=⟨e.hd.tm,b.fr⟩,wait:=0 } sv sl m))
 refine NilP.mk rfl ⟨e.role,At.own (eqS hw) (by exact ⟨rfl,trivial⟩),Br.e (fun h=>NilP.mk rfl ?_) fun h=>?_⟩
 ·refine store_rule hw (by kernel_rfl) rfl (by simp [Value.cells,putL_len]) fun w hw=>?_
  rw [if_pos (by simpa using h)]
  exact ⟨rfl,ElAt.iff.2 ⟨sv,sl,m,hg,hw.swap.drop⟩⟩
 ·rw [if_neg (by simpa using h)]
  exact ⟨rfl,ElAt.iff.2 ⟨sv,sl,m,hg,hw.swap.drop⟩⟩
theorem answer_spec {b:Bl} (kd t:Int) (y:Bool) (hw:Sat R (ElAt R p e::Hs) w):Gets Tryz.prog 230 #[.pointer (some ⟨p,0,none⟩),blVal b,.int .i64 kd,.int .i64 t,.bool y] w (BlQ R Hs p (e.ans b kd t y,e)):=by
 obtain ⟨sv,sl,m,hg,hw⟩:=ElAt.iff.1 hw
 apply call230
 refine new_rule hw fun q w hw=>drw_rule' (Sat R [pts q (.cells (blRow b).toArray 161 (0,0)),pts p (eCells e sv sl m),VC.tru]) hw (fun w hw=>hw.k2) fun w hw=>NilP.mk rfl ⟨e.id,At.own selfS (by exact ⟨rfl,trivial⟩),b.fr,At.own selfS (by exact ⟨rfl,trivial⟩),new_rule hw fun c w hw=>⟨hw.k2,?_⟩⟩
 refine ⟨⟨some ⟨c,0,none⟩,1,1⟩,rfl,?_⟩
 have hw:Sat R (pts c (.cells (blRow ⟨kd,e.id,b.fr,t,0,0,y⟩).toArray 161 (0,0))::pts q (.cells (blRow b).toArray 161 (0,0))::pts p (eCells e sv sl m)::SaidAt m e.yes e.no::Hs) w:=hw
 have hw:Sat R (BlO ⟨some ⟨c,0,none⟩,1,1⟩ [⟨kd,e.id,b.fr,t,0,0,y⟩]::pts q (.cells (blRow b).toArray 161 (0,0))::pts p (eCells e sv sl m)::SaidAt m e.yes e.no::Hs) w:=
  OwnN.of_pts (n:=7) (cap:=1) (rest:=[]) (rows:=[blRow ⟨kd,e.id,b.fr,t,0,0,y⟩]) (Wid.one rfl) rfl hw
 exact hw.cons fun _ h=>ElAt.iff.2 ⟨sv,sl,m,hg,h.drop⟩
theorem heard_spec (fr t:Int) (hw:Sat R (ElAt R p e::Hs) w):Gets Tryz.prog 186 #[.pointer (some ⟨p,0,none⟩),.int .i64 fr,.int .i64 t] w fun v w'=>v=.bool (e.heardOk fr t)∧Sat R (ElAt R p (e.heard fr t)::Hs) w':=by
 apply call186
 obtain ⟨C,hC⟩:∃ C,C=e.heardOk fr t:=⟨_,rfl⟩
 have ev:e.heard fr t=if C then { (if t>e.hd.tm then e.down t else e) with role:=0,lead:=fr,wait:=0 } else e:=by rw [hC];rfl
 rw [←hC,ev]
 unfold Eln.heardOk at hC
 have no:∀ {w},C=false→Sat R (ElAt R p e::Hs) w→Value.bool false=.bool C∧Sat R (ElAt R p (if C then { (if t>e.hd.tm then e.down t else e) with role:=0,lead:=fr,wait:=0 } else e)::Hs) w:=fun h hw=>by
  rw [h,if_neg (by simp)];exact ⟨rfl,hw⟩
 refine ⟨fun w=>C=true∧Sat R (ElAt R p e::Hs) w,?_,?_⟩
 ·refine (eother_spec fr hw).use ?_
  clear hw
  rintro _ w ⟨rfl,hw⟩
  refine ⟨_,rfl,Br.nb (fun h=>no (by rw [hC,h];rfl) hw) fun h=>?_⟩
  obtain ⟨sv,sl,m,hg,hw⟩:=ElAt.iff.1 hw
  have hw':=ElAt.iff.2 ⟨sv,sl,m,hg,hw⟩
  refine NilP.mk rfl ⟨e.hd.tm,At.own (eqS hw) (by exact ⟨rfl,trivial⟩),Br.d (fun h2=>no (by rw [hC,h,decide_eq_true h2];rfl) hw') fun h2=>Br.d (fun h3=>no (by rw [hC,h,decide_eq_false h2,decide_eq_true h3];rfl) hw') fun h3=>NilP.mk rfl ⟨e.hd.tm,At.own (eqS hw) (by exact ⟨rfl,trivial⟩),Br.e (fun h4=>NilP.mk rfl ⟨e.role,At.own (eqS hw) (by exact ⟨rfl,trivial⟩),Br.e (fun h5=>no ?_ hw') fun h5=>⟨?_,hw'⟩⟩) fun h4=>⟨?_,hw'⟩⟩⟩
  ·rw [hC,h,decide_eq_false h2,decide_eq_false h3,show (t==e.hd.tm)=true by simpa using h4,show (e.role==3)=true by simpa using h5];rfl
  ·rw [hC,h,decide_eq_false h2,decide_eq_false h3,show (t==e.hd.tm)=true by simpa using h4,show (e.role==3)=false by simpa using h5];rfl
  ·rw [hC,h,decide_eq_false h2,decide_eq_false h3,show (t==e.hd.tm)=false by simpa using h4];rfl
 clear hw
 rintro _ w ⟨hc,hw⟩
 rw [hc,if_pos rfl]
 refine ⟨fun w=>Sat R (ElAt R p (if t>e.hd.tm then e.down t else e)::Hs) w,?_,?_⟩
 ·obtain ⟨sv,sl,m,hg,hw⟩:=ElAt.iff.1 hw
  refine NilP.mk rfl ⟨e.hd.tm,At.own (eqS hw) (by exact ⟨rfl,trivial⟩),Br.d (fun h=>?_) fun h=>by rw [if_neg h];exact ElAt.iff.2 ⟨sv,sl,m,hg,hw⟩⟩
  refine (down_spec t (ElAt.iff.2 ⟨sv,sl,m,hg,hw⟩)).use ?_
  rintro _ w ⟨rfl,hw⟩
  rw [if_pos h]
  exact ⟨rfl,hw⟩
 clear hw
 rintro _ w hw
 obtain ⟨e1,he1⟩:∃ e1,e1=if t>e.hd.tm then e.down t else e:=⟨_,rfl⟩
 rw [←he1] at hw ⊢
 obtain ⟨sv,sl,m,hg,hw⟩:=ElAt.iff.1 hw
 refine NilP.mk rfl ?_
 refine store_rule hw (by kernel_rfl) rfl (by simp [Value.cells,putL_len]) fun w hw=>?_
 refine NilP.mk rfl ?_
 refine store_rule hw (by kernel_rfl) rfl (by simp [Value.cells,putL_len]) fun w hw=>?_
 refine NilP.mk rfl ?_
 refine store_rule hw (by kernel_rfl) rfl (by simp [Value.cells,putL_len]) fun w hw=>?_
 exact ⟨rfl,ElAt.iff.2 ⟨sv,sl,m,hg,hw⟩⟩
end Go.Proofs.YthpmfnffkjjlnaaGreat
/- Elections: a ballot is taken. Condition: none. -/
namespace Go.Proofs.YthpmfnffkjjlnaaGreat
set_option linter.unusedVariables false
set_option linter.unusedSimpArgs false
open Go Go.VC
variable {R R' R1:Cx} {Hs Rest Rest2:List HP} {w:World} {p:Nat} {e:Eln}
abbrev blC (b:Bl):Obj:=.cells (blRow b).toArray 161 (0,0)
theorem vote_f {b:Bl} {old:Bool}:(e.vote b old).hd.tm=e.hd.tm∧(e.vote b old).id=e.id∧(e.vote b old).g=e.g:=by
 unfold Eln.vote;split<;>exact ⟨rfl,rfl,rfl⟩
theorem BlQ.drop2 {A:HP} {r:List Bl × Eln} {v:Value} (h:BlQ R (A::Hs) p r v w):BlQ R Hs p r v w:=by
 obtain ⟨t,h1,hw⟩:=h
 exact ⟨t,h1,hw.cons fun _ h=>h.cons fun _ h=>h.drop⟩
set_option maxRecDepth 20000 in
theorem etake_spec (ok:ElnOk e) {b:Bl} (last lt:Int) (hw:Sat R (ElAt R p e::Hs) w):Gets Tryz.prog 185 #[.pointer (some ⟨p,0,none⟩),blVal b,.int .i64 last,.int .i64 lt] w (BlQ R Hs p (e.take b last lt)):=by
 apply call185
 refine new_rule hw fun q w hw=>?_
 have hw:Sat R (ElAt R p e::pts q (blC b)::Hs) w:=hw.swap
 obtain ⟨T,hT⟩:∃ T,T=e.take b last lt:=⟨_,rfl⟩
 rw [←hT]
 unfold Eln.take at hT
 have h0:=ok.t0
 have h1:=ok.t1
 have no:∀ {w},T=([],e)→Sat R (ElAt R p e::pts q (blC b)::Hs) w→BlQ R Hs p T nilV w:=fun h hw=>(BlQ.nil h hw).drop2
 refine ⟨fun w=>e.takeOk b=true∧Sat R (ElAt R p e::pts q (blC b)::Hs) w,?_,?_⟩
 ·obtain ⟨C,hC⟩:∃ C,C=e.takeOk b:=⟨_,rfl⟩
  rw [←hC]
  unfold Eln.takeOk at hC
  have no2:C=false→T=([],e):=fun h=>by rw [hT,if_neg];rw [show e.takeOk b=C by rw [hC];rfl,h];simp
  obtain ⟨sv,sl,m,hg,hw⟩:=ElAt.iff.1 hw
  have cl:∀ {w},Sat R (pts p (eCells e sv sl m)::SaidAt m e.yes e.no::pts q (blC b)::Hs) w→Sat R (ElAt R p e::pts q (blC b)::Hs) w:=fun hw=>ElAt.iff.2 ⟨sv,sl,m,hg,hw⟩
  refine drw_rule hw fun w hw=>⟨b.to',At.own selfS (by exact ⟨rfl,trivial⟩),NilP.mk rfl ⟨e.id,At.own selfS (by exact ⟨rfl,trivial⟩),Br.ne (fun h=>no (no2 (by rw [hC,show (b.to' !=e.id)=true by simpa using h];rfl)) (cl hw)) fun h=>⟨b.fr,At.own selfS (by exact ⟨rfl,trivial⟩),?_⟩⟩⟩
  rw [show (b.to' !=e.id)=false by simpa using h] at hC
  refine (other_spec b.fr hw).use ?_
  clear hw
  rintro _ w ⟨rfl,hw⟩
  refine ⟨_,rfl,hw,Br.nb (fun h2=>no (no2 (by rw [hC,h2];rfl)) (cl hw)) fun h2=>⟨b.tm,At.own selfS (by exact ⟨rfl,trivial⟩),Br.d (fun h3=>no (no2 (by rw [hC,h2,decide_eq_true h3];rfl)) (cl hw)) fun h3=>⟨b.tm,At.own selfS (by exact ⟨rfl,trivial⟩),Br.d (fun h4=>no (no2 (by rw [hC,h2,decide_eq_false h3,decide_eq_true h4];rfl)) (cl hw)) fun h4=>⟨by rw [hC,h2,decide_eq_false h3,decide_eq_false h4];rfl,cl hw⟩⟩⟩⟩
 clear hw
 rintro _ w ⟨hto,hw⟩
 rw [if_pos hto] at hT
 have hto':=hto
 unfold Eln.takeOk at hto'
 simp only [Bool.and_eq_true,Bool.not_eq_true',decide_eq_false_iff_not] at hto'
 have ho:=Eln.other_bd hto'.1.1.2
 have oks:=ok.says ho.1 ho.2.1 b.yes
 obtain ⟨sv,sl,m,hg,hw⟩:=ElAt.iff.1 hw
 have cl:∀ {w},Sat R (pts p (eCells e sv sl m)::SaidAt m e.yes e.no::pts q (blC b)::Hs) w→Sat R (ElAt R p e::pts q (blC b)::Hs) w:=fun hw=>ElAt.iff.2 ⟨sv,sl,m,hg,hw⟩
 dsimp only at hT
 refine drw_rule hw fun w hw=>⟨b.tm,At.own selfS (by exact ⟨rfl,trivial⟩),NilP.mk rfl ⟨e.hd.tm,At.own selfS (by exact ⟨rfl,trivial⟩),fun o w=>o=oldB b last lt∧Sat R (pts p (eCells e sv sl m)::SaidAt m e.yes e.no::pts q (blC b)::Hs) w,?_,?_⟩⟩
 ·unfold oldB
  refine ⟨b.lt,At.own (eqS hw) (by exact ⟨rfl,trivial⟩),Br.d (fun h=>⟨by rw [decide_eq_true h];rfl,hw⟩) fun h=>⟨b.lt,At.own (eqS hw) (by exact ⟨rfl,trivial⟩),Br.e (fun h2=>⟨b.ix,At.own (eqS hw) (by exact ⟨rfl,trivial⟩),by rw [decide_eq_false h,show (b.lt==lt)=true by simpa using h2];rfl,hw⟩) fun h2=>⟨by rw [decide_eq_false h,show (b.lt==lt)=false by simpa using h2];rfl,hw⟩⟩⟩
 clear hw
 rintro _ _ w ⟨rfl,hw⟩
 refine ⟨b.kd,At.own (eqS hw) (by exact ⟨rfl,trivial⟩),Br.e (fun hk=>?_) (fun hk=>?_)⟩
 ·rw [if_pos (by simpa using hk)] at hT
  refine drw_rule hw fun w hw=>?_
  by_cases hc:(decide (b.tm>e.hd.tm) && oldB b last lt && (e.lead==0||decide (e.wait ≥ e.pat)))=true
  ·rw [if_pos hc] at hT
   simp only [Bool.and_eq_true,Bool.or_eq_true] at hc
   obtain ⟨⟨c1,c2⟩,c3⟩:=hc
   refine Br.t c1 (Br.t c2 (NilP.mk rfl ⟨e.lead,At.own selfS (by exact ⟨rfl,trivial⟩),Br.mk (fun h4=>?_) (fun h4=>NilP.mk rfl ⟨e.wait,At.own selfS (by exact ⟨rfl,trivial⟩),NilP.mk rfl ⟨e.pat,At.own selfS (by exact ⟨rfl,trivial⟩),Br.t (c3.resolve_left (by rw [h4];simp)) ?_⟩⟩)⟩))
   all_goals
    refine ⟨_,_,_,_,_,_,_,At.own (eqS hw) (by exact ⟨rfl,rfl,rfl,rfl,rfl,rfl,rfl,trivial⟩),b.tm,At.own (eqS hw) (by exact ⟨rfl,trivial⟩),?_⟩
    refine (answer_spec (b:=b) 2 b.tm true (cl hw)).use ?_
    rintro _ w h
    rw [←hT] at h
    obtain ⟨t,e9,h9⟩:=h.drop2
    subst e9
    exact ⟨t,rfl,t,rfl,h9⟩
  ·rw [if_neg hc] at hT
   refine Br.mk (fun h1=>Br.mk (fun h2=>NilP.mk rfl ⟨e.lead,At.own selfS (by exact ⟨rfl,trivial⟩),Br.mk (fun h3=>absurd (by rw [h1,h2,h3];rfl) hc) (fun h3=>NilP.mk rfl ⟨e.wait,At.own selfS (by exact ⟨rfl,trivial⟩),NilP.mk rfl ⟨e.pat,At.own selfS (by exact ⟨rfl,trivial⟩),Br.mk (fun h4=>absurd (by rw [h1,h2,h3,h4];rfl) hc) (fun h4=>?_)⟩⟩)⟩) (fun h2=>?_)) (fun h1=>?_)
   all_goals
    refine drw_rule hw fun w hw=>⟨_,_,_,_,_,_,_,At.own selfS (by exact ⟨rfl,rfl,rfl,rfl,rfl,rfl,rfl,trivial⟩),NilP.mk rfl ⟨e.hd.tm,At.own selfS (by exact ⟨rfl,trivial⟩),?_⟩⟩
    refine (answer_spec (b:=b) 2 e.hd.tm false (cl hw)).use ?_
    rintro _ w h
    rw [←hT] at h
    obtain ⟨t,e9,h9⟩:=h.drop2
    subst e9
    exact ⟨t,rfl,t,rfl,h9⟩
 rw [if_neg (by simpa using hk)] at hT
 refine Br.e (fun hk2=>?_) (fun hk2=>?_)
 ·rw [if_pos (by simpa using hk2)] at hT
  obtain ⟨e1,he1⟩:∃ e1,e1=if decide (b.tm>e.hd.tm)=true then e.down b.tm else e:=⟨_,rfl⟩
  rw [←he1] at hT
  refine ⟨fun w=>Sat R (ElAt R p e1::pts q (blC b)::Hs) w,?_,?_⟩
  ·refine Br.mk (fun h=>⟨b.tm,At.own (eqS hw) (by exact ⟨rfl,trivial⟩),?_⟩) fun h=>by rw [he1,if_neg (by rw [h];simp)];exact cl hw
   refine (down_spec b.tm (cl hw)).use ?_
   rintro _ w ⟨rfl,hw⟩
   rw [he1,if_pos h]
   exact ⟨rfl,hw⟩
  clear hw
  rintro _ w hw
  obtain ⟨sv,sl,m,hg,hw⟩:=ElAt.iff.1 hw
  have kk:∀ {e2:Eln} {w},e2.hd.tm=e1.hd.tm→Sat R (ElAt R p e2::pts q (blC b)::Hs) w→∃ x:{e2:Eln // e2.hd.tm=e1.hd.tm} × Sl × Sl × Nat,Sat R [pts p (eCells x.1.1 x.2.1 x.2.2.1 x.2.2.2),pts q (blC b),VC.tru] w:=fun {e2 w} h hw=>by
   obtain ⟨sv,sl,m,hg,hw⟩:=ElAt.iff.1 hw
   exact ⟨(⟨e2,h⟩,sv,sl,m),hw.k2⟩
  have hw:=ElAt.iff.2 ⟨sv,sl,m,hg,hw⟩
  refine drw_rule' (fun w=>∃ x:{e2:Eln // e2.hd.tm=e1.hd.tm} × Sl × Sl × Nat,Sat R [pts p (eCells x.1.1 x.2.1 x.2.2.1 x.2.2.2),pts q (blC b),VC.tru] w) hw (fun w hw=>kk rfl hw) fun w hw=>?_
  refine ⟨_,_,_,_,_,_,_,At.ex fun x=>At.own selfS (by exact ⟨rfl,rfl,rfl,rfl,rfl,rfl,rfl,trivial⟩),NilP.mk rfl ⟨e1.hd.tm,At.ex fun x=>At.own selfS (by exact ⟨congrArg (Value.int .i64) x.1.2.symm,trivial⟩),_,_,_,_,_,_,_,At.ex fun x=>At.own selfS (by exact ⟨rfl,rfl,rfl,rfl,rfl,rfl,rfl,trivial⟩),?_⟩⟩
  refine (vote_spec (b:=b) (oldB b last lt) hw).use ?_
  clear hw
  rintro _ w ⟨rfl,hw⟩
  refine ⟨_,rfl,kk vote_f.1 hw,?_⟩
  refine (answer_spec (b:=b) 4 e1.hd.tm (e1.mayVote b (oldB b last lt)) hw).use ?_
  clear hw
  rintro _ w ⟨t,rfl,hw⟩
  refine ⟨t,rfl,kk vote_f.1 hw.drop,t,rfl,?_⟩
  rw [hT]
  have:(e1.vote b (oldB b last lt)).ans b 4 e1.hd.tm (e1.mayVote b (oldB b last lt))=e1.ans b 4 e1.hd.tm (e1.mayVote b (oldB b last lt)):=by unfold Eln.ans;rw [vote_f.2.1]
  rw [←this]
  exact hw.cons fun _ h=>h.cons fun _ h=>h.drop
 rw [if_neg (by simpa using hk2)] at hT
 refine Br.e (fun hk3=>?_) (fun hk3=>?_)
 ·rw [if_pos (by simpa using hk3)] at hT
  refine ⟨fun c w=>c=(decide (b.tm>e.hd.tm) && !b.yes)∧Sat R (pts p (eCells e sv sl m)::SaidAt m e.yes e.no::pts q (blC b)::Hs) w,?_,?_⟩
  ·exact Br.mk (fun h=>⟨b.yes,At.own (eqS hw) (by exact ⟨rfl,trivial⟩),by rw [h];rfl,hw⟩) fun h=>⟨by rw [h];rfl,hw⟩
  clear hw
  rintro _ _ w ⟨rfl,hw⟩
  refine Br.mk (fun h=>⟨b.tm,At.own (eqS hw) (by exact ⟨rfl,trivial⟩),?_⟩) fun h=>?_
  ·rw [if_pos h] at hT
   refine (down_spec b.tm (cl hw)).use ?_
   rintro _ w ⟨rfl,hw⟩
   exact ⟨rfl,(BlQ.nil hT hw).drop2⟩
  rw [if_neg (by rw [h];simp)] at hT
  refine drw_rule hw fun w hw=>NilP.mk rfl ⟨e.role,At.own selfS (by exact ⟨rfl,trivial⟩),Br.e (fun h2=>⟨b.yes,At.own selfS (by exact ⟨rfl,trivial⟩),?_⟩) fun h2=>no (by rw [hT,if_neg (by simp [h2])]) (cl hw)⟩
  by_cases hc:(!b.yes||b.tm==e.hd.tm + 1)=true
  ·rw [if_pos (by rw [hc,show (e.role==1)=true by simpa using h2];rfl)] at hT
   refine Br.mk (fun h3=>?_) fun h3=>⟨b.tm,At.own selfS (by exact ⟨rfl,trivial⟩),NilP.mk rfl ⟨e.hd.tm,At.own selfS (by exact ⟨rfl,trivial⟩),Br.t (by rw [wrap64 (by omega) (by omega)];simpa [h3] using hc) ?_⟩⟩
   all_goals
    refine ⟨b.fr,At.own (eqS hw) (by exact ⟨rfl,trivial⟩),b.yes,At.own (eqS hw) (by exact ⟨rfl,trivial⟩),?_⟩
    refine (say_spec ok b.fr b.yes (cl hw)).use ?_
    clear hw
    rintro _ w ⟨rfl,hw⟩
    refine ⟨_,rfl,?_⟩
    refine (counted_spec oks _ last lt hw).use ?_
    clear hw
    rintro _ w h
    rw [←hT] at h
    obtain ⟨t,e9,h9⟩:=h.drop2
    subst e9
    exact ⟨t,rfl,t,rfl,h9⟩
  ·rw [if_neg (by rw [Bool.and_eq_true];exact fun h=>hc h.2)] at hT
   refine Br.f (by cases hb:b.yes<;>simp [hb] at hc ⊢) ⟨b.tm,At.own selfS (by exact ⟨rfl,trivial⟩),NilP.mk rfl ⟨e.hd.tm,At.own selfS (by exact ⟨rfl,trivial⟩),Br.f ?_ (no hT (cl hw))⟩⟩
   rw [wrap64 (by omega) (by omega)]
   cases hx:(b.tm==e.hd.tm + 1)
   ·rfl
   ·exact absurd (by rw [hx,Bool.or_true]) hc
 rw [if_neg (by simpa using hk3)] at hT
 refine Br.e (fun hk4=>?_) (fun hk4=>no (by rw [hT,if_neg (by simpa using hk4)]) (cl hw))
 rw [if_pos (by simpa using hk4)] at hT
 refine Br.mk (fun h=>⟨b.tm,At.own (eqS hw) (by exact ⟨rfl,trivial⟩),?_⟩) fun h=>?_
 ·rw [if_pos h] at hT
  refine (down_spec b.tm (cl hw)).use ?_
  rintro _ w ⟨rfl,hw⟩
  exact ⟨rfl,(BlQ.nil hT hw).drop2⟩
 rw [if_neg (by rw [h];simp)] at hT
 refine drw_rule hw fun w hw=>NilP.mk rfl ⟨e.role,At.own selfS (by exact ⟨rfl,trivial⟩),Br.e (fun h2=>⟨b.tm,At.own selfS (by exact ⟨rfl,trivial⟩),NilP.mk rfl ⟨e.hd.tm,At.own selfS (by exact ⟨rfl,trivial⟩),Br.e (fun h3=>⟨b.fr,At.own (eqS hw) (by exact ⟨rfl,trivial⟩),b.yes,At.own (eqS hw) (by exact ⟨rfl,trivial⟩),?_⟩) fun h3=>no (by rw [hT,if_neg (by simp [h3])]) (cl hw)⟩⟩) fun h2=>no (by rw [hT,if_neg (by simp [h2])]) (cl hw)⟩
 rw [if_pos (by simp [h2,h3])] at hT
 refine (say_spec ok b.fr b.yes (cl hw)).use ?_
 clear hw
 rintro _ w ⟨rfl,hw⟩
 refine ⟨_,rfl,?_⟩
 refine (counted_spec oks _ last lt hw).use ?_
 clear hw
 rintro _ w ⟨t,rfl,hw⟩
 exact ⟨t,rfl,(BlQ.nil hT hw.drop).drop2⟩
end Go.Proofs.YthpmfnffkjjlnaaGreat
/- A node of a group that keeps one log, plain: what it does. No condition. -/
namespace Go.Proofs.YthpmfnffkjjlnaaGreat
set_option linter.unusedVariables false
set_option linter.unusedSimpArgs false
open Go Go.VC
open Go.Rf (Ey Lg LgOk)
structure Sn where
 ix:Int
 tm:Int
 g:Gp
 dt:List Int
def sn0:Sn:=⟨0,0,⟨[],[]⟩,[]⟩
structure Pe where
 st:Int
 mt:Int
 nx:Int
 wn:Int
 wt:Bool
 fl:List Int
 sn:Int
structure Rq where
 tok:Int
 ix:Int
 rnd:Int
 bh:List Int
structure Mg where
 kd:Int:=0
 fr:Int:=0
 to':Int:=0
 tm:Int:=0
 ix:Int:=0
 lt:Int:=0
 yes:Bool:=false
 com:Int:=0
 hint:Int:=0
 rnd:Int:=0
 es:List Ey:=[]
 sn:Sn:=sn0
structure Rn where
 e:Eln
 id:Int
 win:Int
 log:Lg
 sn:Sn
 g:Gp
 ps:Option (List (Int × Pe))
 rs:List Rq
 rnd:Int
 told:Hd
 rsn:Bool
 rfr:Int
 rms:List Mg
 rrd:List (Int × Int)
def Pe.new (nx wn:Int):Pe:=⟨0,0,nx,wn,false,[],0⟩
def Pe.may (x:Pe):Bool:=if x.st==0 then !x.wt else if x.st==1 then decide ((x.fl.length:Int)<x.wn) else false
def Pe.probe (x:Pe) (i:Int):Pe:={ x with st:=0,nx:=i,wt:=false,fl:=[] }
def Pe.sent (x:Pe) (last:Int):Pe:=
 if !x.may||decide (last<x.nx - 1)||decide (last>1099511627775) then x
 else if x.st==0 then { x with wt:=true } else if last ≥ x.nx then { x with nx:=last + 1,fl:=x.fl++[last] } else x
def Pe.install (x:Pe) (i:Int):Pe:=if i<0∨i>1099511627775 then x else { x with st:=2,sn:=i,wt:=false,fl:=[] }
def Pe.beat (x:Pe):Pe:=if x.st==0 then { x with wt:=false } else if x.st==1 && decide ((x.fl.length:Int) ≥ x.wn) then { x with fl:=x.fl.drop 1 } else x
def Pe.over (x:Pe) (ok:Bool):Pe:=if x.st !=2 then x else x.probe (if ok then max (x.mt + 1) (x.sn + 1) else x.mt + 1)
def Pe.acked (x:Pe) (i:Int):Bool × Pe:=
 if i<0∨i>1099511627775 then (false,x)
 else let y:={ x with mt:=max x.mt i,nx:=max x.nx (max x.mt i + 1) }
  (decide (i>x.mt),if x.st==0 then { y with st:=1,wt:=false,fl:=[] } else if x.st==1 then { y with fl:=y.fl.filter fun n=>decide (n>i) } else if x.st==2 && decide (i ≥ x.sn) then y.probe y.nx else y)
def Pe.refused (x:Pe) (i hint:Int):Bool × Pe:=
 let h:=if hint<0∨hint>1099511627776 then 0 else hint
 if x.st==0 && i==x.nx - 1 then (true,x.probe (max (min i (h + 1)) (x.mt + 1)))
 else if x.st==1 && decide (i>x.mt) then (true,x.probe (x.mt + 1)) else (false,x)
def rightSn (s:Sn):Bool:=rightN s.ix 0 1099511627776 && rightN s.tm 0 1099511627776 && rightG s.g.vs s.g.ls && decide (s.dt.length≤60000)
def rd2 (b:List Int):Int × Int × Bool:=((rdNum 1099511627776 ⟨b,false⟩).1,(rdNum 1099511627776 (rdNum 1099511627776 ⟨b,false⟩).2).1,rdWhole (rdNum 1099511627776 (rdNum 1099511627776 ⟨b,false⟩).2).2)
def changedG (g:Gp) (x:Ey):Gp:=
 if x.kd !=2 then g else if !(rd2 x.dt).2.2 then g
 else if (chG g.vs g.ls (rd2 x.dt).1 (rd2 x.dt).2.1).2.2==0 then ⟨(chG g.vs g.ls (rd2 x.dt).1 (rd2 x.dt).2.1).1,(chG g.vs g.ls (rd2 x.dt).1 (rd2 x.dt).2.1).2.1⟩ else g
def stepG (i:Int) (g:Gp) (x:Ey):Gp:=if x.ix>i then changedG g x else g
def Rn.foldG (n:Rn) (m:Int):Gp:=(n.log.get (n.log.b.ix + 1) m).foldl (stepG n.sn.ix) n.sn.g
def Rn.peer (n:Rn) (p:Int):Option Pe:=getM p (n.ps.getD [])
def Rn.peerN (n:Rn) (p:Int):Pe:=(n.peer p).getD (Pe.new (min (n.log.last + 1) 1099511627776) n.win)
def Rn.addP (n:Rn) (acc:List (Int × Pe)) (p:Int):List (Int × Pe):=if p==n.id then acc else putM p (n.peerN p) acc
def Rn.newPs (n:Rn) (g:Gp):List (Int × Pe):=(g.vs++g.ls).foldl n.addP []
def Rn.regroup (n:Rn):Rn:=
 let g:=n.foldG n.log.l.length
 { n with g:=g,e:=n.e.join g,ps:=if n.e.role==3 then some (n.newPs g) else none }
def Rn.put (n:Rn) (m:Mg):Rn:={ n with rms:=n.rms++[{ m with fr:=n.id,tm:=n.e.hd.tm }] }
def Rn.mem (n:Rn):List Int:=sortL ((n.ps.getD []).map (·.1))
def Rn.fresh (n:Rn) (i:Int):Rn:=Rn.regroup { n with rfr:=if n.rfr==0||decide (i<n.rfr) then i else n.rfr }
def Rn.enter (n:Rn) (kd:Int) (dt:List Int):(Int × Int) × Rn:=
 let i:=n.log.last + 1
 let r:=n.log.add [⟨i,n.e.hd.tm,kd,dt⟩]
 if r.1 !=0 then ((0,r.1),n) else ((i,0),Rn.fresh { n with log:=r.2 } i)
def Rn.setP (n:Rn) (p:Int) (x:Pe):Rn:={ n with ps:=n.ps.map (setM p x) }
def Rn.beat (n:Rn) (p:Int):Rn:=n.put { kd:=7,to':=p,com:=min ((n.peer p).getD (Pe.new 0 0)).mt n.log.com,rnd:=n.rnd }
def Rn.beats (n:Rn):Rn:=n.mem.foldl Rn.beat n
def Rn.ats (n:Rn):List Int:=(List.range 16).map fun (k:Nat)=>match n.peer (k:Int) with|some x=>x.mt|none=>if (k:Int)==n.id then n.log.last else 0
def Rn.advance (n:Rn):Rn:=
 let i:=midL n.g.vs n.g.ls n.ats
 let t:=n.log.term i
 if !t.2||t.1 !=n.e.hd.tm||decide (i≤n.log.com) then n else Rn.beats { n with log:=(n.log.commit i).2 }
def Rn.sendF (p:Int):Nat→Rn→Rn
 |0,n=>n
 |k + 1,n=>match n.peer p with
  |none=>n
  |some x=>if x.may && decide (x.nx≤n.log.last + 1) then
    (let i:=x.nx - 1
    let t:=n.log.term i
    if !t.2 then (n.put { kd:=9,to':=p,ix:=n.sn.ix,lt:=n.sn.tm,sn:=n.sn }).setP p (x.install n.sn.ix)
    else
     let l:=n.log.get (i + 1) 8
     if x.st==1 && l.isEmpty then n
     else
      let n1:=(n.put { kd:=5,to':=p,ix:=i,lt:=t.1,com:=n.log.com,es:=l }).setP p (x.sent (i + l.length))
      if x.st==1 then Rn.sendF p k n1 else n1)
   else n
def Rn.send (n:Rn) (p:Int):Rn:=Rn.sendF p 66 n
def Rn.all (n:Rn):Rn:=n.mem.foldl Rn.send n
def blMg (b:Bl):Mg:={ kd:=b.kd,fr:=b.fr,to':=b.to',tm:=b.tm,ix:=b.ix,lt:=b.lt,yes:=b.yes }
def Rn.voted (n:Rn) (led:Bool) (l:List Bl):Rn:=
 let n:={ n with rms:=n.rms++l.map blMg }
 if n.e.role !=3 then { n with ps:=none,rs:=[] }
 else if !led then (Rn.enter (Rn.regroup { n with ps:=none,rs:=[],rnd:=0 }) 0 []).2.advance.all
 else n
def Rn.tick (n:Rn) (draw:Int):Rn:=
 if n.e.role !=3 then
  let r:=n.e.tick draw n.log.last (n.log.term n.log.last).1
  Rn.voted { n with e:=r.2 } false r.1
 else n.mem.foldl (fun n p=>
  let x:=((n.peer p).getD (Pe.new 0 0)).beat
  ((n.setP p (if x.st==2 then x.over false else x)).beat p).send p) n
def Rn.own (n:Rn):Bool:=(n.log.term n.log.com).2 && (n.log.term n.log.com).1==n.e.hd.tm && n.e.role==3
def Rn.lead (n:Rn) (kd:Int) (dt:List Int):(Int × Int) × Rn:=
 let r:=n.enter kd dt
 if r.1.2 !=0 then ((0,r.1.2),r.2) else (r.1,r.2.advance.all)
def Rn.propose (n:Rn) (dt:List Int):(Int × Int) × Rn:=
 if n.e.role !=3 then ((0,7),n) else if (dt.length:Int)>4096 then ((0,1),n) else n.lead 1 dt
def Rn.change (n:Rn) (kd nd:Int):(Int × Int) × Rn:=
 if n.e.role !=3 then ((0,7),n)
 else if (chG n.g.vs n.g.ls kd nd).2.2 !=0 then ((0,(chG n.g.vs n.g.ls kd nd).2.2),n)
 else if nd==n.id||!n.own||(n.log.get (n.log.com + 1) (n.log.last - n.log.com)).any (fun x=>x.kd==2) then ((0,7),n)
 else n.lead 2 (numB kd.toNat++numB nd.toNat)
def Rn.read (n:Rn) (tok:Int):Int × Rn:=
 if !n.own||decide ((n.rs.length:Int) ≥ 64) then (7,n)
 else if winsG n.g.vs n.g.ls [n.id] then (0,{ n with rrd:=n.rrd++[(tok,n.log.com)] })
 else (0,Rn.beats { n with rnd:=n.rnd + 1,rs:=n.rs++[⟨tok,n.log.com,n.rnd + 1,[n.id]⟩] })
structure Rdy where
 hn:Bool
 hd:Hd
 sn':Bool
 sn:Sn
 fr:Int
 ms:List Mg
 rd:List (Int × Int)
def Rn.out (n:Rn):Rdy × Rn:=
 let new:=n.e.hd.tm !=n.told.tm||n.e.hd.vt !=n.told.vt
 (⟨new,if new then n.e.hd else ⟨0,0⟩,n.rsn,if n.rsn then n.sn else sn0,n.rfr,n.rms,n.rrd⟩,
  { n with told:=if new then n.e.hd else n.told,rsn:=false,rfr:=0,rms:=[],rrd:=[] })
def rnNew (id:Int) (h:Hd) (s:Sn) (l:List Ey) (pat win:Int):Int × Option Rn:=
 if !rightSn s||decide (win<1)||decide (win>64) then (1,none)
 else if !elOk id h s.g pat then (1,none)
 else
  let r:=(Lg.new s.ix s.tm).add l
  if r.1 !=0 then (r.1,none)
  else (0,some (Rn.regroup ⟨Eln.new id h s.g pat,id,win,r.2,s,⟨[],[]⟩,none,[],0,h,false,0,[],[]⟩))
end Go.Proofs.YthpmfnffkjjlnaaGreat
/- A node of a group in memory: its parts. Condition: none. -/
namespace Go.Proofs.YthpmfnffkjjlnaaGreat
set_option linter.unusedVariables false
set_option linter.unusedSimpArgs false
open Go Go.VC
open Go.Rf (Ey Lg LgOk)
variable {R R' R1 R2:Cx} {Hs Rest Rest2:List HP} {w:World}
abbrev peCells (x:Pe) (s:Sl):Obj:=.cells [.int .i64 x.st,.int .i64 x.mt,.int .i64 x.nx,.int .i64 x.wn,.bool x.wt,.slice s.a s.len s.cap,.int .i64 x.sn].toArray 172 (0,0)
def FlAt (s:Sl) (xs:List Int):HP:=fun h=>Own s 3 (ints xs) h∨(Reads s (ints xs) h∧s.cap=s.len)
theorem FlAt.own {s:Sl} {xs:List Int} (hw:Sat R (Own s 3 (ints xs)::Hs) w):Sat R (FlAt s xs::Hs) w:=by
 obtain ⟨h,hh,hd,hw⟩:=hw
 exact ⟨h,.inl hh,hd,hw⟩
theorem FlAt.cases {s:Sl} {xs:List Int} (hw:Sat R (FlAt s xs::Hs) w):Sat R (Own s 3 (ints xs)::Hs) w∨(Sat R (Reads s (ints xs)::Hs) w∧s.cap=s.len):=by
 obtain ⟨h,hh|⟨hh,hc⟩,hd,hw⟩:=hw
 ·exact .inl ⟨h,hh,hd,hw⟩
 ·exact .inr ⟨⟨h,hh,hd,hw⟩,hc⟩
theorem FlAt.full {s:Sl} {xs:List Int} (hc:s.cap=s.len) (hw:Sat R (Reads s (ints xs)::Hs) w):Sat R (FlAt s xs::Hs) w:=by
 obtain ⟨h,hh,hd,hw⟩:=hw
 exact ⟨h,.inr ⟨hh,hc⟩,hd,hw⟩
theorem FlAt.reads {s:Sl} {xs:List Int} (hw:Sat R (FlAt s xs::Hs) w):Sat R (Reads s (ints xs)::Hs) w:=by
 rcases FlAt.cases hw with h|h
 ·exact Own.reads h
 ·exact h.1
def PeAt (b:Nat) (x:Pe):HP:=exs fun s:Sl=>Star [pts b (peCells x s),FlAt s x.fl]
theorem PeAt.iff {b:Nat} {x:Pe}:Sat R (PeAt b x::Hs) w↔∃ s,Sat R (pts b (peCells x s)::FlAt s x.fl::Hs) w:=by
 constructor
 ·intro h
  obtain ⟨s,h⟩:=Sat.exs.1 h
  exact ⟨s,Sat.star.1 h⟩
 ·rintro ⟨s,h⟩
  exact Sat.exs.2 ⟨s,Sat.star.2 h⟩
abbrev pEn (t:Int × Nat × Pe):Int × Value:=(t.1,.pointer (some ⟨t.2.1,0,none⟩))
abbrev pOf (t:Int × Nat × Pe):Int × Pe:=(t.1,t.2.2)
abbrev pHP (t:Int × Nat × Pe):HP:=PeAt t.2.1 t.2.2
def PsAt (pm:Option Nat) (ps:Option (List (Int × Pe))):HP:=exs fun l:List (Int × Nat × Pe)=>
 match pm with
 |none=>pur (ps=none)
 |some m=>Star (pur (ps=some (l.map pOf))::MapAt m (l.map pEn)::l.map pHP)
theorem PsAt.none' {ps:Option (List (Int × Pe))}:Sat R (PsAt none ps::Hs) w↔ps=none∧Sat R Hs w:=by
 constructor
 ·intro h
  obtain ⟨_,h⟩:=Sat.exs.1 h
  exact Sat.pur.1 h
 ·intro h
  exact Sat.exs.2 ⟨[],Sat.pur.2 h⟩
theorem PsAt.some' {m:Nat} {ps:Option (List (Int × Pe))}:Sat R (PsAt (some m) ps::Hs) w↔∃ l:List (Int × Nat × Pe),ps=some (l.map pOf)∧Sat R (MapAt m (l.map pEn)::(l.map pHP++Hs)) w:=by
 constructor
 ·intro h
  obtain ⟨l,h⟩:=Sat.exs.1 h
  obtain ⟨h1,h⟩:=Sat.pur.1 (Sat.star.1 h)
  exact ⟨l,h1,h⟩
 ·rintro ⟨l,h1,h⟩
  exact Sat.exs.2 ⟨l,Sat.star.2 (Sat.pur.2 ⟨h1,h⟩)⟩
abbrev rqRow (t:Sl × Rq):List Value:=[.int .i64 t.2.tok,.int .i64 t.2.ix,.int .i64 t.2.rnd,.slice t.1.a t.1.len t.1.cap]
abbrev rqHP (t:Sl × Rq):HP:=Own t.1 3 (ints t.2.bh)
def RsAt (s:Sl) (rs:List Rq):HP:=exs fun l:List (Sl × Rq)=>Star (pur (l.map (·.2)=rs)::OwnN 4 s 112 (l.map rqRow)::l.map rqHP)
theorem RsAt.iff {s:Sl} {rs:List Rq}:Sat R (RsAt s rs::Hs) w↔∃ l:List (Sl × Rq),l.map (·.2)=rs∧Sat R (OwnN 4 s 112 (l.map rqRow)::(l.map rqHP++Hs)) w:=by
 constructor
 ·intro h
  obtain ⟨l,h⟩:=Sat.exs.1 h
  obtain ⟨h1,h⟩:=Sat.pur.1 (Sat.star.1 h)
  exact ⟨l,h1,h⟩
 ·rintro ⟨l,h1,h⟩
  exact Sat.exs.2 ⟨l,Sat.star.2 (Sat.pur.2 ⟨h1,h⟩)⟩
theorem RsAt.nil (hw:Sat R Hs w):Sat R (RsAt ⟨none,0,0⟩ []::Hs) w:=RsAt.iff.2 ⟨[],rfl,OwnN.nil hw⟩
structure MLo where
 e:Sl
 ds:List DE4
 v:Sl
 l:Sl
 d:Sl
structure MgIn (R:Cx) (m:Mg) (L:MLo):Prop where
 es:RoN 4 R L.e (L.ds.map eRow)
 dr:DsR R L.ds
 ee:erE L.ds=m.es
 g:GpIn R m.sn.g L.v L.l
 d:SlR R.m L.d (b8 m.sn.dt)
 ec:L.e.len≤L.e.cap
theorem MgIn.ext {m:Mg} {L:MLo} (h:MgIn R m L) (e:R.Ext R'):MgIn R' m L:=⟨e.roN h.es,h.dr.ext e,h.ee,h.g.ext e,e.slR h.d,h.ec⟩
abbrev mgRow (t:MLo × Mg):List Value:=[.int .i64 t.2.kd,.int .i64 t.2.fr,.int .i64 t.2.to',.int .i64 t.2.tm,.int .i64 t.2.ix,.int .i64 t.2.lt,.bool t.2.yes,.int .i64 t.2.com,.int .i64 t.2.hint,.int .i64 t.2.rnd,
 .slice t.1.e.a t.1.e.len t.1.e.cap,.int .i64 t.2.sn.ix,.int .i64 t.2.sn.tm,.slice t.1.v.a t.1.v.len t.1.v.cap,.slice t.1.l.a t.1.l.len t.1.l.cap,.slice t.1.d.a t.1.d.len t.1.d.cap]
def MsAt (R:Cx) (s:Sl) (ms:List Mg):HP:=exs fun l:List (MLo × Mg)=>Star [pur (l.map (·.2)=ms∧∀ t∈l,MgIn R t.2 t.1),OwnN 16 s 71 (l.map mgRow)]
theorem MsAt.iff {s:Sl} {ms:List Mg}:Sat R (MsAt R1 s ms::Hs) w↔∃ l:List (MLo × Mg),(l.map (·.2)=ms∧∀ t∈l,MgIn R1 t.2 t.1)∧Sat R (OwnN 16 s 71 (l.map mgRow)::Hs) w:=by
 constructor
 ·intro h
  obtain ⟨l,h⟩:=Sat.exs.1 h
  obtain ⟨h1,h⟩:=Sat.pur.1 (Sat.star.1 h)
  exact ⟨l,h1,h⟩
 ·rintro ⟨l,h1,h⟩
  exact Sat.exs.2 ⟨l,Sat.star.2 (Sat.pur.2 ⟨h1,h⟩)⟩
theorem MsAt.nil (hw:Sat R Hs w):Sat R (MsAt R1 ⟨none,0,0⟩ []::Hs) w:=MsAt.iff.2 ⟨[],⟨rfl,fun _ h=>by cases h⟩,OwnN.nil hw⟩
theorem MsAt.ext {s:Sl} {ms:List Mg} (hw:Sat R (MsAt R1 s ms::Hs) w) (e:R1.Ext R2):Sat R (MsAt R2 s ms::Hs) w:=by
 obtain ⟨l,h,hw⟩:=MsAt.iff.1 hw
 exact MsAt.iff.2 ⟨l,⟨h.1,fun t ht=>(h.2 t ht).ext e⟩,hw⟩
abbrev rrRow (t:Int × Int):List Value:=[.int .i64 t.1,.int .i64 t.2]
abbrev RrAt (s:Sl) (l:List (Int × Int)):HP:=OwnN 2 s 50 (l.map rrRow)
structure NLo where
 ep:Nat
 lp:Nat
 sv:Sl
 sl:Sl
 sd:Sl
 gv:Sl
 gl:Sl
 pm:Option Nat
 rs:Sl
 ms:Sl
 rr:Sl
structure NIn (R:Cx) (n:Rn) (L:NLo):Prop where
 g:GpIn R n.g L.gv L.gl
 sg:GpIn R n.sn.g L.sv L.sl
 sd:SlR R.m L.sd (b8 n.sn.dt)
theorem NIn.ext {n:Rn} {L:NLo} (h:NIn R n L) (e:R.Ext R'):NIn R' n L:=⟨h.g.ext e,h.sg.ext e,e.slR h.sd⟩
abbrev nCells (n:Rn) (L:NLo):Obj:=.cells [.pointer (some ⟨L.ep,0,none⟩),.int .i64 n.id,.int .i64 n.win,.pointer (some ⟨L.lp,0,none⟩),.int .i64 n.sn.ix,.int .i64 n.sn.tm,.slice L.sv.a L.sv.len L.sv.cap,.slice L.sl.a L.sl.len L.sl.cap,.slice L.sd.a L.sd.len L.sd.cap,
 .slice L.gv.a L.gv.len L.gv.cap,.slice L.gl.a L.gl.len L.gl.cap,.map L.pm,.slice L.rs.a L.rs.len L.rs.cap,.int .i64 n.rnd,.int .i64 n.told.tm,.int .i64 n.told.vt,.bool false,.int .i64 0,.int .i64 0,.bool n.rsn,.int .i64 0,.int .i64 0,.slice none 0 0,.slice none 0 0,.slice none 0 0,
 .int .i64 n.rfr,.slice L.ms.a L.ms.len L.ms.cap,.slice L.rr.a L.rr.len L.rr.cap].toArray 58 (0,0)
abbrev nHs (R:Cx) (n:Rn) (L:NLo) (Hs:List HP):List HP:=ElAt R L.ep n.e::LgAt R L.lp n.log::PsAt L.pm n.ps::RsAt L.rs n.rs::MsAt R L.ms n.rms::RrAt L.rr n.rrd::Hs
def NAt (R:Cx) (p:Nat) (n:Rn):HP:=exs fun L:NLo=>Star (pur (NIn R n L)::pts p (nCells n L)::nHs R n L [])
theorem NAt.iff {p:Nat} {n:Rn}:Sat R (NAt R1 p n::Hs) w↔∃ L,NIn R1 n L∧Sat R (pts p (nCells n L)::nHs R1 n L Hs) w:=by
 constructor
 ·intro h
  obtain ⟨L,h⟩:=Sat.exs.1 h
  obtain ⟨h1,h⟩:=Sat.pur.1 (Sat.star.1 h)
  exact ⟨L,h1,h⟩
 ·rintro ⟨L,h1,h⟩
  exact Sat.exs.2 ⟨L,Sat.star.2 (Sat.pur.2 ⟨h1,h⟩)⟩
theorem NAt.ext {p:Nat} {n:Rn} (hw:Sat R (NAt R1 p n::Hs) w) (e:R1.Ext R2):Sat R (NAt R2 p n::Hs) w:=by
 obtain ⟨L,h,hw⟩:=NAt.iff.1 hw
 refine NAt.iff.2 ⟨L,h.ext e,hw.cons fun _ h=>?_⟩
 exact Sat.cons (fun _ h=>Sat.cons (fun _ h=>h.cons fun _ h=>h.cons fun _ h=>MsAt.ext h e) (LgAt.ext h e)) (ElAt.ext h e)
end Go.Proofs.YthpmfnffkjjlnaaGreat
/- The formulas of functions of this seat's translation, printed by a program of mine off the translation; each is proved equal to 'fnF' of the function's body, so it is enough for the call. No condition. -/
namespace Go.Proofs.YthpmfnffkjjlnaaGreat
open Go Go.VC
set_option linter.unusedVariables false
set_option maxRecDepth 10000
def B91 (a:Int) (b:Int) (K:Value→World→Prop) (w:World):Prop:=
 Br (decide (a<1))
 (K (.tuple #[.pointer none,.int .i64 1]) w)
 (Br (decide (a>1099511627776))
 (K (.tuple #[.pointer none,.int .i64 1]) w)
 (Br (decide (b<1))
 (K (.tuple #[.pointer none,.int .i64 1]) w)
 (Br (decide (b>64))
 (K (.tuple #[.pointer none,.int .i64 1]) w)
 (New (.cells #[.int .i64 0,.int .i64 0,.int .i64 a,.int .i64 b,.bool false,.slice none 0 0,.int .i64 0] 172 (0,0)) (fun c d=>
 K (.tuple #[.pointer ((some ⟨c,0,none⟩)),.int .i64 0]) d) w))))
theorem call91 (a:Int) (b:Int) (K:Value→World→Prop) (w:World) (h:B91 a b K w):Gets Tryz.prog 91 #[.int .i64 a,.int .i64 b] w K:=cq (sk:=.leaf) Tryz.func91 (by kernel_rfl) (by kernel_rfl) (by kernel_rfl) h
def B42 (b:Option Addr) (K:Value→World→Prop) (w:World):Prop:=
 NilP b fun o=>
 ∃ l:Int,(At (fun q=>q=w) (Addr.add o 0) [.int .i64 l])∧
 Br (l==0)
 (NilP b fun i=>
 ∃ m:World,((Instr.storeAt 4 (.pointer ((some ⟨i.block,i.off + 4,none⟩))) (.bool false)).run Tryz.prog w=.ok () m)∧
 K (.tuple #[]) m)
 (Drw w fun d e=>
 NilP b fun n=>
 ∃ j:Int,(At d (Addr.add n 0) [.int .i64 j])∧
 Br (j==1)
 (NilP b fun f=>
 ∃ c:Sl,(At d ⟨f.block,f.off + 5,none⟩ [.slice c.a c.len c.cap])∧
 NilP b fun g=>
 ∃ k:Int,(At d ⟨g.block,g.off + 3,none⟩ [.int .i64 k])∧
 Br (decide ((↑c.len:Int) ≥ k))
 (Calls Tryz.prog 103 #[.pointer b,.int .i64 1] e fun p r=>
 (p=.returned (.tuple #[]))∧
 K (.tuple #[]) r)
 (K (.tuple #[]) e))
 (K (.tuple #[]) e))
theorem call42 (a:Option Addr) (K:Value→World→Prop) (w:World) (h:B42 a K w):Gets Tryz.prog 42 #[.pointer a] w K:=cq (sk:=.leaf) Tryz.func42 (by kernel_rfl) (by kernel_rfl) (by kernel_rfl) h
def B43 (c:Option Addr) (K:Value→World→Prop) (w:World):Prop:=
 NilP c fun b=>
 ∃ a:Int,(At (fun d=>d=w) (Addr.add b 0) [.int .i64 a])∧
 K (.int .i64 a) w
theorem call43 (a:Option Addr) (K:Value→World→Prop) (w:World) (h:B43 a K w):Gets Tryz.prog 43 #[.pointer a] w K:=cq (sk:=.leaf) Tryz.func43 (by kernel_rfl) (by kernel_rfl) (by kernel_rfl) h
def B44 (a:Option Addr) (n:Bool) (K:Value→World→Prop) (w:World):Prop:=
 NilP a fun k=>
 ∃ j:Int,(At (fun b=>b=w) (Addr.add k 0) [.int .i64 j])∧
 Br (j !=2)
 (K (.bool false) w)
 (NilP a fun e=>
 ∃ c:Int,(At (fun b=>b=w) ⟨e.block,e.off + 1,none⟩ [.int .i64 c])∧
 Br n
 (NilP a fun f=>
 ∃ d:Int,(At (fun b=>b=w) ⟨f.block,f.off + 6,none⟩ [.int .i64 d])∧
 Calls Tryz.prog 104 #[.pointer a,.int .i64 (if IntKind.i64.wrap (d + 1)>IntKind.i64.wrap (c + 1) then IntKind.i64.wrap (d + 1) else IntKind.i64.wrap (c + 1))] w fun l o=>
 ∃ g:Bool,(l=.returned (.bool g))∧
 K (.bool g) o)
 (Calls Tryz.prog 104 #[.pointer a,.int .i64 (IntKind.i64.wrap (c + 1))] w fun m p=>
 ∃ i:Bool,(m=.returned (.bool i))∧
 K (.bool i) p))
theorem call44 (b:Option Addr) (a:Bool) (K:Value→World→Prop) (w:World) (h:B44 b a K w):Gets Tryz.prog 44 #[.pointer b,.bool a] w K:=cq (sk:=.leaf) Tryz.func44 (by kernel_rfl) (by kernel_rfl) (by kernel_rfl) h
def B103 (f:Option Addr) (d:Int) (K:Value→World→Prop) (w:World):Prop:=
 Drw w fun g n=>
 NilP f fun l=>
 ∃ e:Sl,(At g ⟨l.block,l.off + 5,none⟩ [.slice e.a e.len e.cap])∧
 NilP f fun i=>
 ∃ c:Sl,(At g ⟨i.block,i.off + 5,none⟩ [.slice c.a c.len c.cap])∧
 NilP f fun j=>
 ∃ b:Sl,(At g ⟨j.block,j.off + 5,none⟩ [.slice b.a b.len b.cap])∧
 ((0:Int)≤(↑b.len:Int))∧
 (((↑b.len:Int):Int)≤(↑e.cap:Int))∧
 ((0:Int)≤(↑c.len:Int))∧
 (((↑c.len:Int):Int)≤(↑(↑b.len:Int).toNat:Int))∧
 ((0:Int)≤d)∧
 ((d:Int)≤(↑(↑c.len:Int).toNat:Int))∧
 NilP f fun k=>
 ∃ m:World,((Instr.storeAt 30 (.pointer ((some ⟨k.block,k.off + 5,none⟩))) (.slice (cutA e.a d.toNat (↑b.len:Int).toNat 1) ((↑c.len:Int).toNat - d.toNat) ((↑b.len:Int).toNat - d.toNat))).run Tryz.prog n=.ok () m)∧
 K (.tuple #[]) m
theorem call103 (b:Option Addr) (a:Int) (K:Value→World→Prop) (w:World) (h:B103 b a K w):Gets Tryz.prog 103 #[.pointer b,.int .i64 a] w K:=cq (sk:=.leaf) Tryz.func103 (by kernel_rfl) (by kernel_rfl) (by kernel_rfl) h
def B104 (a:Option Addr) (k:Int) (K:Value→World→Prop) (w:World):Prop:=
 NilP a fun j=>
 ∃ e:World,((Instr.storeAt 3 (.pointer ((some (Addr.add j 0)))) (.int .i64 0)).run Tryz.prog w=.ok () e)∧
 NilP a fun b=>
 ∃ f:World,((Instr.storeAt 3 (.pointer ((some ⟨b.block,b.off + 2,none⟩))) (.int .i64 k)).run Tryz.prog e=.ok () f)∧
 NilP a fun c=>
 ∃ g:World,((Instr.storeAt 4 (.pointer ((some ⟨c.block,c.off + 4,none⟩))) (.bool false)).run Tryz.prog f=.ok () g)∧
 NilP a fun d=>
 ∃ i:World,((Instr.storeAt 30 (.pointer ((some ⟨d.block,d.off + 5,none⟩))) (.slice none 0 0)).run Tryz.prog g=.ok () i)∧
 K (.bool true) i
theorem call104 (b:Option Addr) (a:Int) (K:Value→World→Prop) (w:World) (h:B104 b a K w):Gets Tryz.prog 104 #[.pointer b,.int .i64 a] w K:=cq (sk:=.leaf) Tryz.func104 (by kernel_rfl) (by kernel_rfl) (by kernel_rfl) h
def B106 (c:Option Addr) (K:Value→World→Prop) (w:World):Prop:=
 NilP c fun a=>
 ∃ b:Int,(At (fun d=>d=w) ⟨a.block,a.off + 1,none⟩ [.int .i64 b])∧
 K (.int .i64 b) w
theorem call106 (a:Option Addr) (K:Value→World→Prop) (w:World) (h:B106 a K w):Gets Tryz.prog 106 #[.pointer a] w K:=cq (sk:=.leaf) Tryz.func106 (by kernel_rfl) (by kernel_rfl) (by kernel_rfl) h
def B107 (b:Option Addr) (K:Value→World→Prop) (w:World):Prop:=
 NilP b fun m=>
 ∃ d:Int,(At (fun e=>e=w) (Addr.add m 0) [.int .i64 d])∧
 Br (d==0)
 (NilP b fun g=>
 ∃ k:Bool,(At (fun e=>e=w) ⟨g.block,g.off + 4,none⟩ [.bool k])∧
 K (.bool (!k)) w)
 (Br (d==1)
 (Drw w fun f n=>
 NilP b fun i=>
 ∃ c:Sl,(At f ⟨i.block,i.off + 5,none⟩ [.slice c.a c.len c.cap])∧
 NilP b fun j=>
 ∃ l:Int,(At f ⟨j.block,j.off + 3,none⟩ [.int .i64 l])∧
 K (.bool (decide ((↑c.len:Int)<l))) n)
 (K (.bool false) w))
theorem call107 (a:Option Addr) (K:Value→World→Prop) (w:World) (h:B107 a K w):Gets Tryz.prog 107 #[.pointer a] w K:=cq (sk:=.leaf) Tryz.func107 (by kernel_rfl) (by kernel_rfl) (by kernel_rfl) h
def B108 (c:Option Addr) (K:Value→World→Prop) (w:World):Prop:=
 NilP c fun a=>
 ∃ b:Int,(At (fun d=>d=w) ⟨a.block,a.off + 2,none⟩ [.int .i64 b])∧
 K (.int .i64 b) w
theorem call108 (a:Option Addr) (K:Value→World→Prop) (w:World) (h:B108 a K w):Gets Tryz.prog 108 #[.pointer a] w K:=cq (sk:=.leaf) Tryz.func108 (by kernel_rfl) (by kernel_rfl) (by kernel_rfl) h
def B109 (a:Option Addr) (b:Int) (K:Value→World→Prop) (w:World):Prop:=
 ∃ (c:World→Prop),(Br (decide (b<0))
 (K (.int .i64 1) w)
 (Br (decide (b>1099511627775))
 (K (.int .i64 1) w)
 (c  w)))∧
 ∀ (n:Env)  (g:World),c  g→
 NilP a fun m=>
 ∃ i:World,((Instr.storeAt 3 (.pointer ((some (Addr.add m 0)))) (.int .i64 2)).run Tryz.prog g=.ok () i)∧
 NilP a fun d=>
 ∃ j:World,((Instr.storeAt 3 (.pointer ((some ⟨d.block,d.off + 6,none⟩))) (.int .i64 b)).run Tryz.prog i=.ok () j)∧
 NilP a fun e=>
 ∃ k:World,((Instr.storeAt 4 (.pointer ((some ⟨e.block,e.off + 4,none⟩))) (.bool false)).run Tryz.prog j=.ok () k)∧
 NilP a fun f=>
 ∃ l:World,((Instr.storeAt 30 (.pointer ((some ⟨f.block,f.off + 5,none⟩))) (.slice none 0 0)).run Tryz.prog k=.ok () l)∧
 K (.int .i64 0) l
def sk109:Sk:=(.seq .leaf (.cut [] [] [4,5,6,7,8,9,10] .leaf .leaf))
theorem call109 (b:Option Addr) (a:Int) (K:Value→World→Prop) (w:World) (h:B109 b a K w):Gets Tryz.prog 109 #[.pointer b,.int .i64 a] w K:=cq (sk:=sk109) Tryz.func109 (by kernel_rfl) (by kernel_rfl) (by kernel_rfl) h
def B110 (b:Option Addr) (g:Int) (K:Value→World→Prop) (w:World):Prop:=
 ∃ (i:Bool→World→Prop),(Calls Tryz.prog 107 #[.pointer b] w fun D j=>
 ∃ v:Bool,(D=.returned (.bool v))∧
 Br (!v)
 (i true j)
 (NilP b fun l=>
 ∃ r:Int,(At (fun c=>c=j) ⟨l.block,l.off + 2,none⟩ [.int .i64 r])∧
 Br (decide (g<IntKind.i64.wrap (r - 1)))
 (i true j)
 (i (decide (g>1099511627775)) j)))∧
 ∀ (F:Env) (u:Bool) (d:World),i u d→
 Br u
 (K (.int .i64 7) d)
 (NilP b fun A=>
 ∃ s:Int,(At (fun c=>c=d) (Addr.add A 0) [.int .i64 s])∧
 Br (s==0)
 (NilP b fun m=>
 ∃ x:World,((Instr.storeAt 4 (.pointer ((some ⟨m.block,m.off + 4,none⟩))) (.bool true)).run Tryz.prog d=.ok () x)∧
 K (.int .i64 0) x)
 (NilP b fun n=>
 ∃ t:Int,(At (fun c=>c=d) ⟨n.block,n.off + 2,none⟩ [.int .i64 t])∧
 Br (decide (g ≥ t))
 (NilP b fun o=>
 ∃ k:World,((Instr.storeAt 3 (.pointer ((some ⟨o.block,o.off + 2,none⟩))) (.int .i64 (IntKind.i64.wrap (g + 1)))).run Tryz.prog d=.ok () k)∧
 NilP b fun p=>
 ∃ e:Sl,(At (fun c=>c=k) ⟨p.block,p.off + 5,none⟩ [.slice e.a e.len e.cap])∧
 New (.cells #[.int .i64 g] 3 (0,0)) (fun C E=>
 ∃ y:World,∃ f:Sl,((Builtin.append_ #[30,30] 30 #[.slice e.a e.len e.cap,.slice ((some ⟨C,0,none⟩)) 1 1]).run Tryz.prog E=.ok (.slice f.a f.len f.cap) y)∧
 NilP b fun q=>
 ∃ z:World,((Instr.storeAt 30 (.pointer ((some ⟨q.block,q.off + 5,none⟩))) (.slice f.a f.len f.cap)).run Tryz.prog y=.ok () z)∧
 K (.int .i64 0) z) k)
 (K (.int .i64 0) d)))
def sk110:Sk:=(.seq .leaf (.seq (.block (.cut [5] [.bool] [5,6,7,8,9,10,11,12,13,14,15,16,17,18,19,20,21] .leaf .leaf)) .leaf))
theorem call110 (b:Option Addr) (a:Int) (K:Value→World→Prop) (w:World) (h:B110 b a K w):Gets Tryz.prog 110 #[.pointer b,.int .i64 a] w K:=cq (sk:=sk110) Tryz.func110 (by kernel_rfl) (by kernel_rfl) (by kernel_rfl) h
def B191 (b:Option Addr) (c:Int) (K:Value→World→Prop) (w:World):Prop:=
 ∃ (n:World→Prop),(Br (decide (c<0))
 (K (.bool false) w)
 (Br (decide (c>1099511627775))
 (K (.bool false) w)
 (n  w)))∧
 ∀ (Z:Env)  (j:World),n  j→
 NilP b fun p=>
 ∃ f:Int,(At (fun d=>d=j) ⟨p.block,p.off + 1,none⟩ [.int .i64 f])∧
 NilP b fun q=>
 ∃ k:Int,(At (fun d=>d=j) ⟨q.block,q.off + 1,none⟩ [.int .i64 k])∧
 NilP b fun r=>
 ∃ F:World,((Instr.storeAt 3 (.pointer ((some ⟨r.block,r.off + 1,none⟩))) (.int .i64 (if c>k then c else k))).run Tryz.prog j=.ok () F)∧
 Drw F fun o V=>
 NilP b fun s=>
 ∃ l:Int,(At o ⟨s.block,s.off + 2,none⟩ [.int .i64 l])∧
 NilP b fun t=>
 ∃ m:Int,(At o ⟨t.block,t.off + 1,none⟩ [.int .i64 m])∧
 NilP b fun u=>
 ∃ e:World,((Instr.storeAt 3 (.pointer ((some ⟨u.block,u.off + 2,none⟩))) (.int .i64 (if IntKind.i64.wrap (m + 1)>l then IntKind.i64.wrap (m + 1) else l))).run Tryz.prog V=.ok () e)∧
 NilP b fun J=>
 ∃ i:Int,(At (fun d=>d=e) (Addr.add J 0) [.int .i64 i])∧
 Br (i==0)
 (NilP b fun L=>
 ∃ G:World,((Instr.storeAt 3 (.pointer ((some (Addr.add L 0)))) (.int .i64 1)).run Tryz.prog e=.ok () G)∧
 NilP b fun v=>
 ∃ H:World,((Instr.storeAt 4 (.pointer ((some ⟨v.block,v.off + 4,none⟩))) (.bool false)).run Tryz.prog G=.ok () H)∧
 NilP b fun x=>
 ∃ I:World,((Instr.storeAt 30 (.pointer ((some ⟨x.block,x.off + 5,none⟩))) (.slice none 0 0)).run Tryz.prog H=.ok () I)∧
 K (.bool (decide (c>f))) I)
 (Br (i==1)
 (NilP b fun y=>
 ∃ g:Sl,(At (fun d=>d=e) ⟨y.block,y.off + 5,none⟩ [.slice g.a g.len g.cap])∧
 Calls Tryz.prog 238 #[.slice g.a g.len g.cap,.int .i64 (IntKind.i64.wrap (c + 1))] e fun M X=>
 ∃ C:Int,∃ Q:Bool,(M=.returned (.tuple #[.int .i64 C,.bool Q]))∧
 Calls Tryz.prog 103 #[.pointer b,.int .i64 C] X fun N Y=>
 (N=.returned (.tuple #[]))∧
 K (.bool (decide (c>f))) Y)
 (Br (i==2)
 (NilP b fun z=>
 ∃ D:Int,(At (fun d=>d=e) ⟨z.block,z.off + 6,none⟩ [.int .i64 D])∧
 Br (decide (c ≥ D))
 (NilP b fun A=>
 ∃ E:Int,(At (fun d=>d=e) ⟨A.block,A.off + 2,none⟩ [.int .i64 E])∧
 Calls Tryz.prog 104 #[.pointer b,.int .i64 E] e fun O U=>
 ∃ T:Bool,(O=.returned (.bool T))∧
 K (.bool (decide (c>f))) U)
 (K (.bool (decide (c>f))) e))
 (K (.bool (decide (c>f))) e)))
def sk191:Sk:=(.seq .leaf (.cut [] [] [4,8,9,10,11,12,13] .leaf .leaf))
theorem call191 (b:Option Addr) (a:Int) (K:Value→World→Prop) (w:World) (h:B191 b a K w):Gets Tryz.prog 191 #[.pointer b,.int .i64 a] w K:=cq (sk:=sk191) Tryz.func191 (by kernel_rfl) (by kernel_rfl) (by kernel_rfl) h
def B192 (c:Option Addr) (d:Int) (j:Int) (K:Value→World→Prop) (w:World):Prop:=
 ∃ (g:Int→World→Prop),(Br (decide (j<0))
 (g 0 w)
 (Br (decide (j>1099511627776))
 (g 0 w)
 (g j w)))∧
 ∀ (F:Env) (e:Int) (f:World),g e f→
 ∃ (i:Bool→World→Prop),(NilP c fun y=>
 ∃ q:Int,(At (fun a=>a=f) (Addr.add y 0) [.int .i64 q])∧
 Br (q==0)
 (NilP c fun l=>
 ∃ r:Int,(At (fun a=>a=f) ⟨l.block,l.off + 2,none⟩ [.int .i64 r])∧
 i (d==IntKind.i64.wrap (r - 1)) f)
 (i false f))∧
 ∀ (G:Env) (p:Bool) (b:World),i p b→
 Br p
 (NilP c fun m=>
 ∃ k:Int,(At (fun a=>a=b) ⟨m.block,m.off + 1,none⟩ [.int .i64 k])∧
 Calls Tryz.prog 104 #[.pointer c,.int .i64 (if IntKind.i64.wrap (k + 1)>if IntKind.i64.wrap (e + 1)<d then IntKind.i64.wrap (e + 1) else d then IntKind.i64.wrap (k + 1) else if IntKind.i64.wrap (e + 1)<d then IntKind.i64.wrap (e + 1) else d)] b fun A D=>
 ∃ s:Bool,(A=.returned (.bool s))∧
 K (.bool s) D)
 (NilP c fun z=>
 ∃ t:Int,(At (fun a=>a=b) (Addr.add z 0) [.int .i64 t])∧
 Br (t==1)
 (NilP c fun n=>
 ∃ u:Int,(At (fun a=>a=b) ⟨n.block,n.off + 1,none⟩ [.int .i64 u])∧
 Br (decide (d>u))
 (NilP c fun o=>
 ∃ v:Int,(At (fun a=>a=b) ⟨o.block,o.off + 1,none⟩ [.int .i64 v])∧
 Calls Tryz.prog 104 #[.pointer c,.int .i64 (IntKind.i64.wrap (v + 1))] b fun C E=>
 ∃ x:Bool,(C=.returned (.bool x))∧
 K (.bool x) E)
 (K (.bool false) b))
 (K (.bool false) b))
def sk192:Sk:=(.seq .leaf (.cut [2] [(.int .i64)] [2,7,8,9,10,11,12] .leaf (.seq (.block (.cut [13] [.bool] [13,14,15,16,17,18,19,20,21,22,23,24,25,26,27] .leaf .leaf)) .leaf)))
theorem call192 (c:Option Addr) (a:Int) (b:Int) (K:Value→World→Prop) (w:World) (h:B192 c a b K w):Gets Tryz.prog 192 #[.pointer c,.int .i64 a,.int .i64 b] w K:=cq (sk:=sk192) Tryz.func192 (by kernel_rfl) (by kernel_rfl) (by kernel_rfl) h
def B238 (e:Sl) (k:Int) (K:Value→World→Prop) (w:World):Prop:=
 ∃ (g:Int→Int→World→Prop) (j:Int→Int→World→Nat),(g 0 ((↑e.len:Int)) w)∧∀ (A:Env) (b:Int) (c:Int) (d:World),g b c d→
 Br (decide (b<c))
 (Rng (IntKind.i64.wrap (shrI IntKind.u64 (IntKind.u64.wrap (IntKind.i64.wrap (b + c))) 1)) e.len (NilP e.a fun s=>
 ∃ l:Int,(At (fun f=>f=d) (Addr.add s ((IntKind.i64.wrap (shrI IntKind.u64 (IntKind.u64.wrap (IntKind.i64.wrap (b + c))) 1)).toNat)) [.int .i64 l])∧
 Calls Tryz.prog 221 #[.int .i64 l,.int .i64 k] d fun v i=>
 ∃ m:Bool,(v=.returned (.bool m))∧
 Br m
 ((g (IntKind.i64.wrap (IntKind.i64.wrap (shrI IntKind.u64 (IntKind.u64.wrap (IntKind.i64.wrap (b + c))) 1) + 1)) c i)∧j (IntKind.i64.wrap (IntKind.i64.wrap (shrI IntKind.u64 (IntKind.u64.wrap (IntKind.i64.wrap (b + c))) 1) + 1)) c i<j b c d)
 ((g b (IntKind.i64.wrap (shrI IntKind.u64 (IntKind.u64.wrap (IntKind.i64.wrap (b + c))) 1)) i)∧j b (IntKind.i64.wrap (shrI IntKind.u64 (IntKind.u64.wrap (IntKind.i64.wrap (b + c))) 1)) i<j b c d)))
 (Br (decide (b<(↑e.len:Int)))
 (Rng b e.len (NilP e.a fun t=>
 ∃ n:Int,(At (fun f=>f=d) (Addr.add t b.toNat) [.int .i64 n])∧
 Br (n==k)
 (K (.tuple #[.int .i64 b,.bool true]) d)
 (Rng b e.len (NilP e.a fun u=>
 ∃ o:Int,(At (fun f=>f=d) (Addr.add u b.toNat) [.int .i64 o])∧
 Calls Tryz.prog 251 #[.int .i64 o] d fun x r=>
 ∃ p:Bool,(x=.returned (.bool p))∧
 Br p
 (Calls Tryz.prog 251 #[.int .i64 k] r fun y z=>
 ∃ q:Bool,(y=.returned (.bool q))∧
 K (.tuple #[.int .i64 b,.bool q]) z)
 (K (.tuple #[.int .i64 b,.bool false]) r)))))
 (K (.tuple #[.int .i64 b,.bool false]) d))
def sk238:Sk:=(.seq .leaf (.seq .leaf (.seq .leaf (.seq (.block (.loop [7,8] [(.int .i64),(.int .i64)] [7,8,9,13,14,15,16,17,18,19,20,21,22,23,24,25,26,27,28,29,30] .leaf)) .leaf))))
theorem call238 (b:Sl) (c:Int) (K:Value→World→Prop) (w:World) (h:B238 b c K w):Gets Tryz.prog 238 #[.slice b.a b.len b.cap,.int .i64 c] w K:=cq (sk:=sk238) Tryz.func238 (by kernel_rfl) (by kernel_rfl) (by kernel_rfl) h
def B221 (a:Int) (b:Int) (K:Value→World→Prop) (w:World):Prop:=
 Calls Tryz.prog 248 #[.int .i64 a] w fun g e=>
 ∃ c:Bool,(g=.returned (.bool c))∧
 Br c
 (Calls Tryz.prog 248 #[.int .i64 b] e fun i f=>
 ∃ d:Bool,(i=.returned (.bool d))∧
 Br (!d)
 (K (.bool true) f)
 (K (.bool (decide (a<b))) f))
 (K (.bool (decide (a<b))) e)
theorem call221 (a:Int) (b:Int) (K:Value→World→Prop) (w:World) (h:B221 a b K w):Gets Tryz.prog 221 #[.int .i64 a,.int .i64 b] w K:=cq (sk:=.leaf) Tryz.func221 (by kernel_rfl) (by kernel_rfl) (by kernel_rfl) h
def B248 (a:Int) (K:Value→World→Prop) (w:World):Prop:=
 K (.bool (a !=a)) w
theorem call248 (a:Int) (K:Value→World→Prop) (w:World) (h:B248 a K w):Gets Tryz.prog 248 #[.int .i64 a] w K:=cq (sk:=.leaf) Tryz.func248 (by kernel_rfl) (by kernel_rfl) (by kernel_rfl) h
def B251 (a:Int) (K:Value→World→Prop) (w:World):Prop:=
 K (.bool (a !=a)) w
theorem call251 (a:Int) (K:Value→World→Prop) (w:World) (h:B251 a K w):Gets Tryz.prog 251 #[.int .i64 a] w K:=cq (sk:=.leaf) Tryz.func251 (by kernel_rfl) (by kernel_rfl) (by kernel_rfl) h
end Go.Proofs.YthpmfnffkjjlnaaGreat
/- SL, part 22: append to a slice with no room left, which is only read. Condition: bounds on lengths. -/
namespace Go.VC
set_option linter.unusedVariables false
set_option linter.unusedSimpArgs false
variable {P:Program} {R:Cx} {Hs:List HP} {w:World} {s:Sl}
theorem append_grow {t1 t2 ty T:TypeId} {bytes:Nat} (E:El P t1 t2 T bytes) {base:Option Addr} {cap n:Nat} {xs ys:List Value} {src:Value} {K:Sl→World→Prop}
  (hs:Src P 1 t2 src n ys w) (hc:cap<xs.length + n) (hold:(Builtin.firstCells 1 xs.length (.slice base xs.length cap)).run P w.drew=.ok xs.toArray w.drew)
  (hb:2 * (xs.length + n) * bytes≤281474976710656) (hb':xs.length + n≤9223372036854775807) (hw:Sat R Hs w) (k:∀ s' w',Sat R (Own s' T (xs++ys)::Hs) w'→K s' w'):
  ∃ w',∃ t:Sl,(Builtin.append_ #[t1,t2] ty #[.slice base xs.length cap,src]).run P w=.ok (.slice t.a t.len t.cap) w'∧K t w':=by
 obtain ⟨i,z,hi,hz,hsize,hbytes,hzc⟩:=elB_out E.hi
 have hyn:ys.length=n:=by have:=hs.newsLen;simpa using this
 have hs':Src P i.size t2 src n ys w:=by rw [hsize];exact hs
 have fit:Builtin.nextslicecap (xs.length + n) cap * i.bytes≤281474976710656:=by
  have h2:Builtin.nextslicecap (xs.length + n) cap≤2 * (xs.length + n):=by
   unfold Builtin.nextslicecap
   split
   ·omega
   ·split
    ·omega
    ·have:=nextslicecap_le_wide hc
     unfold Builtin.nextslicecap at this
     rw [if_neg (by assumption),if_neg (by assumption)] at this
     omega
  rw [hbytes]
  exact Nat.le_trans (Nat.mul_le_mul_right _ h2) hb
 have hr:=run_append_grow_src w t1 t2 ty T i z E.ht hi hz base xs.length cap xs (by rw [hsize];exact hold) src n ys hs' hc (by omega) fit
 refine ⟨_,⟨some ⟨w.heap.size,0,none⟩,xs.length + n,grownCap w (xs.length + n) cap T⟩,hr,k _ _ ?_⟩
 have hz0:(Builtin.zeroCells z.cells (grownCap w (xs.length + n) cap T - (xs.length + n))).size=grownCap w (xs.length + n) cap T - (xs.length + n):=by
  simp [Builtin.zeroCells,hzc]
 have hg:=grownCap_ge w (xs.length + n) cap T
 have ho':Obj.cells ((xs++ys).toArray++Builtin.zeroCells z.cells (grownCap w (xs.length + n) cap T - (xs.length + n))) T=.cells ((xs++ys)++(Builtin.zeroCells z.cells (grownCap w (xs.length + n) cap T - (xs.length + n))).toList).toArray T (0,0):=by
  congr 1
  apply Array.ext';simp
 have:=Sat.alloc (Obj.cells ((xs++ys).toArray++Builtin.zeroCells z.cells (grownCap w (xs.length + n) cap T - (xs.length + n))) T) (Sat.drew hw)
 rw [ho'] at this ⊢
 have h3:=Own.of_pts this
 have e:(⟨some ⟨w.drew.heap.size,0,none⟩,(xs++ys).length,(xs++ys++(Builtin.zeroCells z.cells (grownCap w (xs.length + n) cap T - (xs.length + n))).toList).length⟩:Sl)=⟨some ⟨w.heap.size,0,none⟩,xs.length + n,grownCap w (xs.length + n) cap T⟩:=by
  simp only [List.length_append,Array.length_toList,hz0,World.size_drew,hyn]
  congr 1
  omega
 rw [e] at h3
 exact h3
theorem SlR.firsts {xs:List Value} (hr:SlR R.m s xs) (hw:Sat R Hs w):(Builtin.firstCells 1 xs.length (.slice s.a xs.length s.cap)).run P w.drew=.ok xs.toArray w.drew:=by
 by_cases hx:xs=[]
 ·subst hx
  cases ha:s.a with
  |none=>exact run_firstCells_none w.drew 1 0 0 s.cap
  |some a=>exact run_firstCells_some w.drew 1 0 a 0 s.cap [] rfl fun j u hj=>by simp at hj
 ·obtain ⟨b,off,l,T,fr,ha,hb,hl⟩:=hr.mem hx
  rw [ha]
  refine run_firstCells_some w.drew 1 xs.length ⟨b,off,none⟩ xs.length _ xs (by simp) fun j u hj=>?_
  have:=hw.of_ro hb
  rw [World.cell?_drew,add_off]
  simp only [World.cell?,this,Option.isSome_none,Bool.false_eq_true,if_false]
  exact hl j u hj
theorem pushFull_rule {t1 t2 ty T T':TypeId} {bytes:Nat} (E:El P t1 t2 T bytes) {xs:List Value} {x:Value} {b:Nat} {K:Sl→World→Prop}
  (hc:s.cap=s.len) (hx:x.oneCell'=true) (hb:2 * (xs.length + 1) * bytes≤281474976710656) (hb':xs.length + 1≤9223372036854775807) (hw:Sat R (Reads s xs::pts b (.cells [x].toArray T' (0,0))::Hs) w)
  (k:∀ s' w',Sat R (Own s' T (xs++[x])::Hs) w'→K s' w'):
  ∃ w',∃ t:Sl,(Builtin.append_ #[t1,t2] ty #[.slice s.a s.len s.cap,.slice (some ⟨b,0,none⟩) 1 1]).run P w=.ok (.slice t.a t.len t.cap) w'∧K t w':=by
 obtain ⟨y,hd,hs,hw2,hy⟩:=Reads.lend hw
 have hlen:=hs.len
 rw [hlen]
 refine append_grow E (Src_one E.hk 1 hw2 hx) (by omega) (hs.firsts hw2) hb hb' hw2 fun s' w' h=>k s' w' ?_
 have h2:=Reads.back hd hy h
 exact h2.drop.cons fun _ h=>h.drop
end Go.VC
/- What a leader knows of another node: walked. Condition: bounds on numbers. -/
namespace Go.Proofs.YthpmfnffkjjlnaaGreat
set_option linter.unusedVariables false
set_option linter.unusedSimpArgs false
open Go Go.VC
variable {R R' R1 R2:Cx} {Hs Rest Rest2:List HP} {w:World} {b:Nat} {x:Pe}
def Rise (l:List Int):Prop:=∀ i j (hj:j<l.length),(hij:i<j)→l[i]<l[j]
theorem half_eq {a b:Nat} (h:a + b≤1000000000000000000):IntKind.i64.wrap (shrI .u64 (IntKind.u64.wrap (IntKind.i64.wrap ((a:Int) + b))) 1)=((a + b) / 2:Nat):=by
 rw [wrap64 (x:=(a:Int) + b) (by omega) (by omega),IntKind.wrap_u64]
 have e:shrI .u64 (((a:Int) + b) % 18446744073709551616) 1=(((a + b) / 2:Nat):Int):=by
  unfold shrI
  show Int.fdiv _ 2=_
  rw [Int.fdiv_eq_ediv_of_nonneg _ (by omega)]
  omega
 rw [e,wrap64 (by omega) (by omega)]
theorem isNaN_spec {x:Int} (hw:Sat R Hs w):Gets Tryz.prog 251 #[.int .i64 x] w fun v w'=>v=.bool false∧Sat R Hs w':=by
 apply call251
 exact ⟨by simp,hw⟩
theorem cNaN_spec {x:Int} (hw:Sat R Hs w):Gets Tryz.prog 248 #[.int .i64 x] w fun v w'=>v=.bool false∧Sat R Hs w':=by
 apply call248
 exact ⟨by simp,hw⟩
theorem less_spec {x y:Int} (hw:Sat R Hs w):Gets Tryz.prog 221 #[.int .i64 x,.int .i64 y] w fun v w'=>v=.bool (decide (x<y))∧Sat R Hs w':=by
 apply call221
 refine (cNaN_spec hw).use ?_
 rintro _ w ⟨rfl,hw⟩
 exact ⟨_,rfl,Br.f rfl ⟨rfl,hw⟩⟩
theorem bsearch_spec {s:Sl} {l:List Int} {n:Int} (hs:RoI R s l) (hr:Rise l) (hl:l.length≤1000000000) (hw:Sat R Hs w):
  Gets Tryz.prog 238 #[.slice s.a s.len s.cap,.int .i64 n] w fun v w'=>∃ (p:Nat) (b:Bool),v=.tuple #[.int .i64 p,.bool b]∧p≤l.length∧(∀ k (h:k<l.length),k<p→l[k]<n)∧(∀ k (h:k<l.length),p≤k→n≤l[k])∧Sat R Hs w':=by
 have hlen:=hs.len
 apply call238
 refine ⟨fun i j w=>∃ a b:Nat,i=a∧j=b∧a≤b∧b≤l.length∧(∀ k (h:k<l.length),k<a→l[k]<n)∧(∀ k (h:k<l.length),b≤k→n≤l[k])∧Sat R Hs w,fun i j _=>j.toNat - i.toNat,⟨0,l.length,rfl,by rw [hlen],by omega,by omega,fun k _ h=>by omega,fun k h h'=>by omega,hw⟩,?_⟩
 clear hw
 rintro _ _ _ w ⟨a,b,rfl,rfl,hab,hb,h1,h2,hw⟩
 rw [half_eq (by omega)]
 refine Br.d (fun h=>?_) (fun h=>?_)
 ·have hm:(a + b) / 2<l.length:=by omega
  refine Ro.ix hs (eqS hw) ((a + b) / 2) rfl hm ?_
  refine (less_spec hw).use ?_
  rintro _ w ⟨rfl,hw⟩
  refine ⟨_,rfl,Br.d (fun h3=>?_) (fun h3=>?_)⟩
  ·rw [show IntKind.i64.wrap ((((a + b) / 2:Nat):Int) + 1)=(((a + b) / 2 + 1:Nat):Int) from wrap64 (by omega) (by omega)]
   refine ⟨⟨(a + b) / 2 + 1,b,rfl,rfl,by omega,hb,fun k hk hk2=>?_,h2,hw⟩,by dsimp only;omega⟩
   by_cases hkm:k=(a + b) / 2
   ·subst hkm;exact h3
   ·have:=hr k ((a + b) / 2) hm (by omega);omega
  ·refine ⟨⟨a,(a + b) / 2,rfl,rfl,by omega,by omega,h1,fun k hk hk2=>?_,hw⟩,by dsimp only;omega⟩
   by_cases hkm:k=(a + b) / 2
   ·subst hkm;omega
   ·have:=hr ((a + b) / 2) k hk (by omega);omega
 ·obtain rfl:a=b:=by omega
  have fin:∀ (t:Bool) w,Sat R Hs w→∃ (p:Nat) (b:Bool),Value.tuple #[.int .i64 a,.bool t]=.tuple #[.int .i64 p,.bool b]∧p≤l.length∧(∀ k (h:k<l.length),k<p→l[k]<n)∧(∀ k (h:k<l.length),p≤k→n≤l[k])∧Sat R Hs w:=fun t w hw=>⟨a,t,rfl,hb,h1,h2,hw⟩
  refine Br.d (fun h3=>?_) (fun h3=>fin _ _ hw)
  have ha:a<l.length:=by omega
  refine Ro.ix hs (eqS hw) a rfl ha ?_
  refine Br.e (fun h4=>fin _ _ hw) (fun h4=>?_)
  refine Ro.ix hs (eqS hw) a rfl ha ?_
  refine (isNaN_spec hw).use ?_
  rintro _ w ⟨rfl,hw⟩
  exact ⟨_,rfl,Br.f rfl (fin _ _ hw)⟩
structure PeOk (x:Pe):Prop where
 st:x.st=0∨x.st=1∨x.st=2
 m0:0≤x.mt
 m1:x.mt≤1099511627775
 n0:1≤x.nx
 n1:x.nx≤1099511627776
 w0:1≤x.wn
 w1:x.wn≤64
 fl:Rise x.fl
 fn:∀ n∈x.fl,n<x.nx
 fw:(x.fl.length:Int)≤x.wn
 s0:0≤x.sn
 s1:x.sn≤1099511627775
theorem Rise.nil:Rise []:=fun _ _ hj _=>by simp at hj
theorem Rise.drop {l:List Int} (h:Rise l) (k:Nat):Rise (l.drop k):=fun i j hj hij=>by
 rw [List.getElem_drop,List.getElem_drop]
 exact h _ _ _ (by omega)
theorem Rise.snoc {l:List Int} (h:Rise l) {n:Int} (hn:∀ x∈l,x<n):Rise (l++[n]):=fun i j hj hij=>by
 rw [List.length_append,List.length_singleton] at hj
 by_cases hjl:j<l.length
 ·rw [List.getElem_append_left (by omega),List.getElem_append_left hjl]
  exact h i j hjl hij
 ·rw [List.getElem_append_left (show i<l.length by omega),List.getElem_append_right (by omega)]
  simp only [List.getElem_singleton]
  exact hn _ (List.getElem_mem _)
theorem PeOk.new {nx wn:Int} (h0:1≤nx) (h1:nx≤1099511627776) (h2:1≤wn) (h3:wn≤64):PeOk (Pe.new nx wn):=
 ⟨.inl rfl,Int.le_refl _,by show (0:Int)≤_;omega,h0,h1,h2,h3,.nil,(fun _ h=>by cases h),by show ((0:Nat):Int)≤wn;omega,Int.le_refl _,by show (0:Int)≤_;omega⟩
theorem PeOk.probe {x:Pe} (h:PeOk x) {i:Int} (h0:1≤i) (h1:i≤1099511627776):PeOk (x.probe i):=
 { h with st:=.inl rfl,n0:=h0,n1:=h1,fl:=.nil,fn:=(fun _ h=>by cases h),fw:=by have:=h.w0;show ((0:Nat):Int)≤x.wn;omega }
theorem PeOk.sent {x:Pe} (h:PeOk x) (last:Int):PeOk (x.sent last):=by
 unfold Pe.sent
 split
 ·exact h
 ·rename_i hc
  simp only [Bool.or_eq_true,Bool.not_eq_true',decide_eq_true_eq,not_or,Bool.not_eq_false] at hc
  split
  ·exact { h with }
  ·split
   ·rename_i h1 h2
    have hn:=h.n0
    have hmay:=hc.1.1
    unfold Pe.may at hmay
    rw [if_neg h1] at hmay
    refine { h with n0:=by show 1≤last + 1;omega,n1:=by show last + 1≤_;omega,fl:=h.fl.snoc fun y hy=>by have:=h.fn y hy;omega,fn:=fun y hy=>?_,fw:=?_ }
    ·show y<last + 1
     rcases List.mem_append.1 hy with hy|hy
     ·have:=h.fn y hy;omega
     ·simp at hy;omega
    ·show ((x.fl++[last]).length:Int)≤x.wn
     rw [List.length_append,List.length_singleton]
     split at hmay
     ·simp only [decide_eq_true_eq] at hmay;omega
     ·cases hmay
   ·exact h
theorem PeOk.install {x:Pe} (h:PeOk x) (i:Int):PeOk (x.install i):=by
 unfold Pe.install
 split
 ·exact h
 ·exact { h with st:=.inr (.inr rfl),s0:=by show 0≤i;omega,s1:=by show i≤_;omega,fl:=.nil,fn:=(fun _ h=>by cases h),fw:=by have:=h.w0;show ((0:Nat):Int)≤x.wn;omega }
theorem PeOk.beat {x:Pe} (h:PeOk x):PeOk x.beat:=by
 unfold Pe.beat
 split
 ·exact { h with }
 ·split
  ·refine { h with fl:=h.fl.drop 1,fn:=fun n hn=>h.fn n (List.mem_of_mem_drop hn),fw:=?_ }
   have:=h.fw
   show ((x.fl.drop 1).length:Int)≤x.wn
   rw [List.length_drop];omega
  ·exact h
theorem PeOk.over {x:Pe} (h:PeOk x) (o:Bool):PeOk (x.over o):=by
 have:=h.m0
 have:=h.m1
 have:=h.s0
 have:=h.s1
 unfold Pe.over
 split
 ·exact h
 ·split<;>exact h.probe (by omega) (by omega)
theorem pstate_spec (hw:Sat R (PeAt b x::Hs) w):Gets Tryz.prog 43 #[.pointer (some ⟨b,0,none⟩)] w fun v w'=>v=.int .i64 x.st∧Sat R (PeAt b x::Hs) w':=by
 obtain ⟨s,hw⟩:=PeAt.iff.1 hw
 apply call43
 exact NilP.mk rfl ⟨_,At.own (eqS hw) (by exact ⟨rfl,trivial⟩),rfl,PeAt.iff.2 ⟨s,hw⟩⟩
theorem pmatch_spec (hw:Sat R (PeAt b x::Hs) w):Gets Tryz.prog 106 #[.pointer (some ⟨b,0,none⟩)] w fun v w'=>v=.int .i64 x.mt∧Sat R (PeAt b x::Hs) w':=by
 obtain ⟨s,hw⟩:=PeAt.iff.1 hw
 apply call106
 exact NilP.mk rfl ⟨_,At.own (eqS hw) (by exact ⟨rfl,trivial⟩),rfl,PeAt.iff.2 ⟨s,hw⟩⟩
theorem pnext_spec (hw:Sat R (PeAt b x::Hs) w):Gets Tryz.prog 108 #[.pointer (some ⟨b,0,none⟩)] w fun v w'=>v=.int .i64 x.nx∧Sat R (PeAt b x::Hs) w':=by
 obtain ⟨s,hw⟩:=PeAt.iff.1 hw
 apply call108
 exact NilP.mk rfl ⟨_,At.own (eqS hw) (by exact ⟨rfl,trivial⟩),rfl,PeAt.iff.2 ⟨s,hw⟩⟩
theorem FlAt.len {s:Sl} {xs:List Int} (hw:Sat R (FlAt s xs::Hs) w):s.len=xs.length∧s.len≤s.cap:=by
 obtain ⟨y,_,hs,_,_⟩:=Reads.lend (FlAt.reads hw)
 have:=hs.len
 exact ⟨by simpa using this,hs.cap⟩
theorem pmay_spec (hw:Sat R (PeAt b x::Hs) w):Gets Tryz.prog 107 #[.pointer (some ⟨b,0,none⟩)] w fun v w'=>v=.bool x.may∧Sat R (PeAt b x::Hs) w':=by
 obtain ⟨s,hw⟩:=PeAt.iff.1 hw
 have hl:=(FlAt.len hw.swap).1
 apply call107
 unfold Pe.may
 refine NilP.mk rfl ⟨_,At.own (eqS hw) (by exact ⟨rfl,trivial⟩),Br.e (fun h=>NilP.mk rfl ⟨_,At.own (eqS hw) (by exact ⟨rfl,trivial⟩),by rw [if_pos (by simp [h])],PeAt.iff.2 ⟨s,hw⟩⟩) (fun h=>Br.e (fun h2=>?_) (fun h2=>⟨by rw [if_neg (by simp [h]),if_neg (by simp [h2])],PeAt.iff.2 ⟨s,hw⟩⟩))⟩
 refine drw_rule hw fun w hw=>NilP.mk rfl ⟨s,At.own selfS (by exact ⟨rfl,trivial⟩),NilP.mk rfl ⟨_,At.own selfS (by exact ⟨rfl,trivial⟩),?_,PeAt.iff.2 ⟨s,hw⟩⟩⟩
 rw [if_neg (by simp [h]),if_pos (by simp [h2]),hl]
theorem probe_spec (i:Int) (hw:Sat R (PeAt b x::Hs) w):Gets Tryz.prog 104 #[.pointer (some ⟨b,0,none⟩),.int .i64 i] w fun v w'=>v=.bool true∧Sat R (PeAt b (x.probe i)::Hs) w':=by
 obtain ⟨s,hw⟩:=PeAt.iff.1 hw
 apply call104
 refine NilP.mk rfl ?_
 refine store_rule hw (by kernel_rfl) rfl (by simp [Value.cells,putL_len]) fun w hw=>?_
 refine NilP.mk rfl ?_
 refine store_rule hw (by kernel_rfl) rfl (by simp [Value.cells,putL_len]) fun w hw=>?_
 refine NilP.mk rfl ?_
 refine store_rule hw (by kernel_rfl) rfl (by simp [Value.cells,putL_len]) fun w hw=>?_
 refine NilP.mk rfl ?_
 refine store_rule hw (by kernel_rfl) rfl (by simp [Value.cells,putL_len]) fun w hw=>?_
 have hw:=hw.re (pts b (peCells (x.probe i) ⟨none,0,0⟩))
 exact ⟨rfl,PeAt.iff.2 ⟨⟨none,0,0⟩,hw.cons fun _ h=>FlAt.own (Own.nil h.drop)⟩⟩
theorem land_spec {k:Nat} (hk:k≤x.fl.length) (hw:Sat R (PeAt b x::Hs) w):Gets Tryz.prog 103 #[.pointer (some ⟨b,0,none⟩),.int .i64 k] w fun v w'=>v=.tuple #[]∧Sat R (PeAt b { x with fl:=x.fl.drop k }::Hs) w':=by
 obtain ⟨s,hw⟩:=PeAt.iff.1 hw
 have hl:=FlAt.len hw.swap
 apply call103
 refine drw_rule hw fun w hw=>NilP.mk rfl ⟨s,At.own selfS (by exact ⟨rfl,trivial⟩),NilP.mk rfl ⟨s,At.own selfS (by exact ⟨rfl,trivial⟩),NilP.mk rfl ⟨s,At.own selfS (by exact ⟨rfl,trivial⟩),by omega,by omega,by omega,by omega,by omega,by omega,NilP.mk rfl ?_⟩⟩⟩
 rw [Int.toNat_natCast,Int.toNat_natCast]
 refine store_rule hw (by kernel_rfl) rfl (by simp [Value.cells,putL_len]) fun w hw=>?_
 have hw:=hw.re (pts b (peCells { x with fl:=x.fl.drop k } ⟨cutA s.a k s.len 1,s.len - k,s.len - k⟩))
 refine ⟨rfl,PeAt.iff.2 ⟨_,hw.cons fun _ h=>?_⟩⟩
 have h:=FlAt.reads h
 refine FlAt.full rfl ?_
 obtain ⟨y,hy,hd,h2⟩:=h
 refine ⟨y,?_,hd,h2⟩
 have h3:SlR y ⟨s.a,s.len,s.len⟩ (ints x.fl):=⟨hy.len,Nat.le_refl _,hy.mem⟩
 have h4:=h3.drop (k:=k) (by rw [List.length_map];exact hk)
 rwa [←List.map_drop] at h4
theorem pbeat_spec (ok:PeOk x) (hw:Sat R (PeAt b x::Hs) w):Gets Tryz.prog 42 #[.pointer (some ⟨b,0,none⟩)] w fun v w'=>v=.tuple #[]∧Sat R (PeAt b x.beat::Hs) w':=by
 obtain ⟨s,hw⟩:=PeAt.iff.1 hw
 have hl:=(FlAt.len hw.swap).1
 have hw0:=ok.w0
 apply call42
 unfold Pe.beat
 refine NilP.mk rfl ⟨_,At.own (eqS hw) (by exact ⟨rfl,trivial⟩),Br.e (fun h=>NilP.mk rfl ?_) (fun h=>?_)⟩
 ·refine store_rule hw (by kernel_rfl) rfl (by simp [Value.cells,putL_len]) fun w hw=>?_
  rw [if_pos (by simp [h])]
  exact ⟨rfl,PeAt.iff.2 ⟨s,hw⟩⟩
 rw [if_neg (by simp [h])]
 refine drw_rule hw fun w hw=>NilP.mk rfl ⟨_,At.own selfS (by exact ⟨rfl,trivial⟩),Br.e (fun h2=>NilP.mk rfl ⟨s,At.own selfS (by exact ⟨rfl,trivial⟩),NilP.mk rfl ⟨x.wn,At.own selfS (by exact ⟨rfl,trivial⟩),Br.d (fun h3=>?_) (fun h3=>?_)⟩⟩) (fun h2=>⟨rfl,?_⟩)⟩
 ·rw [if_pos (by simp [h2];omega)]
  refine (land_spec (k:=1) (by omega) (PeAt.iff.2 ⟨s,hw⟩)).use ?_
  rintro _ w ⟨rfl,hw⟩
  exact ⟨rfl,rfl,hw⟩
 ·rw [if_neg (by simp [h2];omega)]
  exact ⟨rfl,PeAt.iff.2 ⟨s,hw⟩⟩
 ·rw [if_neg (by simp [h2])]
  exact PeAt.iff.2 ⟨s,hw⟩
theorem pover_spec (ok:PeOk x) (o:Bool) (hw:Sat R (PeAt b x::Hs) w):Gets Tryz.prog 44 #[.pointer (some ⟨b,0,none⟩),.bool o] w fun v w'=>(∃ t,v=.bool t)∧Sat R (PeAt b (x.over o)::Hs) w':=by
 obtain ⟨s,hw⟩:=PeAt.iff.1 hw
 have h0:=ok.m0
 have h1:=ok.m1
 have h2:=ok.s0
 have h3:=ok.s1
 apply call44
 unfold Pe.over
 refine NilP.mk rfl ⟨_,At.own (eqS hw) (by exact ⟨rfl,trivial⟩),Br.ne (fun h=>⟨⟨_,rfl⟩,by rw [if_pos (by simp [h])];exact PeAt.iff.2 ⟨s,hw⟩⟩) (fun h=>NilP.mk rfl ⟨x.mt,At.own (eqS hw) (by exact ⟨rfl,trivial⟩),Br.mk (fun ho=>NilP.mk rfl ⟨x.sn,At.own (eqS hw) (by exact ⟨rfl,trivial⟩),?_⟩) (fun ho=>?_)⟩)⟩
 ·rw [if_neg (show ¬ (x.st !=2)=true by simp [h]),show (if o=true then max (x.mt + 1) (x.sn + 1) else x.mt + 1)=max (x.mt + 1) (x.sn + 1) from if_pos ho,wrap64 (x:=x.sn + 1) (by omega) (by omega),wrap64 (x:=x.mt + 1) (by omega) (by omega)]
  rw [show (if x.sn + 1>x.mt + 1 then x.sn + 1 else x.mt + 1)=max (x.mt + 1) (x.sn + 1) by split<;>omega]
  refine (probe_spec _ (PeAt.iff.2 ⟨s,hw⟩)).use ?_
  rintro _ w ⟨rfl,hw⟩
  exact ⟨_,rfl,⟨_,rfl⟩,hw⟩
 ·rw [if_neg (show ¬ (x.st !=2)=true by simp [h]),if_neg (show ¬ o=true by rw [ho];simp),wrap64 (by omega) (by omega)]
  refine (probe_spec _ (PeAt.iff.2 ⟨s,hw⟩)).use ?_
  rintro _ w ⟨rfl,hw⟩
  exact ⟨_,rfl,⟨_,rfl⟩,hw⟩
theorem pinstall_spec (i:Int) (hw:Sat R (PeAt b x::Hs) w):Gets Tryz.prog 109 #[.pointer (some ⟨b,0,none⟩),.int .i64 i] w fun v w'=>(∃ t:Int,v=.int .i64 t)∧Sat R (PeAt b (x.install i)::Hs) w':=by
 apply call109
 unfold Pe.install
 refine ⟨fun w=>¬ (i<0∨i>1099511627775)∧Sat R (PeAt b x::Hs) w,Br.d (fun h=>⟨⟨_,rfl⟩,by rw [if_pos (.inl h)];exact hw⟩) (fun h=>Br.d (fun h2=>⟨⟨_,rfl⟩,by rw [if_pos (.inr h2)];exact hw⟩) (fun h2=>⟨by omega,hw⟩)),?_⟩
 clear hw
 rintro _ w ⟨hc,hw⟩
 rw [if_neg hc]
 obtain ⟨s,hw⟩:=PeAt.iff.1 hw
 refine NilP.mk rfl ?_
 refine store_rule hw (by kernel_rfl) rfl (by simp [Value.cells,putL_len]) fun w hw=>?_
 refine NilP.mk rfl ?_
 refine store_rule hw (by kernel_rfl) rfl (by simp [Value.cells,putL_len]) fun w hw=>?_
 refine NilP.mk rfl ?_
 refine store_rule hw (by kernel_rfl) rfl (by simp [Value.cells,putL_len]) fun w hw=>?_
 refine NilP.mk rfl ?_
 refine store_rule hw (by kernel_rfl) rfl (by simp [Value.cells,putL_len]) fun w hw=>?_
 have hw:=hw.re (pts b (peCells { x with st:=2,sn:=i,wt:=false,fl:=[] } ⟨none,0,0⟩))
 exact ⟨⟨_,rfl⟩,PeAt.iff.2 ⟨⟨none,0,0⟩,hw.cons fun _ h=>FlAt.own (Own.nil h.drop)⟩⟩
theorem psent_spec (ok:PeOk x) (last:Int) (hw:Sat R (PeAt b x::Hs) w):Gets Tryz.prog 110 #[.pointer (some ⟨b,0,none⟩),.int .i64 last] w fun v w'=>(∃ t:Int,v=.int .i64 t)∧Sat R (PeAt b (x.sent last)::Hs) w':=by
 have h0:=ok.n0
 have h1:=ok.n1
 apply call110
 unfold Pe.sent
 obtain ⟨c,hc⟩:∃ c,c=(!x.may||decide (last<x.nx - 1)||decide (last>1099511627775)):=⟨_,rfl⟩
 rw [←hc]
 refine ⟨fun t w=>t=c∧Sat R (PeAt b x::Hs) w,?_,?_⟩
 ·refine (pmay_spec hw).use ?_
  clear hw
  rintro _ w ⟨rfl,hw⟩
  refine ⟨_,rfl,Br.nb (fun h=>⟨by rw [hc,h];rfl,hw⟩) (fun h=>?_)⟩
  obtain ⟨s,hw⟩:=PeAt.iff.1 hw
  refine NilP.mk rfl ⟨_,At.own (eqS hw) (by exact ⟨rfl,trivial⟩),?_⟩
  rw [wrap64 (by omega) (by omega)]
  refine Br.d (fun h2=>⟨by rw [hc,h,decide_eq_true h2];rfl,PeAt.iff.2 ⟨s,hw⟩⟩) (fun h2=>⟨by rw [hc,h,decide_eq_false h2];rfl,PeAt.iff.2 ⟨s,hw⟩⟩)
 clear hw
 rintro _ t w ⟨rfl,hw⟩
 refine Br.mk (fun h=>⟨⟨_,rfl⟩,by rw [if_pos h];exact hw⟩) (fun h=>?_)
 rw [if_neg (by rw [h];simp)]
 rw [h] at hc
 have hc:=hc.symm
 simp only [Bool.or_eq_false_iff,Bool.not_eq_false',decide_eq_false_iff_not] at hc
 obtain ⟨s,hw⟩:=PeAt.iff.1 hw
 refine NilP.mk rfl ⟨_,At.own (eqS hw) (by exact ⟨rfl,trivial⟩),Br.e (fun h2=>NilP.mk rfl ?_) (fun h2=>NilP.mk rfl ⟨_,At.own (eqS hw) (by exact ⟨rfl,trivial⟩),Br.d (fun h3=>NilP.mk rfl ?_) (fun h3=>⟨⟨_,rfl⟩,?_⟩)⟩)⟩
 ·refine store_rule hw (by kernel_rfl) rfl (by simp [Value.cells,putL_len]) fun w hw=>?_
  rw [if_pos (by simp [h2])]
  exact ⟨⟨_,rfl⟩,PeAt.iff.2 ⟨s,hw⟩⟩
 ·rw [wrap64 (by omega) (by omega)]
  refine store_rule hw (by kernel_rfl) rfl (by simp [Value.cells,putL_len]) fun w hw=>?_
  rw [if_neg (by simp [h2]),if_pos h3]
  have hw:=hw.re (pts b (peCells { x with nx:=last + 1 } s))
  refine NilP.mk rfl ⟨s,At.own (eqS hw) (by exact ⟨rfl,trivial⟩),new_rule hw fun b2 w hw=>?_⟩
  have hfw:=ok.fw
  have hw1:=ok.w1
  have fin:∀ s' w',Sat R (Own s' 3 (ints x.fl++[.int .i64 last])::pts b (peCells { x with nx:=last + 1 } s)::Hs) w'→
    NilP (some ⟨b,0,none⟩) fun a_t51=>∃ w_7:World,((Instr.storeAt 30 (.pointer ((some ⟨a_t51.block,a_t51.off + 5,none⟩))) (.slice s'.a s'.len s'.cap)).run Tryz.prog w'=.ok () w_7)∧
     (∃ t:Int,Value.int .i64 0=.int .i64 t)∧Sat R (PeAt b { x with nx:=last + 1,fl:=x.fl++[last] }::Hs) w_7:=fun s' w' hw=>by
   refine NilP.mk rfl ?_
   have hw:=hw.swap
   refine store_rule hw (by kernel_rfl) rfl (by simp [Value.cells,putL_len]) fun w hw=>?_
   have hw:=hw.re (pts b (peCells { x with nx:=last + 1,fl:=x.fl++[last] } s'))
   exact ⟨⟨_,rfl⟩,PeAt.iff.2 ⟨s',hw.cons fun _ h=>FlAt.own (by show Sat _ (Own s' 3 (ints (x.fl++[last]))::Hs) _;rw [show ints (x.fl++[last])=ints x.fl++[Value.int .i64 last] from List.map_append];exact h)⟩⟩
  have hw:=hw.take (FlAt s x.fl)
  rcases FlAt.cases hw with h4|⟨h4,hcap⟩
  ·refine append_rule el_int h4 (Src_one el_int.hk 1 h4 rfl) (oneAll_ints _) (by rw [List.length_map];omega) (by rw [List.length_map];omega) fun s' w' h=>fin s' w' ?_
   exact h.cons fun _ h=>h.drop
  ·exact pushFull_rule el_int hcap rfl (by rw [List.length_map];omega) (by rw [List.length_map];omega) h4 fun s' w' h=>fin s' w' h
 ·rw [if_neg (by simp [h2]),if_neg h3]
  exact PeAt.iff.2 ⟨s,hw⟩
end Go.Proofs.YthpmfnffkjjlnaaGreat
/- What a leader knows of another node: answers. Condition: none. -/
namespace Go.Proofs.YthpmfnffkjjlnaaGreat
set_option linter.unusedVariables false
set_option linter.unusedSimpArgs false
open Go Go.VC
variable {R R' R1:Cx} {Hs Rest Rest2:List HP} {w:World} {b:Nat} {x:Pe}
theorem rise_filter:∀ {l:List Int} {i:Int} {k:Nat},Rise l→k≤l.length→(∀ j (hj:j<l.length),j<k→l[j]≤i)→(∀ j (hj:j<l.length),k≤j→i<l[j])→l.drop k=l.filter fun n=>decide (n>i)
 |[],_,k,_,_,_,_=>by simp
 |a::l,i,0,_,_,_,h2=>by
  rw [List.drop_zero,List.filter_eq_self.2]
  intro y hy
  obtain ⟨j,hj,rfl⟩:=List.getElem_of_mem hy
  simpa using h2 j hj (Nat.zero_le _)
 |a::l,i,k + 1,hr,hk,h1,h2=>by
  have ha:a≤i:=h1 0 (by simp) (by omega)
  rw [List.drop_succ_cons,List.filter_cons_of_neg (by simp;omega)]
  refine rise_filter (hr.drop 1) (by simpa using hk) (fun j hj hjk=>?_) (fun j hj hjk=>?_)
  ·exact h1 (j + 1) (by simpa using hj) (by omega)
  ·exact h2 (j + 1) (by simpa using hj) (by omega)
theorem Rise.filter {l:List Int} (h:Rise l) (p:Int→Bool):Rise (l.filter p):=by
 have hp:l.Pairwise (·<·):=List.pairwise_iff_getElem.2 fun i j hi hj hij=>h i j hj hij
 have:=hp.filter p
 exact fun i j hj hij=>List.pairwise_iff_getElem.1 this i j (by omega) hj hij
theorem PeOk.acked {x:Pe} (h:PeOk x) (i:Int):PeOk (x.acked i).2:=by
 have a0:=h.m0
 have a1:=h.m1
 have a2:=h.n0
 have a3:=h.n1
 have a4:=h.w0
 unfold Pe.acked
 split
 ·exact h
 ·rename_i hc
  have hy:PeOk { x with mt:=max x.mt i,nx:=max x.nx (max x.mt i + 1) }:={ h with m0:=by show 0≤max x.mt i;omega,m1:=by show max x.mt i≤_;omega,n0:=by show 1≤max x.nx _;omega,n1:=by show max x.nx _≤_;omega,fn:=fun n hn=>by have:=h.fn n hn;show n<max x.nx _;omega }
  dsimp only
  split
  ·exact { hy with st:=.inr (.inl rfl),fl:=.nil,fn:=(fun _ h=>by cases h),fw:=by show ((0:Nat):Int)≤x.wn;omega }
  ·split
   ·refine { hy with fl:=hy.fl.filter _,fn:=fun n hn=>hy.fn n (List.mem_filter.1 hn).1,fw:=?_ }
    have h1:=h.fw
    have h2:=List.length_filter_le (fun n=>decide (n>i)) x.fl
    show ((x.fl.filter _).length:Int)≤x.wn
    omega
   ·split
    ·exact hy.probe hy.n0 hy.n1
    ·exact hy
theorem PeOk.refused {x:Pe} (h:PeOk x) (i hint:Int):PeOk (x.refused i hint).2:=by
 have a0:=h.m0
 have a1:=h.m1
 have a2:=h.n0
 have a3:=h.n1
 unfold Pe.refused
 dsimp only
 split
 ·rename_i hc
  simp only [Bool.and_eq_true,beq_iff_eq] at hc
  exact h.probe (by omega) (by omega)
 ·split
  ·exact h.probe (by omega) (by omega)
  ·exact h
theorem FlAt.lend {s:Sl} {xs:List Int} (hl:xs.length≤1000) (hw:Sat R (FlAt s xs::Hs) w):∃ R',RoI R' s xs∧Sat R' Hs w∧∀ {Hs' w'},Sat R' Hs' w'→Sat R (FlAt s xs::Hs') w':=by
 rcases FlAt.cases hw with h|⟨h,hc⟩
 ·obtain ⟨R',h1,_,h2,back⟩:=Own.lendI h (by omega)
  exact ⟨R',h1,h2,fun h=>FlAt.own (back h)⟩
 ·obtain ⟨R',_,h1,h2,back⟩:=Reads.out h
  exact ⟨R',h1.ro (by rw [List.length_map];omega),h2,fun h=>FlAt.full hc (back _ _ h)⟩
theorem packed_spec (ok:PeOk x) (i:Int) (hw:Sat R (PeAt b x::Hs) w):Gets Tryz.prog 191 #[.pointer (some ⟨b,0,none⟩),.int .i64 i] w fun v w'=>v=.bool (x.acked i).1∧Sat R (PeAt b (x.acked i).2::Hs) w':=by
 apply call191
 obtain ⟨A,hA⟩:∃ A,A=x.acked i:=⟨_,rfl⟩
 rw [←hA]
 unfold Pe.acked at hA
 have a0:=ok.m0
 have a1:=ok.m1
 refine ⟨fun w=>¬ (i<0∨i>1099511627775)∧Sat R (PeAt b x::Hs) w,?_,?_⟩
 ·refine Br.d (fun h=>by rw [hA,if_pos (.inl h)];exact ⟨rfl,hw⟩) fun h=>Br.d (fun h2=>by rw [hA,if_pos (.inr h2)];exact ⟨rfl,hw⟩) fun h2=>⟨by omega,hw⟩
 clear hw
 rintro _ w ⟨hc,hw⟩
 rw [if_neg hc] at hA
 obtain ⟨s,hw⟩:=PeAt.iff.1 hw
 refine NilP.mk rfl ⟨x.mt,At.own (eqS hw) (by exact ⟨rfl,trivial⟩),NilP.mk rfl ⟨x.mt,At.own (eqS hw) (by exact ⟨rfl,trivial⟩),NilP.mk rfl ?_⟩⟩
 rw [show (if i>x.mt then i else x.mt)=max x.mt i by split<;>omega]
 refine store_rule hw (by kernel_rfl) rfl (by simp [Value.cells,putL_len]) fun w hw=>?_
 refine drw_rule hw fun w hw=>NilP.mk rfl ⟨x.nx,At.own selfS (by exact ⟨rfl,trivial⟩),NilP.mk rfl ⟨max x.mt i,At.own selfS (by exact ⟨rfl,trivial⟩),NilP.mk rfl ?_⟩⟩
 rw [wrap64 (by omega) (by omega),show (if max x.mt i + 1>x.nx then max x.mt i + 1 else x.nx)=max x.nx (max x.mt i + 1) by split<;>omega]
 refine store_rule hw (by kernel_rfl) rfl (by simp [Value.cells,putL_len]) fun w hw=>?_
 obtain ⟨y,hy⟩:∃ y:Pe,y={ x with mt:=max x.mt i,nx:=max x.nx (max x.mt i + 1) }:=⟨_,rfl⟩
 have hw:=hw.re (pts b (peCells { x with mt:=max x.mt i,nx:=max x.nx (max x.mt i + 1) } s))
 rw [←hy] at hw hA
 have hst:y.st=x.st:=by rw [hy]
 have hfl:y.fl=x.fl:=by rw [hy]
 have hsn:y.sn=x.sn:=by rw [hy]
 have hxf:Sat R (pts b (peCells y s)::FlAt s y.fl::Hs) w:=by rw [hfl];exact hw
 clear hw
 have hw:=hxf
 clear hxf
 dsimp only at hA
 refine NilP.mk rfl ⟨y.st,At.own (eqS hw) (by exact ⟨rfl,trivial⟩),Br.e (fun h=>NilP.mk rfl ?_) (fun h=>?_)⟩
 ·rw [if_pos (by rw [←hst,h];rfl)] at hA
  refine store_rule hw (by kernel_rfl) rfl (by simp [Value.cells,putL_len]) fun w hw=>?_
  refine NilP.mk rfl ?_
  refine store_rule hw (by kernel_rfl) rfl (by simp [Value.cells,putL_len]) fun w hw=>?_
  refine NilP.mk rfl ?_
  refine store_rule hw (by kernel_rfl) rfl (by simp [Value.cells,putL_len]) fun w hw=>?_
  rw [hA]
  have hw:=hw.re (pts b (peCells { y with st:=1,wt:=false,fl:=[] } ⟨none,0,0⟩))
  exact ⟨rfl,PeAt.iff.2 ⟨⟨none,0,0⟩,hw.cons fun _ h=>FlAt.own (Own.nil h.drop)⟩⟩
 rw [if_neg (by rw [←hst];simpa using h)] at hA
 refine Br.e (fun h2=>NilP.mk rfl ⟨s,At.own (eqS hw) (by exact ⟨rfl,trivial⟩),?_⟩) (fun h2=>?_)
 ·rw [if_pos (by rw [←hst,h2];rfl)] at hA
  rw [wrap64 (by omega) (by omega)]
  have hbd:y.fl.length≤64:=by rw [hfl];have:=ok.fw;have:=ok.w1;omega
  have hry:Rise y.fl:=by rw [hfl];exact ok.fl
  obtain ⟨R2,hro,hw2,back⟩:=FlAt.lend (by omega) hw.swap
  refine (bsearch_spec hro hry (by omega) hw2).use ?_
  clear hw hw2
  rintro _ w ⟨k,f,rfl,hk,h3,h4,hw⟩
  have hw:=(back hw).swap
  refine ⟨_,_,rfl,?_⟩
  refine (land_spec hk (PeAt.iff.2 ⟨s,hw⟩)).use ?_
  rintro _ w ⟨rfl,hw⟩
  rw [rise_filter (i:=i) hry hk (fun j hj hjk=>by have:=h3 j hj hjk;omega) (fun j hj hjk=>by have:=h4 j hj hjk;omega)] at hw
  rw [hA]
  exact ⟨rfl,rfl,hw⟩
 rw [if_neg (by rw [←hst];simpa using h2)] at hA
 refine Br.e (fun h3=>NilP.mk rfl ⟨y.sn,At.own (eqS hw) (by exact ⟨rfl,trivial⟩),Br.d (fun h4=>NilP.mk rfl ⟨y.nx,At.own (eqS hw) (by exact ⟨rfl,trivial⟩),?_⟩) (fun h4=>?_)⟩) (fun h3=>?_)
 ·rw [if_pos (by rw [←hst,h3,←hsn,decide_eq_true h4];rfl)] at hA
  refine (probe_spec _ (PeAt.iff.2 ⟨s,hw⟩)).use ?_
  rintro _ w ⟨rfl,hw⟩
  rw [hA]
  exact ⟨_,rfl,rfl,hw⟩
 ·rw [if_neg (by rw [←hsn,decide_eq_false h4,Bool.and_false];simp)] at hA
  rw [hA]
  exact ⟨rfl,PeAt.iff.2 ⟨s,hw⟩⟩
 ·rw [if_neg (by rw [←hst,show (y.st==2)=false by simpa using h3];simp)] at hA
  rw [hA]
  exact ⟨rfl,PeAt.iff.2 ⟨s,hw⟩⟩
theorem prefused_spec (ok:PeOk x) (i hint:Int) (hw:Sat R (PeAt b x::Hs) w):Gets Tryz.prog 192 #[.pointer (some ⟨b,0,none⟩),.int .i64 i,.int .i64 hint] w fun v w'=>v=.bool (x.refused i hint).1∧Sat R (PeAt b (x.refused i hint).2::Hs) w':=by
 apply call192
 obtain ⟨A,hA⟩:∃ A,A=x.refused i hint:=⟨_,rfl⟩
 rw [←hA]
 unfold Pe.refused at hA
 have a0:=ok.m0
 have a1:=ok.m1
 have a2:=ok.n0
 have a3:=ok.n1
 obtain ⟨h,hh⟩:∃ h,h=if hint<0∨hint>1099511627776 then 0 else hint:=⟨_,rfl⟩
 rw [←hh] at hA
 dsimp only at hA
 have hb:0≤h∧h≤1099511627776:=by rw [hh];split<;>omega
 refine ⟨fun z w=>z=h∧Sat R (PeAt b x::Hs) w,Br.d (fun h1=>⟨by rw [hh,if_pos (.inl h1)],hw⟩) (fun h1=>Br.d (fun h2=>⟨by rw [hh,if_pos (.inr h2)],hw⟩) (fun h2=>⟨by rw [hh,if_neg (by omega)],hw⟩)),?_⟩
 clear hw
 rintro _ z w ⟨hz,hw⟩
 rw [hz]
 obtain ⟨s,hw⟩:=PeAt.iff.1 hw
 refine ⟨fun z w=>z=(x.st==0 && i==x.nx - 1)∧Sat R (pts b (peCells x s)::FlAt s x.fl::Hs) w,NilP.mk rfl ⟨x.st,At.own (eqS hw) (by exact ⟨rfl,trivial⟩),Br.e (fun h1=>NilP.mk rfl ⟨x.nx,At.own (eqS hw) (by exact ⟨rfl,trivial⟩),?_,hw⟩) (fun h1=>⟨by rw [show (x.st==0)=false by simpa using h1];rfl,hw⟩)⟩,?_⟩
 ·rw [wrap64 (by omega) (by omega),show (x.st==0)=true by simpa using h1];rfl
 clear hw
 rintro _ _ w ⟨rfl,hw⟩
 refine Br.mk (fun h1=>NilP.mk rfl ⟨x.mt,At.own (eqS hw) (by exact ⟨rfl,trivial⟩),?_⟩) (fun h1=>?_)
 ·rw [if_pos h1] at hA
  rw [wrap64 (x:=h + 1) (by omega) (by omega),wrap64 (x:=x.mt + 1) (by omega) (by omega)]
  have e1:(if h + 1<i then h + 1 else i)=min i (h + 1):=by split<;>omega
  rw [e1,show (if x.mt + 1>min i (h + 1) then x.mt + 1 else min i (h + 1))=max (min i (h + 1)) (x.mt + 1) by split<;>omega]
  refine (probe_spec _ (PeAt.iff.2 ⟨s,hw⟩)).use ?_
  rintro _ w ⟨rfl,hw⟩
  rw [hA]
  exact ⟨_,rfl,rfl,hw⟩
 rw [if_neg (by rw [h1];simp)] at hA
 refine NilP.mk rfl ⟨x.st,At.own (eqS hw) (by exact ⟨rfl,trivial⟩),Br.e (fun h2=>NilP.mk rfl ⟨x.mt,At.own (eqS hw) (by exact ⟨rfl,trivial⟩),Br.d (fun h3=>NilP.mk rfl ⟨x.mt,At.own (eqS hw) (by exact ⟨rfl,trivial⟩),?_⟩) (fun h3=>?_)⟩) (fun h2=>?_)⟩
 ·rw [if_pos (by rw [h2,decide_eq_true h3];rfl)] at hA
  rw [wrap64 (by omega) (by omega)]
  refine (probe_spec _ (PeAt.iff.2 ⟨s,hw⟩)).use ?_
  rintro _ w ⟨rfl,hw⟩
  rw [hA]
  exact ⟨_,rfl,rfl,hw⟩
 ·rw [if_neg (by rw [decide_eq_false h3,Bool.and_false];simp)] at hA
  rw [hA]
  exact ⟨rfl,PeAt.iff.2 ⟨s,hw⟩⟩
 ·rw [if_neg (by rw [show (x.st==1)=false by simpa using h2];simp)] at hA
  rw [hA]
  exact ⟨rfl,PeAt.iff.2 ⟨s,hw⟩⟩
end Go.Proofs.YthpmfnffkjjlnaaGreat
/- QuorumChanges, QuorumUndo, QuorumMeets: plain. No condition. -/
namespace Go.Proofs.YthpmfnffkjjlnaaGreat
set_option linter.unusedVariables false
set_option linter.unusedSimpArgs false
open Go Go.VC
variable {v l:List Int} {n:Int}
theorem right_iff:rightG v l=true↔risesL 0 v=true∧risesL 0 l=true∧v≠[]∧∀ m∈v,hasL l m=false:=by
 simp only [rightG,Bool.and_eq_true,countL_zero,List.all_eq_true,Bool.not_eq_true',decide_eq_true_eq,and_assoc,gt_iff_lt,List.length_pos_iff]
theorem rises_with:∀ {l:List Int} {a:Int},risesL a l=true→a<n→n≤15→hasL l n=false→risesL a (withL n l)=true
 |[],a,_,h0,h1,_=>by simp [withL,risesL];omega
 |x::l,a,h,h0,h1,hn=>by
  simp only [risesL,Bool.and_eq_true,Bool.not_eq_true',decide_eq_false_iff_not] at h
  simp only [hasL,Bool.or_eq_false_iff,beq_eq_false_iff_ne,ne_eq] at hn
  unfold withL
  split
  ·simp only [risesL,Bool.and_eq_true,Bool.not_eq_true',decide_eq_false_iff_not]
   exact ⟨by omega,by omega,h.2⟩
  ·simp only [risesL,Bool.and_eq_true,Bool.not_eq_true',decide_eq_false_iff_not]
   exact ⟨h.1,rises_with h.2 (by omega) h1 hn.2⟩
theorem rises_weak:∀ {l:List Int} {a b:Int},risesL a l=true→b≤a→risesL b l=true
 |[],_,_,_,_=>rfl
 |x::l,a,b,h,hb=>by
  simp only [risesL,Bool.and_eq_true,Bool.not_eq_true',decide_eq_false_iff_not] at h ⊢
  exact ⟨by omega,h.2⟩
theorem rises_filter (p:Int→Bool):∀ {l:List Int} {a:Int},risesL a l=true→risesL a (l.filter p)=true
 |[],_,_=>rfl
 |x::l,a,h=>by
  simp only [risesL,Bool.and_eq_true,Bool.not_eq_true',decide_eq_false_iff_not] at h
  have ih:=rises_filter p h.2
  rw [List.filter_cons]
  split
  ·simp only [risesL,Bool.and_eq_true,Bool.not_eq_true',decide_eq_false_iff_not];exact ⟨h.1,ih⟩
  ·exact rises_weak ih (by omega)
theorem has_with {m:Int}:hasL (withL n l) m=(m==n||hasL l m):=by
 have h:hasL (withL n l) m=true↔(m==n||hasL l m)=true:=by
  rw [hasL_mem,(withL_perm n l).mem_iff,Bool.or_eq_true,hasL_mem];simp
 cases h1:hasL (withL n l) m<;>cases h2:(m==n||hasL l m)<;>simp_all
theorem has_without {m:Int}:hasL (withoutL n l) m=(m !=n && hasL l m):=by
 have h:hasL (withoutL n l) m=true↔(m !=n && hasL l m)=true:=by
  rw [hasL_mem,withoutL,List.mem_filter,Bool.and_eq_true,hasL_mem]
  exact ⟨fun h=>⟨h.2,h.1⟩,fun h=>⟨h.2,h.1⟩⟩
 cases h1:hasL (withoutL n l) m<;>cases h2:(m !=n && hasL l m)<;>simp_all
theorem with_ne:withL n l≠[]:=fun h=>by
 have:=(withL_perm n l).length_eq;rw [h] at this;simp at this
theorem with_len:(withL n l).length=l.length + 1:=by
 have:=(withL_perm n l).length_eq;simpa using this
theorem right_add (h:rightG v l=true) (hv:hasL v n=false) (hl:hasL l n=false) (h0:1≤n) (h1:n≤15):rightG v (withL n l)=true:=by
 obtain ⟨a,b,c,d⟩:=right_iff.1 h
 refine right_iff.2 ⟨a,rises_with b (by omega) h1 hl,c,fun m hm=>?_⟩
 rw [has_with,d m hm,Bool.or_false,beq_eq_false_iff_ne]
 intro e;subst e
 have:=hasL_mem.2 hm;rw [hv] at this;cases this
theorem right_promote (h:rightG v l=true) (hl:hasL l n=true) (h0:1≤n) (h1:n≤15):rightG (withL n v) (withoutL n l)=true:=by
 obtain ⟨a,b,c,d⟩:=right_iff.1 h
 refine right_iff.2 ⟨rises_with a (by omega) h1 (right_disj h hl),rises_filter _ b,with_ne,fun m hm=>?_⟩
 rw [has_without]
 have:=hasL_mem.2 hm
 rw [has_with] at this
 cases hm2:(m==n)
 ·rw [hm2,Bool.false_or] at this
  rw [d m (hasL_mem.1 this),Bool.and_false]
 ·simp [bne,hm2]
theorem right_remove (h:rightG v l=true) (hc:withoutL n v≠[]):rightG (withoutL n v) (withoutL n l)=true:=by
 obtain ⟨a,b,c,d⟩:=right_iff.1 h
 refine right_iff.2 ⟨rises_filter _ a,rises_filter _ b,hc,fun m hm=>?_⟩
 rw [has_without,d m (List.mem_filter.1 hm).1,Bool.and_false]
structure Changed (v l:List Int) (n:Int) (a b:List Int):Prop where
 was:rightG v l=true
 right:rightG a b=true
 how:a=v∨(a=withL n v)∨(a=withoutL n v∧hasL v n=true)
theorem chG_changed {kind:Int} {a b:List Int} (h:chG v l kind n=(a,b,0)):Changed v l n a b:=by
 by_cases ok:ChOk v l kind n
 ·rw [ok.eq] at h
  split at h
  ·split at h
   ·cases h
   ·rename_i hc
    simp only [Bool.or_eq_true,not_or,Bool.not_eq_true] at hc
    cases h
    rw [without_not hc.1]
    exact ⟨ok.right,right_add ok.right hc.1 hc.2 ok.n0 ok.n1,.inl rfl⟩
  ·split at h
   ·split at h
    ·cases h
    ·rename_i hc
     simp only [Bool.not_eq_true',Bool.not_eq_false] at hc
     cases h
     exact ⟨ok.right,right_promote ok.right hc ok.n0 ok.n1,.inr (.inl rfl)⟩
   ·split at h
    ·cases h
    ·rename_i hc
     cases h
     simp only [Bool.or_eq_true,Bool.and_eq_true,not_or,Bool.not_eq_true',not_and,Bool.not_eq_false,beq_iff_eq] at hc
     cases hv:hasL v n
     ·rw [without_not hv]
      have:=right_remove (n:=n) ok.right (by rw [without_not hv];exact (right_iff.1 ok.right).2.2.1)
      rw [without_not hv] at this
      exact ⟨ok.right,this,.inl rfl⟩
     ·have hl:=len_without (rises_nodup (right_rises ok.right)) hv
      have h1:=hc.2 hv
      have hp:=right_pos ok.right
      refine ⟨ok.right,right_remove ok.right fun e=>?_,.inr (.inr ⟨rfl,hv⟩)⟩
      rw [e] at hl;simp at hl;omega
 ·have:chG v l kind n=([],[],1):=by
   refine chG_arg ?_
   cases hr:rightG v l
   ·exact .inl rfl
   ·refine .inr ?_
    by_cases h1:kind<1
    ·exact .inl h1
    ·by_cases h2:kind>3
     ·exact .inr (.inl h2)
     ·by_cases h3:n<1
      ·exact .inr (.inr (.inl h3))
      ·by_cases h4:n>15
       ·exact .inr (.inr (.inr h4))
       ·exact absurd ⟨hr,by omega,by omega,by omega,by omega⟩ ok
  rw [this] at h;cases h
theorem chG_cases (v l:List Int) (kind n:Int):chG v l kind n=([],[],1)∨chG v l kind n=([],[],7)∨∃ a b,chG v l kind n=(a,b,0):=by
 unfold chG
 split
 ·exact .inl rfl
 split<;>split<;>first|exact .inr (.inl rfl)|exact .inr (.inr ⟨_,_,rfl⟩)|skip
 all_goals split
 all_goals first|exact .inr (.inl rfl)|exact .inr (.inr ⟨_,_,rfl⟩)
theorem chG_len (v l:List Int) (kind n:Int):(chG v l kind n).1.length≤1000∧(chG v l kind n).2.1.length≤1000:=by
 rcases chG_cases v l kind n with h|h|⟨a,b,h⟩
 ·rw [h];simp
 ·rw [h];simp
 ·have:=chG_changed h
  rw [h]
  have h1:=rises_len15 (right_rises this.right)
  have h2:=rises_len15 (right_risesL this.right)
  simp only;omega
theorem count_and (p q:Int→Bool):∀ v:List Int,countL p v + countL q v≤v.length + countL (fun m=>p m && q m) v
 |[]=>by simp [countL]
 |m::v=>by
  have ih:=count_and p q v
  unfold countL at *
  simp only [List.filter_cons,List.length_cons]
  cases hp:p m<;>cases hq:q m<;>simp<;>omega
theorem count_pos {p:Int→Bool} {v:List Int} (h:0<countL p v):∃ m∈v,p m=true:=by
 unfold countL at h
 have:0<(v.filter p).length:=by omega
 obtain ⟨m,hm⟩:=List.exists_mem_of_length_pos this
 exact ⟨m,List.mem_filter.1 hm⟩
theorem count_with (p:Int→Bool):countL p (withL n v)=countL p v + if p n then 1 else 0:=by
 rw [countL_perm p (withL_perm n v)]
 unfold countL
 rw [List.filter_cons]
 split<;>simp
theorem count_without (p:Int→Bool):∀ {v:List Int},v.Nodup→countL p v≤countL p (withoutL n v) + 1
 |[],_=>by simp [countL,withoutL]
 |x::v,hd=>by
  obtain ⟨h1,h2⟩:=List.nodup_cons.1 hd
  by_cases hx:x=n
  ·subst hx
   have hv:hasL v x=false:=by
    cases hv:hasL v x
    ·rfl
    ·exact absurd (hasL_mem.1 hv) h1
   have:withoutL x (x::v)=withoutL x v:=by simp [withoutL]
   rw [this,without_not hv]
   unfold countL
   rw [List.filter_cons]
   split<;>simp
   omega
  ·have:withoutL n (x::v)=x::withoutL n v:=by simp [withoutL,hx]
   rw [this]
   have ih:=count_without p h2
   unfold countL at *
   rw [List.filter_cons,List.filter_cons]
   split<;>simp<;>omega
theorem meets {a b x0 x1:List Int} (h:Changed v l n a b) (w0:winsG v l x0=true) (w1:winsG a b x1=true):∃ m∈v,hasL x0 m=true∧hasL x1 m=true∧hasL a m=true:=by
 unfold winsG needG at w0 w1
 simp only [Bool.and_eq_true,decide_eq_true_eq,h.was,h.right,if_true,true_and] at w0 w1
 have nd:=rises_nodup (right_rises h.was)
 rcases h.how with rfl|rfl|⟨rfl,hv⟩
 ·have hc:=count_and (hasL x0) (hasL x1) a
  obtain ⟨m,hm,hp⟩:=count_pos (p:=fun m=>hasL x0 m && hasL x1 m) (v:=a) (by omega)
  simp only [Bool.and_eq_true] at hp
  exact ⟨m,hm,hp.1,hp.2,hasL_mem.2 hm⟩
 ·have hc:=count_and (hasL x0) (hasL x1) v
  rw [with_len,count_with] at w1
  obtain ⟨m,hm,hp⟩:=count_pos (p:=fun m=>hasL x0 m && hasL x1 m) (v:=v) (by split at w1<;>omega)
  simp only [Bool.and_eq_true] at hp
  exact ⟨m,hm,hp.1,hp.2,by rw [has_with,hasL_mem.2 hm,Bool.or_true]⟩
 ·have hc:=count_and (hasL x0) (hasL x1) (withoutL n v)
  have h1:=count_without (n:=n) (hasL x0) nd
  have h2:=len_without nd hv
  obtain ⟨m,hm,hp⟩:=count_pos (p:=fun m=>hasL x0 m && hasL x1 m) (v:=withoutL n v) (by omega)
  simp only [Bool.and_eq_true] at hp
  exact ⟨m,(List.mem_filter.1 hm).1,hp.1,hp.2,hasL_mem.2 hm⟩
end Go.Proofs.YthpmfnffkjjlnaaGreat
