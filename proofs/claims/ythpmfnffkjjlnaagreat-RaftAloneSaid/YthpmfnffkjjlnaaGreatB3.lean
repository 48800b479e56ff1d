/- A node's log in memory: Get, and what Add and Merge ask of entries. Condition: bounds on lengths. -/
import Derived.Test.YthpmfnffkjjlnaaGreatB2
import Derived.Shelf.SlIterI.Nil
import Derived.Shelf.SlIterI.Collect
import Derived.Shelf.SlIterI.Sorted
import Derived.Shelf.SortM.Plain
import Derived.Shelf.SortM.SortNone
import Derived.Ground.GgzProg
import Derived.Ground.SlgmProg
import Derived.Test.YthpmfnffkjjlnaaGreatProg
namespace Go.Proofs.YthpmfnffkjjlnaaGreat
set_option linter.unusedVariables false
set_option linter.unusedSimpArgs false
open Go Go.VC
open Go.Rf (Ey Lg LgOk)
variable {R R' R1:Cx} {Hs Rest Rest2:List HP} {w:World}
theorem LgIn.dt {g:Lg} {ds:List DE4} (h:LgIn R g ds) (ok:LgOk g) {k:Nat}:∀ e∈ds.drop (k + 1),Rf.oddE e.2=false:=fun e he=>by
 have h1:e.2∈(erE ds).drop (k + 1):=by rw [←List.map_drop];exact List.mem_map_of_mem he
 rw [h.e] at h1
 exact ok.es.no _ (List.mem_of_mem_drop (l:=g.l) (i:=k) h1)
theorem get_spec {p:Nat} {g:Lg} {s:Sl} {com app:Int} {ds:List DE4} {Hs:List HP} (hi:LgIn R g ds) (ok:LgOk g) (i most:Int) (hw:Sat R (pts p (lgCells s com app)::EntO s ds::Hs) w):
  Gets Tryz.prog 53 #[.pointer (some ⟨p,0,none⟩),.int .i64 i,.int .i64 most] w (EntsQ R (pts p (lgCells s com app)::EntO s ds::Hs) (g.get i most)):=by
 apply call53
 have no:∀ {w},g.get i most=[]→Sat R (pts p (lgCells s com app)::EntO s ds::Hs) w→EntsQ R (pts p (lgCells s com app)::EntO s ds::Hs) (g.get i most) (.slice none 0 0) w:=fun h hw=>by
  rw [h];exact ⟨R,⟨none,0,0⟩,[],.refl,.nil,rfl,rfl,OwnN.nil hw⟩
 refine ⟨fun w=>¬ (i≤g.b.ix∨g.has i=false∨most<1)∧Sat R (pts p (lgCells s com app)::EntO s ds::Hs) w,?_,?_⟩
 ·refine (base_spec hi hw).use ?_
  clear hw
  rintro _ w ⟨rfl,hw⟩
  refine ⟨_,rfl,Br.d (fun h=>no (by unfold Lg.get;rw [if_pos (.inl h)]) hw) (fun h=>?_)⟩
  refine (has_spec hi ok i hw).use ?_
  clear hw
  rintro _ w ⟨rfl,hw⟩
  refine ⟨_,rfl,Br.nb (fun h2=>no (by unfold Lg.get;rw [if_pos (.inr (.inl h2))]) hw) (fun h2=>?_)⟩
  refine Br.d (fun h3=>no (by unfold Lg.get;rw [if_pos (.inr (.inr h3))]) hw) (fun h3=>⟨?_,hw⟩)
  rintro (h4|h4|h4)
  ·exact h h4
  ·rw [h2] at h4;cases h4
  ·exact h3 h4
 clear hw
 rintro _ w ⟨hc,hw⟩
 have h2:g.has i=true:=by
  cases h:g.has i
  ·exact absurd (.inr (.inl h)) hc
  ·rfl
 refine (from_spec hi ok h2 hw).use ?_
 clear hw
 rintro _ w ⟨rfl,hw⟩
 have hh:=Rf.Lg.has_iff.1 h2
 have hll:=ok.last_le
 have h0:=ok.b0
 have hlen:=hi.len
 have hw2:Sat R (EntO s ds::pts p (lgCells s com app)::Hs) w:=hw.swap
 have hcap:=OwnN.cap (by omega) hw2
 have hsl:s.len=ds.length:=by have:=OwnN.len hw2;simpa using this
 obtain ⟨k,hk⟩:∃ k:Nat,(i - g.b.ix).toNat=k + 1:=⟨(i - g.b.ix).toNat - 1,by omega⟩
 rw [hk]
 refine ⟨⟨cutA s.a (k + 1) s.cap 4,s.len - (k + 1),s.cap - (k + 1)⟩,rfl,?_⟩
 unfold Lg.last at *
 have em:∃ m:Nat,(if ((s.len - (k + 1):Nat):Int)<most then ((s.len - (k + 1):Nat):Int) else most)=m∧m≤ds.length - (k + 1)∧((ds.drop (k + 1)).take m)=(ds.drop (k + 1)).take most.toNat:=by
  by_cases h:((s.len - (k + 1):Nat):Int)<most
  ·rw [if_pos h]
   refine ⟨_,rfl,by omega,?_⟩
   rw [List.take_of_length_le (by rw [List.length_drop];omega),List.take_of_length_le (by rw [List.length_drop];omega)]
  ·rw [if_neg h]
   exact ⟨most.toNat,by omega,by omega,rfl⟩
 obtain ⟨m,em,hm,et⟩:=em
 dsimp only
 rw [em]
 refine ⟨by omega,by omega,?_⟩
 have hr:Rdg R (EntO s ds) 4 ⟨cutA s.a (k + 1) s.cap 4,m,s.cap - (k + 1)⟩ (((ds.drop (k + 1)).take m).map eRow):=by
  have h1:=(Rdg.own (R:=R) (n:=4) (s:=s) (T:=52) (rows:=ds.map eRow)).sub (m:=s.cap) (l:=k + 1) (by rw [List.length_map];omega) (by rw [List.length_map];omega) (s.cap - (k + 1))
  have h2:=h1.take (m:=m) (by rw [List.length_drop,List.length_map];omega) (s.cap - (k + 1))
  rwa [←List.map_drop,←List.map_take] at h2
 have hnz:∀ e∈(ds.drop (k + 1)).take m,e.2.dt.length≤1099511627776:=fun e he=>by
  have:=Rf.oddE_no (hi.dt ok (k:=k) e (List.mem_of_mem_take he));omega
 rw [Int.toNat_natCast]
 refine (copied_spec hr ((hi.d.drop _).take _) (by rw [List.length_take,List.length_drop];omega) hnz hw2).use ?_
 clear hw hw2
 rintro _ w ⟨R2,t,ds2,e2,hd2,he2,rfl,hw⟩
 refine ⟨t,rfl,R2,t,ds2,e2,hd2,?_,rfl,hw.arr⟩
 rw [he2,et]
 unfold Lg.get
 rw [if_neg hc,hk]
 simp only [erE,List.map_take,List.map_drop]
 rw [show ds.map (·.2)=g.all from hi.e]
theorem tail_spec {p:Nat} {g:Lg} {s:Sl} {com app:Int} {ds:List DE4} {Hs:List HP} (hi:LgIn R' g ds) (ok:LgOk g) (hw:Sat R (pts p (lgCells s com app)::EntO s ds::Hs) w):
  Gets Tryz.prog 86 #[.pointer (some ⟨p,0,none⟩)] w fun v w'=>∃ t:Sl,v=eVal (t,g.tail)∧Sat R (pts p (lgCells s com app)::EntO s ds::Hs) w':=by
 apply call86
 refine new_rule hw fun b w hw=>?_
 refine drw_rule hw fun w hw=>NilP.mk rfl ⟨s,At.own selfS (by exact ⟨rfl,trivial⟩),NilP.mk rfl ⟨s,At.own selfS (by exact ⟨rfl,trivial⟩),?_⟩⟩
 have hlen:=hi.len
 have hw2:Sat R (EntO s ds::pts b (.cells [.int .i64 0,.int .i64 0,.int .i64 0,.slice none 0 0].toArray 52 (0,0))::pts p (lgCells s com app)::Hs) w:=hw.arr
 have hsl:s.len=ds.length:=by have:=OwnN.len hw2;simpa using this
 have hll:=ok.len
 rw [wrap64 (by omega) (by omega)]
 have hk:ds.length - 1<ds.length:=by omega
 refine ent_rng hw selfS (ds:=ds) (ds.length - 1) (by omega) hk fun a _ el=>?_
 obtain ⟨x,hx⟩:∃ x,x=ds[ds.length - 1]:=⟨_,rfl⟩
 rw [←hx] at el
 rw [show (((s.len:Nat):Int) - 1).toNat=(((ds.length - 1:Nat):Int)).toNat by omega]
 refine ⟨_,_,_,_,el.z (by exact ⟨rfl,rfl,rfl,rfl,trivial⟩),?_⟩
 refine store_rule hw (by kernel_rfl) rfl (by simp [Value.cells,putL_len]) fun w hw=>?_
 have hw:Sat R (pts b (.cells (eRow x).toArray 52 (0,0))::pts p (lgCells s com app)::EntO s ds::Hs) w:=hw
 refine ⟨_,_,_,_,At.own (eqS hw) (by exact ⟨rfl,rfl,rfl,rfl,trivial⟩),x.1,?_,hw.drop⟩
 have:x.2=g.tail:=by
  obtain ⟨h2,h3⟩:=hi.get hk
  rw [hx,h3]
  exact Rf.Lg.tail_at _ (by omega)
 rw [←this]
theorem odd_spec {e:DE4} (hlen:e.1.len=e.2.dt.length) (hw:Sat R Hs w):Gets Tryz.prog 84 #[eVal e] w fun v w'=>v=.bool (Rf.oddE e.2)∧Sat R Hs w':=by
 obtain ⟨s,x⟩:=e
 apply call84
 refine new_rule hw fun b w hw=>⟨_,At.own (eqS hw) (by exact ⟨rfl,trivial⟩),?_⟩
 unfold Rf.oddE
 refine Br.d (fun h=>⟨by rw [decide_eq_true h];rfl,hw.drop⟩) (fun h=>⟨_,At.own (eqS hw) (by exact ⟨rfl,trivial⟩),?_⟩)
 rw [decide_eq_false h]
 refine (within_spec hw).use ?_
 clear hw
 rintro _ w ⟨rfl,hw⟩
 refine ⟨_,rfl,Br.nb (fun h=>⟨by rw [h];rfl,hw.drop⟩) (fun h=>⟨_,At.own (eqS hw) (by exact ⟨rfl,trivial⟩),?_⟩)⟩
 rw [h]
 refine (within_spec hw).use ?_
 clear hw
 rintro _ w ⟨rfl,hw⟩
 refine ⟨_,rfl,Br.nb (fun h=>⟨by rw [h];rfl,hw.drop⟩) (fun h=>⟨_,At.own (eqS hw) (by exact ⟨rfl,trivial⟩),?_⟩)⟩
 rw [h]
 refine Br.d (fun h=>⟨by rw [decide_eq_true h];rfl,hw.drop⟩) (fun h=>⟨_,At.own (eqS hw) (by exact ⟨rfl,trivial⟩),?_⟩)
 rw [decide_eq_false h]
 refine Br.d (fun h=>⟨by rw [decide_eq_true h];rfl,hw.drop⟩) (fun h=>⟨s,At.own (eqS hw) (by exact ⟨rfl,trivial⟩),?_,hw.drop⟩)
 rw [decide_eq_false h]
 simp only at hlen
 rw [hlen];rfl
theorem follow_spec {A:HP} {s:Sl} {ds:List DE4} (hr:Rdg R A 4 s (ds.map eRow)) (hl:ds.length≤1099511627777) (ho:∀ e∈ds,Rf.oddE e.2=false) (i t:Int) (hw:Sat R (A::Hs) w):
  Gets Tryz.prog 85 #[.slice s.a s.len s.cap,.int .i64 i,.int .i64 t] w fun v w'=>v=.bool (Rf.folE (erE ds) i t)∧Sat R (A::Hs) w':=by
 apply call85
 have hsl:=hr.len hw
 refine ⟨fun i' t' j w=>∃ k:Nat,j=k∧k≤ds.length∧Rf.folE (erE ds) i t=Rf.folE (erE (ds.drop k)) i' t'∧Sat R (A::Hs) w,fun _ _ j _=>ds.length - j.toNat,
  ⟨0,rfl,Nat.zero_le _,rfl,hw⟩,?_⟩
 clear hw
 rintro _ i' t' _ w ⟨k,rfl,hk,he,hw⟩
 refine Br.d (fun h=>?_) (fun h=>?_)
 ·have hk':k<ds.length:=by omega
  refine hr.rng .refl hw (fun w h=>eqS hw w h) k rfl hk' fun a _ el=>?_
  have hod:=Rf.oddE_no (ho _ (List.getElem_mem hk'))
  refine ⟨_,_,_,_,el.z (by exact ⟨rfl,rfl,rfl,rfl,trivial⟩),new_rule hw fun b w hw=>?_⟩
  refine store_rule hw (by kernel_rfl) rfl (by simp [Value.cells,putL_len]) fun w hw=>?_
  refine ⟨_,At.own (eqS hw) (by exact ⟨rfl,trivial⟩),?_⟩
  rw [wrap64 (by omega) (by omega)]
  rw [drop_get hk'] at he
  simp only [erE,List.map_cons,Rf.folE] at he
  refine Br.ne (fun h2=>⟨by rw [if_pos (.inl h2)] at he;simpa [erE] using he.symm,hw.drop⟩) (fun h2=>⟨_,At.own (eqS hw) (by exact ⟨rfl,trivial⟩),?_⟩)
  refine Br.d (fun h3=>⟨by rw [if_pos (.inr h3)] at he;simpa [erE] using he.symm,hw.drop⟩) (fun h3=>drw_rule hw fun w hw=>⟨_,At.own selfS (by exact ⟨rfl,trivial⟩),_,At.own selfS (by exact ⟨rfl,trivial⟩),?_⟩)
  rw [if_neg (by rintro (h4|h4)<;>contradiction)] at he
  rw [wrap64 (by omega) (by omega)]
  exact ⟨⟨k + 1,by omega,hk',he,hw.drop⟩,by dsimp only;omega⟩
 ·have:k=ds.length:=by omega
  subst this
  rw [List.drop_length] at he
  exact ⟨by rw [he];rfl,hw⟩
def idxV (o:Option Nat):Int:=match o with|some k=>k|none=>-1
theorem indexE_spec {A:HP} {s:Sl} {ds:List DE4} {f:Value} (p:Ey→Bool) (hr:Rdg R A 4 s (ds.map eRow)) (hl:ds.length≤1099511627777)
  (hf:∀ e∈ds,∀ w,Sat R (A::Hs) w→CalW Tryz.prog cl f [eVal e] w (fun r w'=>r=.returned (.bool (p e.2))∧Sat R (A::Hs) w')) (hw:Sat R (A::Hs) w):
  Gets Tryz.prog 119 #[.slice s.a s.len s.cap,f] w fun v w'=>v=.int .i64 (idxV ((erE ds).findIdx? p))∧Sat R (A::Hs) w':=by
 apply call119
 have hsl:=hr.len hw
 refine ⟨fun j w=>∃ k:Nat,j=k∧k≤ds.length∧(∀ j (hj:j<ds.length),j<k→p ds[j].2=false)∧Sat R (A::Hs) w,fun j _=>ds.length - j.toNat,
  ⟨0,rfl,Nat.zero_le _,fun _ _ h=>by omega,hw⟩,?_⟩
 clear hw
 rintro _ _ w ⟨k,rfl,hk,hno,hw⟩
 refine Br.d (fun h=>?_) (fun h=>?_)
 ·have hk':k<ds.length:=by omega
  refine hr.rng .refl hw (fun w h=>eqS hw w h) k rfl hk' fun a _ el=>?_
  refine ⟨_,_,_,_,el.z (by exact ⟨rfl,rfl,rfl,rfl,trivial⟩),?_⟩
  refine (hf ds[k] (List.getElem_mem hk') w hw).mono ?_
  clear hw
  rintro _ w ⟨rfl,hw⟩
  refine ⟨_,rfl,Br.mk (fun h2=>⟨?_,hw⟩) (fun h2=>?_)⟩
  ·have:(erE ds).findIdx? p=some k:=List.findIdx?_eq_some_iff_getElem.2 ⟨by rw [List.length_map];exact hk',by simpa using h2,fun j hj=>by simpa using hno j (by omega) hj⟩
   rw [this];rfl
  ·rw [wrap64 (by omega) (by omega)]
   refine ⟨⟨k + 1,by omega,hk',fun j hj hjk=>?_,hw⟩,by dsimp only;omega⟩
   by_cases e:j=k
   ·subst e;exact h2
   ·exact hno j hj (by omega)
 ·have:k=ds.length:=by omega
  subst this
  have:(erE ds).findIdx? p=none:=List.findIdx?_eq_none_iff.2 fun x hx=>by
   obtain ⟨e,he,rfl⟩:=List.mem_map.1 hx
   obtain ⟨j,hj,rfl⟩:=List.getElem_of_mem he
   exact hno j hj hj
  exact ⟨by rw [this];rfl,hw⟩
theorem idxV_ge {o:Option Nat}:decide (idxV o ≥ 0)=o.isSome:=by
 cases o with
 |none=>rfl
 |some k=>unfold idxV;simp
theorem containsE_spec {A:HP} {s:Sl} {ds:List DE4} {f:Value} (p:Ey→Bool) (hr:Rdg R A 4 s (ds.map eRow)) (hl:ds.length≤1099511627777)
  (hf:∀ e∈ds,∀ w,Sat R (A::Hs) w→CalW Tryz.prog cl f [eVal e] w (fun r w'=>r=.returned (.bool (p e.2))∧Sat R (A::Hs) w')) (hw:Sat R (A::Hs) w):
  Gets Tryz.prog 56 #[.slice s.a s.len s.cap,f] w fun v w'=>v=.bool ((erE ds).any p)∧Sat R (A::Hs) w':=by
 apply call56
 refine (indexE_spec p hr hl hf hw).use ?_
 rintro _ w ⟨rfl,hw⟩
 refine ⟨_,rfl,?_,hw⟩
 rw [idxV_ge]
 congr 1
 rw [Bool.eq_iff_iff,Option.isSome_iff_ne_none,ne_eq,List.findIdx?_eq_none_iff]
 simp [List.any_eq_true]
 exact ⟨fun ⟨x,⟨a,h⟩,hp⟩=>⟨a,x,h,hp⟩,fun ⟨a,x,h,hp⟩=>⟨x,⟨a,h⟩,hp⟩⟩
theorem anyOdd_spec {A:HP} {s:Sl} {ds:List DE4} (hr:Rdg R A 4 s (ds.map eRow)) (hl:ds.length≤1099511627777) (hd:DsR R ds) (hw:Sat R (A::Hs) w):
  Gets Tryz.prog 56 #[.slice s.a s.len s.cap,.func (.func 84) #[] #[]] w fun v w'=>v=.bool ((erE ds).any Rf.oddE)∧Sat R (A::Hs) w':=
 containsE_spec Rf.oddE hr hl (fun e he w hw=>by
  show Calls Tryz.prog 84 #[eVal e] w _
  refine (odd_spec (by have:=(hd e he).len;simpa using this) hw).use ?_
  rintro _ w ⟨rfl,hw⟩
  exact ⟨rfl,hw⟩) hw
end Go.Proofs.YthpmfnffkjjlnaaGreat
/- Elections: a node in memory; its small steps. Condition: bounds on numbers. -/
namespace Go.Proofs.YthpmfnffkjjlnaaGreat
set_option linter.unusedVariables false
set_option linter.unusedSimpArgs false
open Go Go.VC
variable {R R' R1:Cx} {Hs Rest Rest2:List HP} {w:World}
theorem _root_.Go.VC.At.ex {α:Type} {S:α→World→Prop} {a:Addr} {vs:List Value} (h:∀ x,At (S x) a vs):At (fun w=>∃ x,S x w) a vs:=fun w ⟨x,hx⟩=>h x w hx
theorem _root_.Go.VC.Cx.Ext.roI {s:Sl} {xs:List Int} (e:R.Ext R') (h:RoI R s xs):RoI R' s xs:=e.ro h
abbrev eCells (e:Eln) (sv sl:Sl) (m:Nat):Obj:=.cells [.int .i64 e.id,.int .i64 e.pat,.int .i64 e.hd.tm,.int .i64 e.hd.vt,.slice sv.a sv.len sv.cap,.slice sl.a sl.len sl.cap,.int .i64 e.role,.int .i64 e.lead,.int .i64 e.wait,.int .i64 e.lim,.map (some m)].toArray 115 (0,0)
abbrev nilV:Value:=.slice none 0 0
def SaidAt (m:Nat) (yes no:List Int):HP:=exs fun es:List (Bool × Value)=>exs fun sy:Sl=>exs fun sn:Sl=>
 Star [pur ((getM true es).getD nilV=sy.v∧(getM false es).getD nilV=sn.v),MapAt m es,Own sy 3 (ints yes),Own sn 3 (ints no)]
theorem SaidAt.iff {m:Nat} {yes no:List Int}:Sat R (SaidAt m yes no::Hs) w↔∃ es sy sn,((getM true es).getD nilV=Sl.v sy∧(getM false es).getD nilV=Sl.v sn)∧Sat R (MapAt m es::Own sy 3 (ints yes)::Own sn 3 (ints no)::Hs) w:=by
 constructor
 ·intro h
  obtain ⟨es,h⟩:=Sat.exs.1 h
  obtain ⟨sy,h⟩:=Sat.exs.1 h
  obtain ⟨sn,h⟩:=Sat.exs.1 h
  obtain ⟨h1,h⟩:=Sat.pur.1 (Sat.star.1 h)
  exact ⟨es,sy,sn,h1,h⟩
 ·rintro ⟨es,sy,sn,h1,h⟩
  exact Sat.exs.2 ⟨es,Sat.exs.2 ⟨sy,Sat.exs.2 ⟨sn,Sat.star.2 (Sat.pur.2 ⟨h1,h⟩)⟩⟩⟩
structure GpIn (R:Cx) (g:Gp) (sv sl:Sl):Prop where
 v:RoI R sv g.vs
 l:RoI R sl g.ls
theorem GpIn.ext {g:Gp} {sv sl:Sl} (h:GpIn R g sv sl) (e:R.Ext R'):GpIn R' g sv sl:=⟨e.roI h.v,e.roI h.l⟩
def ElAt (R:Cx) (p:Nat) (e:Eln):HP:=exs fun sv:Sl=>exs fun sl:Sl=>exs fun m:Nat=>Star [pur (GpIn R e.g sv sl),pts p (eCells e sv sl m),SaidAt m e.yes e.no]
theorem ElAt.iff {p:Nat} {e:Eln}:Sat R (ElAt R1 p e::Hs) w↔∃ sv sl m,GpIn R1 e.g sv sl∧Sat R (pts p (eCells e sv sl m)::SaidAt m e.yes e.no::Hs) w:=by
 constructor
 ·intro h
  obtain ⟨sv,h⟩:=Sat.exs.1 h
  obtain ⟨sl,h⟩:=Sat.exs.1 h
  obtain ⟨m,h⟩:=Sat.exs.1 h
  obtain ⟨h1,h⟩:=Sat.pur.1 (Sat.star.1 h)
  exact ⟨sv,sl,m,h1,h⟩
 ·rintro ⟨sv,sl,m,h1,h⟩
  exact Sat.exs.2 ⟨sv,Sat.exs.2 ⟨sl,Sat.exs.2 ⟨m,Sat.star.2 (Sat.pur.2 ⟨h1,h⟩)⟩⟩⟩
theorem ElAt.ext {R2:Cx} {p:Nat} {e:Eln} (hw:Sat R (ElAt R1 p e::Hs) w) (x:R1.Ext R2):Sat R (ElAt R2 p e::Hs) w:=by
 obtain ⟨sv,sl,m,h,hw⟩:=ElAt.iff.1 hw
 exact ElAt.iff.2 ⟨sv,sl,m,h.ext x,hw⟩
theorem mapS:MapT Tryz.prog 113 Bool 4 30 nilV:=⟨Tryz.underlying113,Tryz.underlying4,fun _=>Tryz.zeroValue30 _⟩
theorem MapAt.lookS {m:Nat} {es:List (Bool × Value)} (hw:Sat R (MapAt m es::Hs) w) (k:Bool) {s:Sl} (h:(getM k es).getD nilV=s.v):
  (Instr.lookup 113 (.map (some m)) (.bool k) false).run Tryz.prog w=.ok (.slice s.a s.len s.cap) w:=by
 have:=MapAt.look mapS hw k false
 rw [if_neg (by simp),h] at this
 exact this
abbrev blRow (b:Bl):List Value:=[.int .i64 b.kd,.int .i64 b.fr,.int .i64 b.to',.int .i64 b.tm,.int .i64 b.ix,.int .i64 b.lt,.bool b.yes]
abbrev BlO (s:Sl) (bs:List Bl):HP:=OwnN 7 s 161 (bs.map blRow)
theorem elBl:ElN Tryz.prog 103 103 161 7 56:=⟨Tryz.underlying103,⟨_,Tryz.underlying103⟩,by kernel_rfl⟩
section
variable {p m:Nat} {e:Eln} {sv sl:Sl} [tk:TakeP p Hs (eCells e sv sl m) Rest]
include tk
theorem hard_spec (hw:Sat R Hs w):Gets Tryz.prog 23 #[.pointer (some ⟨p,0,none⟩)] w fun v w'=>v=.agg #[.int .i64 e.hd.tm,.int .i64 e.hd.vt]∧Sat R Hs w':=by
 apply call23
 refine new_rule hw fun b w hw=>NilP.mk rfl ⟨_,_,At.own (eqS hw) (by exact ⟨rfl,rfl,trivial⟩),?_⟩
 refine store_rule hw (by kernel_rfl) rfl (by simp [Value.cells,putL_len]) fun w hw=>?_
 exact ⟨_,_,At.own (eqS hw) (by exact ⟨rfl,rfl,trivial⟩),rfl,hw.drop⟩
theorem role_spec (hw:Sat R Hs w):Gets Tryz.prog 16 #[.pointer (some ⟨p,0,none⟩)] w fun v w'=>v=.int .i64 e.role∧Sat R Hs w':=by
 apply call16
 exact NilP.mk rfl ⟨_,At.own (eqS hw) (by exact ⟨rfl,trivial⟩),rfl,hw⟩
end
section
variable {p:Nat} {e:Eln}
theorem ehard_spec (hw:Sat R (ElAt R p e::Hs) w):Gets Tryz.prog 23 #[.pointer (some ⟨p,0,none⟩)] w fun v w'=>v=.agg #[.int .i64 e.hd.tm,.int .i64 e.hd.vt]∧Sat R (ElAt R p e::Hs) w':=by
 obtain ⟨sv,sl,m,hg,hw⟩:=ElAt.iff.1 hw
 exact (hard_spec hw).mono fun _ _ h=>⟨h.1,ElAt.iff.2 ⟨sv,sl,m,hg,h.2⟩⟩
theorem erole_spec (hw:Sat R (ElAt R p e::Hs) w):Gets Tryz.prog 16 #[.pointer (some ⟨p,0,none⟩)] w fun v w'=>v=.int .i64 e.role∧Sat R (ElAt R p e::Hs) w':=by
 obtain ⟨sv,sl,m,hg,hw⟩:=ElAt.iff.1 hw
 exact (role_spec hw).mono fun _ _ h=>⟨h.1,ElAt.iff.2 ⟨sv,sl,m,hg,h.2⟩⟩
theorem rightN_spec {lo hi n:Int} (hw:Sat R Hs w):Gets Tryz.prog 82 #[.int .i64 n,.int .i64 lo,.int .i64 hi] w fun v w'=>v=.bool (rightN n lo hi)∧Sat R Hs w':=by
 apply call82
 unfold rightN
 refine Br.d (fun h=>⟨?_,hw⟩) (fun h=>⟨by rw [decide_eq_false (by omega)],hw⟩)
 congr 1
 rw [decide_eq_decide]
 omega
theorem join_spec {g:Gp} {tv tl:Sl} (hn:GpIn R g tv tl) (hw:Sat R (ElAt R p e::Hs) w):Gets Tryz.prog 90 #[.pointer (some ⟨p,0,none⟩),.agg #[.slice tv.a tv.len tv.cap,.slice tl.a tl.len tl.cap]] w fun v w'=>
  v=.int .i64 (if rightG g.vs g.ls then 0 else 1)∧Sat R (ElAt R p (e.join g)::Hs) w':=by
 obtain ⟨sv,sl,m,hg,hw⟩:=ElAt.iff.1 hw
 apply call90
 refine new_rule hw fun b w hw=>⟨tv,tl,At.own (eqS hw) (by exact ⟨rfl,rfl,trivial⟩),?_⟩
 refine (right_spec hw hn.v hn.l).use ?_
 clear hw
 rintro _ w ⟨rfl,hw⟩
 unfold Eln.join
 refine ⟨_,rfl,Br.nb (fun h=>?_) (fun h=>⟨tv,tl,At.own (eqS hw) (by exact ⟨rfl,rfl,trivial⟩),NilP.mk rfl ?_⟩)⟩
 ·rw [h];exact ⟨rfl,ElAt.iff.2 ⟨sv,sl,m,hg,hw.drop⟩⟩
 ·rw [h,if_pos rfl,if_pos rfl]
  have hw:=hw.swap
  refine store_rule hw (by kernel_rfl) rfl (by simp [Value.cells,putL_len]) fun w hw=>?_
  have hw:Sat R (pts p (eCells { e with g:=g } tv tl m)::pts b (.cells [.slice tv.a tv.len tv.cap,.slice tl.a tl.len tl.cap].toArray 32 (0,0))::SaidAt m e.yes e.no::Hs) w:=hw
  exact ⟨rfl,ElAt.iff.2 ⟨tv,tl,m,hn,hw.cons fun _ h=>h.drop⟩⟩
theorem alone_spec (role:Int) (hw:Sat R (ElAt R p e::Hs) w):Gets Tryz.prog 96 #[.pointer (some ⟨p,0,none⟩),.int .i64 role] w fun v w'=>
  v=.bool (e.alone role).wins∧Sat R (ElAt R p (e.alone role)::Hs) w':=by
 obtain ⟨sv,sl,m,hg,hw⟩:=ElAt.iff.1 hw
 apply call96
 refine new_rule hw fun m2 w hw=>?_
 have hw:=MapAt.new (α:=Bool) rfl hw
 refine NilP.mk rfl ⟨_,At.own (eqS hw) (by exact ⟨rfl,trivial⟩),new_rule hw fun b w hw=>?_⟩
 have hw:Sat R (MapAt m2 ([]:List (Bool × Value))::pts b (.cells [.int .i64 e.id].toArray 3 (0,0))::pts p (eCells e sv sl m)::SaidAt m e.yes e.no::Hs) w:=hw.arr
 refine MapAt.put mapS hw true _ fun w hw=>NilP.mk rfl ?_
 have hw:Sat R (MapAt m2 [(true,Value.slice (some ⟨b,0,none⟩) 1 1)]::pts b (.cells [.int .i64 e.id].toArray 3 (0,0))::pts p (eCells e sv sl m)::SaidAt m e.yes e.no::Hs) w:=hw
 have hw:Sat R (pts p (eCells e sv sl m)::MapAt m2 [(true,Value.slice (some ⟨b,0,none⟩) 1 1)]::pts b (.cells [.int .i64 e.id].toArray 3 (0,0))::SaidAt m e.yes e.no::Hs) w:=hw.arr
 refine store_rule hw (by kernel_rfl) rfl (by simp [Value.cells,putL_len]) fun w hw=>?_
 refine NilP.mk rfl ?_
 refine store_rule hw (by kernel_rfl) rfl (by simp [Value.cells,putL_len]) fun w hw=>?_
 have hw:Sat R (pts p (eCells (e.alone role) sv sl m2)::MapAt m2 [(true,Value.slice (some ⟨b,0,none⟩) 1 1)]::pts b (.cells [.int .i64 e.id].toArray 3 (0,0))::SaidAt m e.yes e.no::Hs) w:=hw
 have h0:Sat R (pts b (.cells [.int .i64 e.id].toArray 3 (0,0))::pts p (eCells (e.alone role) sv sl m2)::MapAt m2 [(true,Value.slice (some ⟨b,0,none⟩) 1 1)]::SaidAt m e.yes e.no::Hs) w:=hw.arr
 have hw:Sat R (Own ⟨some ⟨b,0,none⟩,1,1⟩ 3 (ints [e.id])::pts p (eCells (e.alone role) sv sl m2)::MapAt m2 [(true,Value.slice (some ⟨b,0,none⟩) 1 1)]::SaidAt m e.yes e.no::Hs) w:=own_lit h0
 clear h0
 refine drw_rule' (Sat R [MapAt m2 [(true,Value.slice (some ⟨b,0,none⟩) 1 1)],pts p (eCells (e.alone role) sv sl m2),VC.tru]) hw (fun w hw=>hw.k2) fun w hw=>NilP.mk rfl ⟨sv,sl,At.own selfS (by exact ⟨rfl,rfl,trivial⟩),NilP.mk rfl ⟨some m2,At.own selfS (by exact ⟨rfl,trivial⟩),⟨some ⟨b,0,none⟩,1,1⟩,fun w h=>MapAt.lookS h true rfl,?_⟩⟩
 obtain ⟨R2,hb,keep,hw,back⟩:=Own.lendI hw (by simp)
 refine (wins_spec hw (keep _ _ hg.v) (keep _ _ hg.l) hb).use ?_
 clear hw
 rintro _ w ⟨rfl,hw⟩
 have hw:=back hw
 refine ⟨_,rfl,hw.k2,rfl,ElAt.iff.2 ⟨sv,sl,m2,hg,?_⟩⟩
 have h2:Sat R (MapAt m2 [(true,Value.slice (some ⟨b,0,none⟩) 1 1)]::Own ⟨some ⟨b,0,none⟩,1,1⟩ 3 (ints [e.id])::pts p (eCells (e.alone role) sv sl m2)::SaidAt m e.yes e.no::Hs) w:=hw.arr
 have h3:Sat R (SaidAt m2 [e.id] []::pts p (eCells (e.alone role) sv sl m2)::SaidAt m e.yes e.no::Hs) w:=
  SaidAt.iff.2 ⟨_,⟨some ⟨b,0,none⟩,1,1⟩,⟨none,0,0⟩,⟨rfl,rfl⟩,h2.cons fun _ h=>h.cons fun _ h=>Own.nil h⟩
 exact h3.swap.cons fun _ h=>h.cons fun _ h=>h.drop
end
end Go.Proofs.YthpmfnffkjjlnaaGreat
/- Elections: runs, ticks, votes. Condition: bounds on numbers. -/
namespace Go.Proofs.YthpmfnffkjjlnaaGreat
set_option linter.unusedVariables false
set_option linter.unusedSimpArgs false
open Go Go.VC
variable {R R' R1:Cx} {Hs Rest Rest2:List HP} {w:World} {p:Nat} {e:Eln}
def BlQ (R:Cx) (Hs:List HP) (p:Nat) (r:List Bl × Eln) (v:Value) (w:World):Prop:=∃ t:Sl,v=.slice t.a t.len t.cap∧Sat R (BlO t r.1::ElAt R p r.2::Hs) w
theorem BlQ.nil {r:List Bl × Eln} (h:r=([],e)) (hw:Sat R (ElAt R p e::Hs) w):BlQ R Hs p r nilV w:=by subst h;exact ⟨⟨none,0,0⟩,rfl,OwnN.nil hw⟩
theorem eall_spec (ok:ElnOk e) (kd tm last lt:Int) (hw:Sat R (ElAt R p e::Hs) w):Gets Tryz.prog 98 #[.pointer (some ⟨p,0,none⟩),.int .i64 kd,.int .i64 tm,.int .i64 last,.int .i64 lt] w (BlQ R Hs p (e.all kd tm last lt,e)):=by
 obtain ⟨sv,sl,m,hg,hw⟩:=ElAt.iff.1 hw
 apply call98
 have h15:=rises_len15 (right_rises ok.g)
 have hsl:=hg.v.len
 refine NilP.mk rfl ⟨sv,At.own (eqS hw) (by exact ⟨rfl,trivial⟩),?_⟩
 refine ⟨fun out i w=>∃ k:Nat,i=k∧k≤e.g.vs.length∧Sat R (BlO out (((e.g.vs.take k).filter fun v=>v !=e.id).map fun v=>⟨kd,e.id,v,tm,last,lt,false⟩)::pts p (eCells e sv sl m)::SaidAt m e.yes e.no::Hs) w,fun _ i _=>e.g.vs.length - i.toNat,
  ⟨0,rfl,Nat.zero_le _,OwnN.nil hw⟩,?_⟩
 clear hw
 rintro _ out _ w ⟨k,rfl,hk,hw⟩
 refine Br.d (fun h=>?_) (fun h=>?_)
 ·have hk':k<e.g.vs.length:=by omega
  refine Ro.ix hg.v (eqS hw) k rfl hk' (NilP.mk rfl ⟨_,At.own (eqS hw) (by exact ⟨rfl,trivial⟩),?_⟩)
  rw [wrap64 (by omega) (by omega)]
  have es:=filter_snoc (fun v=>v !=e.id) hk'
  refine Br.ne (fun h2=>NilP.mk rfl ⟨_,At.own (eqS hw) (by exact ⟨rfl,trivial⟩),?_⟩) (fun h2=>⟨⟨k + 1,by omega,hk',?_⟩,by dsimp only;omega⟩)
  ·have hl:((e.g.vs.take k).filter fun v=>v !=e.id).length≤k:=Nat.le_trans (List.length_filter_le _ _) (by rw [List.length_take];omega)
   refine pushN_rule elBl hw rfl rfl (by rw [List.length_map,List.length_map];omega) (by rw [List.length_map,List.length_map];omega) fun s2 w hw=>?_
   refine ⟨⟨k + 1,by omega,hk',?_⟩,by dsimp only;omega⟩
   rw [es,if_pos (by simp [h2])]
   unfold BlO
   rw [List.map_append,List.map_append];exact hw
  ·rw [es,if_neg (by simp [h2]),List.append_nil];exact hw
 ·have:k=e.g.vs.length:=by omega
  subst this
  rw [List.take_length] at hw
  exact ⟨out,rfl,hw.cons fun _ h=>ElAt.iff.2 ⟨sv,sl,m,hg,h⟩⟩
theorem run_spec (ok:ElnOk e) (last lt:Int) (hw:Sat R (ElAt R p e::Hs) w):Gets Tryz.prog 97 #[.pointer (some ⟨p,0,none⟩),.int .i64 last,.int .i64 lt] w (BlQ R Hs p (e.run last lt)):=by
 obtain ⟨sv,sl,m,hg,hw⟩:=ElAt.iff.1 hw
 apply call97
 have h0:=ok.t0
 unfold Eln.run
 refine NilP.mk rfl ⟨_,At.own (eqS hw) (by exact ⟨rfl,trivial⟩),Br.d (fun h=>NilP.mk rfl ?_) (fun h=>?_)⟩
 ·refine store_rule hw (by kernel_rfl) rfl (by simp [Value.cells,putL_len]) fun w hw=>?_
  rw [if_pos h]
  exact .nil rfl (ElAt.iff.2 ⟨sv,sl,m,hg,hw⟩)
 rw [if_neg h]
 refine drw_rule hw fun w hw=>NilP.mk rfl ⟨_,At.own selfS (by exact ⟨rfl,trivial⟩),NilP.mk rfl ⟨_,At.own selfS (by exact ⟨rfl,trivial⟩),NilP.mk rfl ?_⟩⟩
 rw [wrap64 (by omega) (by omega)]
 refine store_rule hw (by kernel_rfl) rfl (by simp [Value.cells,putL_len]) fun w hw=>?_
 have hw:Sat R (ElAt R p { e with hd:=⟨e.hd.tm + 1,e.id⟩ }::Hs) w:=ElAt.iff.2 ⟨sv,sl,m,hg,hw⟩
 refine (alone_spec 2 hw).use ?_
 clear hw
 rintro _ w ⟨rfl,hw⟩
 obtain ⟨e1,he1⟩:∃ e1,e1=Eln.alone { e with hd:=⟨e.hd.tm + 1,e.id⟩ } 2:=⟨_,rfl⟩
 have ok1:ElnOk e1:=by
  have h3:ElnOk { e with hd:=⟨e.hd.tm + 1,e.id⟩ }:={ ok with t0:=by show 0≤e.hd.tm + 1;omega,t1:=by show e.hd.tm + 1≤_;omega,v0:=by show 0≤e.id;have:=ok.id0;omega,v1:=ok.id1 }
  rw [he1];exact h3.alone 2
 rw [←he1] at hw ⊢
 obtain ⟨sv,sl,m,hg,hw⟩:=ElAt.iff.1 hw
 refine ⟨_,rfl,Br.mk (fun h2=>NilP.mk rfl ⟨_,At.own (eqS hw) (by exact ⟨rfl,trivial⟩),NilP.mk rfl ?_⟩) (fun h2=>NilP.mk rfl ⟨_,At.own (eqS hw) (by exact ⟨rfl,trivial⟩),?_⟩)⟩
 ·refine store_rule hw (by kernel_rfl) rfl (by simp [Value.cells,putL_len]) fun w hw=>?_
  refine NilP.mk rfl ?_
  refine store_rule hw (by kernel_rfl) rfl (by simp [Value.cells,putL_len]) fun w hw=>?_
  rw [if_pos h2]
  exact .nil rfl (ElAt.iff.2 ⟨sv,sl,m,hg,hw⟩)
 ·rw [if_neg (by rw [h2];simp)]
  refine (eall_spec ok1 3 _ last lt (ElAt.iff.2 ⟨sv,sl,m,hg,hw⟩)).use ?_
  rintro _ w ⟨t,rfl,hw⟩
  exact ⟨t,rfl,t,rfl,hw⟩
theorem etick_spec (ok:ElnOk e) (hwt:e.wait<4611686018427387904) (draw last lt:Int) (hw:Sat R (ElAt R p e::Hs) w):Gets Tryz.prog 38 #[.pointer (some ⟨p,0,none⟩),.int .i64 draw,.int .i64 last,.int .i64 lt] w (BlQ R Hs p (e.tick draw last lt)):=by
 obtain ⟨sv,sl,m,hg,hw⟩:=ElAt.iff.1 hw
 apply call38
 have h0:=ok.w0
 have hp0:=ok.p0
 have hp1:=ok.p1
 have ht0:=ok.t0
 have ht1:=ok.t1
 have okh:ElnOk (e.hope draw):=by
  have h3:ElnOk { e with wait:=0,lim:=e.pat + (if 0>draw then 0 else draw).tmod e.pat,lead:=0 }:={ ok with w0:=Int.le_refl _ }
  exact h3.alone 1
 unfold Eln.tick
 refine NilP.mk rfl ⟨_,At.own (eqS hw) (by exact ⟨rfl,trivial⟩),Br.e (fun h=>?_) (fun h=>?_)⟩
 ·rw [if_pos (by simp [h])]
  exact .nil rfl (ElAt.iff.2 ⟨sv,sl,m,hg,hw⟩)
 rw [if_neg (by simp [h])]
 refine NilP.mk rfl ⟨_,At.own (eqS hw) (by exact ⟨rfl,trivial⟩),NilP.mk rfl ?_⟩
 rw [wrap64 (by omega) (by omega)]
 refine store_rule hw (by kernel_rfl) rfl (by simp [Value.cells,putL_len]) fun w hw=>?_
 have hw:Sat R (pts p (eCells { e with wait:=e.wait + 1 } sv sl m)::SaidAt m e.yes e.no::Hs) w:=hw
 refine ⟨fun w=>¬ (e.wait + 1<e.lim∨hasL e.g.vs e.id=false)∧Sat R (pts p (eCells { e with wait:=e.wait + 1 } sv sl m)::SaidAt m e.yes e.no::Hs) w,?_,?_⟩
 ·refine drw_rule hw fun w hw=>NilP.mk rfl ⟨_,At.own selfS (by exact ⟨rfl,trivial⟩),NilP.mk rfl ⟨_,At.own selfS (by exact ⟨rfl,trivial⟩),?_⟩⟩
  have out:∀ {w},(e.wait + 1<e.lim∨hasL e.g.vs e.id=false)→Sat R (pts p (eCells { e with wait:=e.wait + 1 } sv sl m)::SaidAt m e.yes e.no::Hs) w→BlQ R Hs p (if e.wait + 1<e.lim∨hasL e.g.vs e.id=false then ([],{ e with wait:=e.wait + 1 }) else if (e.hope draw).wins then (e.hope draw).run last lt else ((e.hope draw).all 1 (e.hd.tm + 1) last lt,e.hope draw)) nilV w:=fun h hw=>by
   rw [if_pos h];exact .nil rfl (ElAt.iff.2 ⟨sv,sl,m,hg,hw⟩)
  refine Br.d (fun h=>out (.inl h) hw) (fun h=>NilP.mk rfl ⟨sv,At.own selfS (by exact ⟨rfl,trivial⟩),NilP.mk rfl ⟨_,At.own selfS (by exact ⟨rfl,trivial⟩),?_⟩⟩)
  refine (contains_spec _ hw hg.v).use ?_
  clear hw
  rintro _ w ⟨rfl,hw⟩
  refine ⟨_,rfl,hw,Br.nb (fun h2=>out (.inr h2) hw) (fun h2=>⟨?_,hw⟩)⟩
  rintro (h3|h3)
  ·exact h h3
  ·rw [h2] at h3;cases h3
 clear hw
 rintro _ w ⟨hc,hw⟩
 show Drw w _
 dsimp only
 rw [if_neg hc]
 refine drw_rule hw fun w hw=>NilP.mk rfl ⟨e.pat,At.own selfS (by exact ⟨rfl,trivial⟩),NilP.mk rfl ⟨e.pat,At.own selfS (by exact ⟨rfl,trivial⟩),Nz.mk (by omega) (NilP.mk rfl ?_)⟩⟩
 refine store_rule hw (by kernel_rfl) rfl (by simp [Value.cells,putL_len]) fun w hw=>?_
 refine NilP.mk rfl ?_
 have hm:0≤(if 0>draw then 0 else draw).tmod e.pat∧(if 0>draw then 0 else draw).tmod e.pat<e.pat:=by
  refine ⟨Int.tmod_nonneg _ (by split<;>omega),?_⟩
  exact Int.tmod_lt_of_pos _ (by omega)
 rw [wrap64 (x:=e.pat + _) (by omega) (by omega)]
 refine store_rule hw (by kernel_rfl) rfl (by simp [Value.cells,putL_len]) fun w hw=>?_
 refine NilP.mk rfl ?_
 refine store_rule hw (by kernel_rfl) rfl (by simp [Value.cells,putL_len]) fun w hw=>?_
 have hw:Sat R (ElAt R p { e with wait:=0,lim:=e.pat + (if 0>draw then 0 else draw).tmod e.pat,lead:=0 }::Hs) w:=ElAt.iff.2 ⟨sv,sl,m,hg,hw⟩
 refine (alone_spec 1 hw).use ?_
 clear hw
 rintro _ w ⟨rfl,hw⟩
 have hw:Sat R (ElAt R p (e.hope draw)::Hs) w:=hw
 refine ⟨_,rfl,Br.mk (fun h2=>?_) (fun h2=>?_)⟩
 ·rw [if_pos (show (e.hope draw).wins=true from h2)]
  refine (run_spec okh last lt hw).use ?_
  rintro _ w ⟨t,rfl,hw⟩
  exact ⟨t,rfl,t,rfl,hw⟩
 ·rw [if_neg (by rw [show (e.hope draw).wins=false from h2];simp)]
  obtain ⟨sv,sl,m,hg,hw⟩:=ElAt.iff.1 hw
  refine NilP.mk rfl ⟨e.hd.tm,At.own (eqS hw) (by exact ⟨rfl,trivial⟩),?_⟩
  rw [wrap64 (by omega) (by omega)]
  refine (eall_spec okh 1 _ last lt (ElAt.iff.2 ⟨sv,sl,m,hg,hw⟩)).use ?_
  rintro _ w ⟨t,rfl,hw⟩
  exact ⟨t,rfl,t,rfl,hw⟩
theorem enew_spec {sv sl:Sl} {h:Hd} {g:Gp} (id pat:Int) (hn:GpIn R g sv sl) (hw:Sat R Hs w):
  Gets Tryz.prog 32 #[.int .i64 id,.agg #[.int .i64 h.tm,.int .i64 h.vt],.agg #[.slice sv.a sv.len sv.cap,.slice sl.a sl.len sl.cap],.int .i64 pat] w fun v w'=>
   (elOk id h g pat=true∧∃ p,v=.tuple #[.pointer (some ⟨p,0,none⟩),.int .i64 0]∧Sat R (ElAt R p (Eln.new id h g pat)::Hs) w')∨(elOk id h g pat=false∧v=.tuple #[.pointer none,.int .i64 1]∧Sat R Hs w'):=by
 apply call32
 unfold elOk
 refine new_rule hw fun b1 w hw=>new_rule hw fun b2 w hw=>?_
 refine (rightN_spec hw).use ?_
 clear hw
 rintro _ w ⟨rfl,hw⟩
 refine ⟨_,rfl,Br.nb (fun h1=>.inr ⟨by rw [h1];rfl,rfl,hw.drop.drop⟩) (fun h1=>⟨_,At.own (eqS hw) (by exact ⟨rfl,trivial⟩),?_⟩)⟩
 refine (rightN_spec hw).use ?_
 clear hw
 rintro _ w ⟨rfl,hw⟩
 refine ⟨_,rfl,Br.nb (fun h2=>.inr ⟨by rw [h1,h2];rfl,rfl,hw.drop.drop⟩) (fun h2=>⟨_,At.own (eqS hw) (by exact ⟨rfl,trivial⟩),?_⟩)⟩
 refine (rightN_spec hw).use ?_
 clear hw
 rintro _ w ⟨rfl,hw⟩
 refine ⟨_,rfl,Br.nb (fun h3=>.inr ⟨by rw [h1,h2,h3];rfl,rfl,hw.drop.drop⟩) (fun h3=>?_)⟩
 refine (rightN_spec hw).use ?_
 clear hw
 rintro _ w ⟨rfl,hw⟩
 refine ⟨_,rfl,Br.nb (fun h4=>.inr ⟨by rw [h1,h2,h3,h4];rfl,rfl,hw.drop.drop⟩) (fun h4=>⟨sv,sl,At.own (eqS hw) (by exact ⟨rfl,rfl,trivial⟩),?_⟩)⟩
 refine (right_spec hw hn.v hn.l).use ?_
 clear hw
 rintro _ w ⟨rfl,hw⟩
 refine ⟨_,rfl,Br.nb (fun h5=>.inr ⟨by rw [h1,h2,h3,h4,h5];rfl,rfl,hw.drop.drop⟩) (fun h5=>⟨_,_,At.own (eqS hw) (by exact ⟨rfl,rfl,trivial⟩),sv,sl,At.own (eqS hw) (by exact ⟨rfl,rfl,trivial⟩),?_⟩)⟩
 refine new_rule hw fun m w hw=>new_rule hw fun p w hw=>.inl ⟨by rw [h1,h2,h3,h4,h5];rfl,p,rfl,ElAt.iff.2 ⟨sv,sl,m,hn,hw.cons fun _ h=>?_⟩⟩
 exact SaidAt.iff.2 ⟨[],⟨none,0,0⟩,⟨none,0,0⟩,⟨rfl,rfl⟩,Sat.cons (fun _ h=>Own.nil (Own.nil h.drop.drop)) (MapAt.new (α:=Bool) rfl h)⟩
end Go.Proofs.YthpmfnffkjjlnaaGreat
/- A node's log in memory: New, Add, Commit, Apply. Condition: bounds on lengths. -/
namespace Go.Proofs.YthpmfnffkjjlnaaGreat
set_option linter.unusedVariables false
set_option linter.unusedSimpArgs false
open Go Go.VC
open Go.Rf (Ey Lg LgOk)
variable {R R' R1:Cx} {Hs Rest Rest2:List HP} {w:World}
theorem appendEE {s t:Sl} {ds es:List DE4} {K:Sl→World→Prop} (hw:Sat R (EntO s ds::EntO t es::Hs) w) (hl:ds.length + es.length≤1099511627777)
  (k:∀ s' w',Sat R (EntO s' (ds++es)::EntO t es::Hs) w'→K s' w'):
  ∃ w',∃ u:Sl,(Builtin.append_ #[ 46,46 ] 46 #[.slice s.a s.len s.cap,.slice t.a t.len t.cap]).run Tryz.prog w=.ok (.slice u.a u.len u.cap) w'∧K u w':=by
 obtain ⟨R',ht,_,hw2,back⟩:=OwnN.lend hw.swap
 refine appendN_rule elE hw2 (srcRoN elE.hk hw2 ht (one_eRows es)) (wid_eRows es) (by rw [List.length_map,List.length_map];omega) (by rw [List.length_map,List.length_map];omega) fun s' w' h=>k s' w' ?_
 have h:=(back h).swap
 rwa [←List.map_append] at h
theorem lnew_spec (i t:Int) (hw:Sat R Hs w):Gets Tryz.prog 33 #[.int .i64 i,.int .i64 t] w fun v w'=>
  ((Rf.inIx i && Rf.inIx t)=true∧∃ p,v=.tuple #[.pointer (some ⟨p,0,none⟩),.int .i64 0]∧Sat R (LgAt R p (Lg.new i t)::Hs) w')∨((Rf.inIx i && Rf.inIx t)=false∧v=.tuple #[.pointer none,.int .i64 1]∧Sat R Hs w'):=by
 apply call33
 refine (within_spec hw).use ?_
 clear hw
 rintro _ w ⟨rfl,hw⟩
 refine ⟨_,rfl,Br.nb (fun h=>.inr ⟨by rw [h];rfl,rfl,hw⟩) (fun h=>?_)⟩
 refine (within_spec hw).use ?_
 clear hw
 rintro _ w ⟨rfl,hw⟩
 refine ⟨_,rfl,Br.nb (fun h2=>.inr ⟨by rw [h,h2];rfl,rfl,hw⟩) (fun h2=>new_rule hw fun b w hw=>new_rule hw fun p w hw=>.inl ⟨by rw [h,h2];rfl,?_⟩)⟩
 refine ⟨p,rfl,LgAt.iff.2 ⟨⟨some ⟨b,0,none⟩,1,1⟩,[(⟨none,0,0⟩,⟨i,t,0,[]⟩)],⟨rfl,.one ⟨rfl,Nat.le_refl _,fun h=>absurd rfl h⟩⟩,?_⟩⟩
 refine hw.cons fun _ h=>?_
 exact OwnN.of_pts (n:=4) (cap:=1) (rest:=[]) (rows:=[eRow (⟨none,0,0⟩,⟨i,t,0,[]⟩)]) (Wid.one rfl) rfl h
theorem ladd_spec {A:HP} {p:Nat} {g:Lg} {s':Sl} {es:List DE4} (ok:LgOk g) (hr:Rdg R A 4 s' (es.map eRow)) (hd:DsR R es) (hl:es.length≤1099511627777) (hw:Sat R (LgAt R p g::A::Hs) w):
  Gets Tryz.prog 34 #[.pointer (some ⟨p,0,none⟩),.slice s'.a s'.len s'.cap] w fun v w'=>∃ R',R.Ext R'∧v=.int .i64 (g.add (erE es)).1∧Sat R' (LgAt R' p (g.add (erE es)).2::A::Hs) w':=by
 obtain ⟨s,ds,hi,hw⟩:=LgAt.iff.1 hw
 have hw:Sat R (A::pts p (lgCells s g.com g.app)::EntO s ds::Hs) w:=hw.arr
 apply call34
 refine (anyOdd_spec hr hl hd hw).use ?_
 clear hw
 rintro _ w ⟨rfl,hw⟩
 have out:∀ {w},(g.add (erE es)).2=g→Sat R (A::pts p (lgCells s g.com g.app)::EntO s ds::Hs) w→Sat R (LgAt R p (g.add (erE es)).2::A::Hs) w:=fun h hw=>by
  rw [h];exact LgAt.iff.2 ⟨s,ds,hi,hw.arr⟩
 refine ⟨_,rfl,Br.mk (fun h=>?_) (fun h=>?_)⟩
 ·have e:g.add (erE es)=(1,g):=by unfold Lg.add;rw [if_pos h]
  exact ⟨R,.refl,by rw [e],out (by rw [e]) hw⟩
 have hod:∀ e∈es,Rf.oddE e.2=false:=fun e he=>by
  have:=List.any_eq_false.1 h e.2 (List.mem_map_of_mem he)
  simpa using this
 refine (last_spec hi ok hw).use ?_
 clear hw
 rintro _ w ⟨rfl,hw⟩
 refine ⟨_,rfl,?_⟩
 have hw:Sat R (pts p (lgCells s g.com g.app)::EntO s ds::A::Hs) w:=hw.arr
 refine (tail_spec hi ok hw).use ?_
 clear hw
 rintro _ w ⟨t,rfl,hw⟩
 have hw:Sat R (A::pts p (lgCells s g.com g.app)::EntO s ds::Hs) w:=hw.arr
 refine ⟨_,_,_,t,rfl,?_⟩
 refine (follow_spec hr hl hod _ _ hw).use ?_
 clear hw
 rintro _ w ⟨rfl,hw⟩
 refine ⟨_,rfl,Br.nb (fun h2=>?_) (fun h2=>?_)⟩
 ·have e:g.add (erE es)=(7,g):=by unfold Lg.add;rw [if_neg (by rw [h];simp),if_neg (by rw [h2];simp)]
  exact ⟨R,.refl,by rw [e],out (by rw [e]) hw⟩
 have e:g.add (erE es)=(0,{ g with l:=g.l++erE es }):=by unfold Lg.add;rw [if_neg (by rw [h];simp),if_pos h2]
 have ok2:=ok.add (erE es)
 rw [e] at ok2 ⊢
 refine drw_rule' (Sat R [pts p (lgCells s g.com g.app),VC.tru]) hw (fun w hw=>hw.k1) fun w hw=>NilP.mk rfl ⟨s,At.own selfS (by exact ⟨rfl,trivial⟩),?_⟩
 refine (copied_spec hr hd hl (fun x hx=>by have:=Rf.oddE_no (hod x hx);omega) hw).use ?_
 clear hw
 rintro _ w ⟨R2,t2,ds2,e2,hd2,he2,rfl,hw⟩
 refine ⟨t2,rfl,(e2.back hw).k1,?_⟩
 have hw:Sat R2 (EntO s ds::EntO t2 ds2::A::pts p (lgCells s g.com g.app)::Hs) w:=hw.arr
 have hl2:ds2.length=es.length:=by have:=congrArg List.length he2;simpa using this
 have hll:=ok2.len
 simp only [List.length_append,List.length_map] at hll
 refine appendEE hw (by have:=hi.len;omega) fun s3 w hw=>NilP.mk rfl ?_
 have hw:Sat R2 (pts p (lgCells s g.com g.app)::EntO s3 (ds++ds2)::A::Hs) w:=by
  have h:Sat R2 (EntO t2 ds2::pts p (lgCells s g.com g.app)::EntO s3 (ds++ds2)::A::Hs) w:=hw.arr
  exact h.drop
 refine store_rule hw (by kernel_rfl) rfl (by simp [Value.cells,putL_len]) fun w hw=>?_
 refine ⟨R2,e2,rfl,LgAt.iff.2 ⟨s3,ds++ds2,⟨?_,(hi.d.ext e2).app hd2⟩,hw⟩⟩
 simp only [erE,List.map_append] at he2 ⊢
 rw [he2,show ds.map (·.2)=g.all from hi.e];rfl
theorem move_spec {b o:Nat} {i lo hi:Int} {l:List Value} {T:TypeId} (ho:o<l.length) (hw:Sat R (pts b (.cells l.toArray T (0,0))::Hs) w):Gets Tryz.prog 209 #[.pointer (some ⟨b,o,none⟩),.int .i64 i,.int .i64 lo,.int .i64 hi] w fun v w'=>
  (v=.int .i64 (if i<lo∨i>hi then 7 else 0)∧Sat R (pts b (.cells (if i<lo∨i>hi then l else l.set o (.int .i64 i)).toArray T (0,0))::Hs) w'):=by
 apply call209
 refine Br.d (fun h=>by rw [if_pos (.inl h),if_pos (.inl h)];exact ⟨rfl,hw⟩) (fun h=>Br.d (fun h2=>by rw [if_pos (.inr h2),if_pos (.inr h2)];exact ⟨rfl,hw⟩) (fun h2=>NilP.mk rfl ?_))
 rw [if_neg (by omega),if_neg (by omega)]
 refine store_rule hw (by kernel_rfl) rfl (by simp [Value.cells];omega) fun w hw=>⟨rfl,hw⟩
theorem lcommit_spec {p:Nat} {g:Lg} (ok:LgOk g) (i:Int) (hw:Sat R (LgAt R1 p g::Hs) w):Gets Tryz.prog 161 #[.pointer (some ⟨p,0,none⟩),.int .i64 i] w fun v w'=>v=.int .i64 (g.commit i).1∧Sat R (LgAt R1 p (g.commit i).2::Hs) w':=by
 obtain ⟨s,ds,hi,hw⟩:=LgAt.iff.1 hw
 apply call161
 refine drw_rule hw fun w hw=>NilP.mk rfl (NilP.mk rfl ⟨_,At.own selfS (by exact ⟨rfl,trivial⟩),?_⟩)
 refine (last_spec hi ok hw).use ?_
 clear hw
 rintro _ w ⟨rfl,hw⟩
 refine ⟨_,rfl,hw,?_⟩
 refine (move_spec (by simp) hw).use ?_
 clear hw
 rintro _ w ⟨rfl,hw⟩
 refine ⟨_,rfl,?_⟩
 unfold Lg.commit
 by_cases h:i<g.com∨i>g.last
 ·rw [if_pos h] at hw
  rw [if_pos h,if_pos h]
  exact ⟨rfl,LgAt.iff.2 ⟨s,ds,hi,hw⟩⟩
 ·rw [if_neg h] at hw
  rw [if_neg h,if_neg h]
  exact ⟨rfl,LgAt.iff.2 ⟨s,ds,⟨hi.e,hi.d⟩,hw⟩⟩
section
variable {p:Nat} {g:Lg}
theorem llast_spec (ok:LgOk g) (hw:Sat R (LgAt R1 p g::Hs) w):Gets Tryz.prog 39 #[.pointer (some ⟨p,0,none⟩)] w fun v w'=>v=.int .i64 g.last∧Sat R (LgAt R1 p g::Hs) w':=by
 obtain ⟨s,ds,hi,hw⟩:=LgAt.iff.1 hw
 exact (last_spec hi ok hw).mono fun _ _ h=>⟨h.1,LgAt.iff.2 ⟨s,ds,hi,h.2⟩⟩
theorem lfirst_spec (ok:LgOk g) (hw:Sat R (LgAt R1 p g::Hs) w):Gets Tryz.prog 157 #[.pointer (some ⟨p,0,none⟩)] w fun v w'=>v=.int .i64 (g.b.ix + 1)∧Sat R (LgAt R1 p g::Hs) w':=by
 obtain ⟨s,ds,hi,hw⟩:=LgAt.iff.1 hw
 exact (first_spec hi ok hw).mono fun _ _ h=>⟨h.1,LgAt.iff.2 ⟨s,ds,hi,h.2⟩⟩
theorem lterm_spec (ok:LgOk g) (i:Int) (hw:Sat R (LgAt R1 p g::Hs) w):Gets Tryz.prog 100 #[.pointer (some ⟨p,0,none⟩),.int .i64 i] w fun v w'=>v=.tuple #[.int .i64 (g.term i).1,.bool (g.term i).2]∧Sat R (LgAt R1 p g::Hs) w':=by
 obtain ⟨s,ds,hi,hw⟩:=LgAt.iff.1 hw
 exact (term_spec hi ok i hw).mono fun _ _ h=>⟨h.1,LgAt.iff.2 ⟨s,ds,hi,h.2⟩⟩
theorem lcommitted_spec (hw:Sat R (LgAt R1 p g::Hs) w):Gets Tryz.prog 50 #[.pointer (some ⟨p,0,none⟩)] w fun v w'=>v=.int .i64 g.com∧Sat R (LgAt R1 p g::Hs) w':=by
 obtain ⟨s,ds,hi,hw⟩:=LgAt.iff.1 hw
 apply call50
 exact NilP.mk rfl ⟨_,At.own (eqS hw) (by exact ⟨rfl,trivial⟩),rfl,LgAt.iff.2 ⟨s,ds,hi,hw⟩⟩
theorem lget_spec (ok:LgOk g) (i most:Int) (hw:Sat R (LgAt R p g::Hs) w):Gets Tryz.prog 53 #[.pointer (some ⟨p,0,none⟩),.int .i64 i,.int .i64 most] w fun v w'=>
  ∃ R' t ds',R.Ext R'∧DsR R' ds'∧erE ds'=g.get i most∧v=.slice t.a t.len t.cap∧Sat R' (EntO t ds'::LgAt R' p g::Hs) w':=by
 obtain ⟨s,ds,hi,hw⟩:=LgAt.iff.1 hw
 refine (get_spec hi ok i most hw).mono ?_
 rintro _ w ⟨R2,t,ds2,e2,hd2,he2,rfl,hw⟩
 exact ⟨R2,t,ds2,e2,hd2,he2,rfl,hw.cons fun _ h=>LgAt.iff.2 ⟨s,ds,hi.ext (e2.trans (by exact ⟨fun _ _ h=>h,⟨rfl,rfl,rfl⟩⟩)),h⟩⟩
end
end Go.Proofs.YthpmfnffkjjlnaaGreat
/- A node of a group that keeps one log, plain: what it does. No condition. -/
namespace Go.Proofs.YthpmfnffkjjlnaaGreat
set_option linter.unusedVariables false
set_option linter.unusedSimpArgs false
open Go Go.VC
open Go.Rf (Ey Lg LgOk)
structure Sn where
 ix:Int
 tm:Int
 g:Gp
 dt:List Int
def sn0:Sn:=⟨0,0,⟨[],[]⟩,[]⟩
structure Pe where
 st:Int
 mt:Int
 nx:Int
 wn:Int
 wt:Bool
 fl:List Int
 sn:Int
structure Rq where
 tok:Int
 ix:Int
 rnd:Int
 bh:List Int
structure Mg where
 kd:Int:=0
 fr:Int:=0
 to':Int:=0
 tm:Int:=0
 ix:Int:=0
 lt:Int:=0
 yes:Bool:=false
 com:Int:=0
 hint:Int:=0
 rnd:Int:=0
 es:List Ey:=[]
 sn:Sn:=sn0
structure Rn where
 e:Eln
 id:Int
 win:Int
 log:Lg
 sn:Sn
 g:Gp
 ps:Option (List (Int × Pe))
 rs:List Rq
 rnd:Int
 told:Hd
 rsn:Bool
 rfr:Int
 rms:List Mg
 rrd:List (Int × Int)
def Pe.new (nx wn:Int):Pe:=⟨0,0,nx,wn,false,[],0⟩
def Pe.may (x:Pe):Bool:=if x.st==0 then !x.wt else if x.st==1 then decide ((x.fl.length:Int)<x.wn) else false
def Pe.probe (x:Pe) (i:Int):Pe:={ x with st:=0,nx:=i,wt:=false,fl:=[] }
def Pe.sent (x:Pe) (last:Int):Pe:=
 if !x.may||decide (last<x.nx - 1)||decide (last>1099511627775) then x
 else if x.st==0 then { x with wt:=true } else if last ≥ x.nx then { x with nx:=last + 1,fl:=x.fl++[last] } else x
def Pe.install (x:Pe) (i:Int):Pe:=if i<0∨i>1099511627775 then x else { x with st:=2,sn:=i,wt:=false,fl:=[] }
def Pe.beat (x:Pe):Pe:=if x.st==0 then { x with wt:=false } else if x.st==1 && decide ((x.fl.length:Int) ≥ x.wn) then { x with fl:=x.fl.drop 1 } else x
def Pe.over (x:Pe) (ok:Bool):Pe:=if x.st !=2 then x else x.probe (if ok then max (x.mt + 1) (x.sn + 1) else x.mt + 1)
def rightSn (s:Sn):Bool:=rightN s.ix 0 1099511627776 && rightN s.tm 0 1099511627776 && rightG s.g.vs s.g.ls && decide (s.dt.length≤60000)
def rd2 (b:List Int):Int × Int × Bool:=((rdNum 1099511627776 ⟨b,false⟩).1,(rdNum 1099511627776 (rdNum 1099511627776 ⟨b,false⟩).2).1,rdWhole (rdNum 1099511627776 (rdNum 1099511627776 ⟨b,false⟩).2).2)
def changedG (g:Gp) (x:Ey):Gp:=
 if x.kd !=2 then g else if !(rd2 x.dt).2.2 then g
 else if (chG g.vs g.ls (rd2 x.dt).1 (rd2 x.dt).2.1).2.2==0 then ⟨(chG g.vs g.ls (rd2 x.dt).1 (rd2 x.dt).2.1).1,(chG g.vs g.ls (rd2 x.dt).1 (rd2 x.dt).2.1).2.1⟩ else g
def stepG (i:Int) (g:Gp) (x:Ey):Gp:=if x.ix>i then changedG g x else g
def Rn.foldG (n:Rn) (m:Int):Gp:=(n.log.get (n.log.b.ix + 1) m).foldl (stepG n.sn.ix) n.sn.g
def Rn.peer (n:Rn) (p:Int):Option Pe:=getM p (n.ps.getD [])
def Rn.peerN (n:Rn) (p:Int):Pe:=(n.peer p).getD (Pe.new (min (n.log.last + 1) 1099511627776) n.win)
def Rn.addP (n:Rn) (acc:List (Int × Pe)) (p:Int):List (Int × Pe):=if p==n.id then acc else putM p (n.peerN p) acc
def Rn.newPs (n:Rn) (g:Gp):List (Int × Pe):=(g.vs++g.ls).foldl n.addP []
def Rn.regroup (n:Rn):Rn:=
 let g:=n.foldG n.log.l.length
 { n with g:=g,e:=n.e.join g,ps:=if n.e.role==3 then some (n.newPs g) else none }
def Rn.put (n:Rn) (m:Mg):Rn:={ n with rms:=n.rms++[{ m with fr:=n.id,tm:=n.e.hd.tm }] }
def Rn.mem (n:Rn):List Int:=sortL ((n.ps.getD []).map (·.1))
def Rn.fresh (n:Rn) (i:Int):Rn:=Rn.regroup { n with rfr:=if n.rfr==0||decide (i<n.rfr) then i else n.rfr }
def Rn.enter (n:Rn) (kd:Int) (dt:List Int):(Int × Int) × Rn:=
 let i:=n.log.last + 1
 let r:=n.log.add [⟨i,n.e.hd.tm,kd,dt⟩]
 if r.1 !=0 then ((0,r.1),n) else ((i,0),Rn.fresh { n with log:=r.2 } i)
def Rn.setP (n:Rn) (p:Int) (x:Pe):Rn:={ n with ps:=n.ps.map (setM p x) }
def Rn.beat (n:Rn) (p:Int):Rn:=n.put { kd:=7,to':=p,com:=min ((n.peer p).getD (Pe.new 0 0)).mt n.log.com,rnd:=n.rnd }
def Rn.beats (n:Rn):Rn:=n.mem.foldl Rn.beat n
def Rn.ats (n:Rn):List Int:=(List.range 16).map fun (k:Nat)=>match n.peer (k:Int) with|some x=>x.mt|none=>if (k:Int)==n.id then n.log.last else 0
def Rn.advance (n:Rn):Rn:=
 let i:=midL n.g.vs n.g.ls n.ats
 let t:=n.log.term i
 if !t.2||t.1 !=n.e.hd.tm||decide (i≤n.log.com) then n else Rn.beats { n with log:=(n.log.commit i).2 }
def Rn.sendF (p:Int):Nat→Rn→Rn
 |0,n=>n
 |k + 1,n=>match n.peer p with
  |none=>n
  |some x=>if x.may && decide (x.nx≤n.log.last + 1) then
    (let i:=x.nx - 1
    let t:=n.log.term i
    if !t.2 then (n.put { kd:=9,to':=p,ix:=n.sn.ix,lt:=n.sn.tm,sn:=n.sn }).setP p (x.install n.sn.ix)
    else
     let l:=n.log.get (i + 1) 8
     if x.st==1 && l.isEmpty then n
     else
      let n1:=(n.put { kd:=5,to':=p,ix:=i,lt:=t.1,com:=n.log.com,es:=l }).setP p (x.sent (i + l.length))
      if x.st==1 then Rn.sendF p k n1 else n1)
   else n
def Rn.send (n:Rn) (p:Int):Rn:=Rn.sendF p 66 n
def Rn.all (n:Rn):Rn:=n.mem.foldl Rn.send n
def blMg (b:Bl):Mg:={ kd:=b.kd,fr:=b.fr,to':=b.to',tm:=b.tm,ix:=b.ix,lt:=b.lt,yes:=b.yes }
def Rn.voted (n:Rn) (led:Bool) (l:List Bl):Rn:=
 let n:={ n with rms:=n.rms++l.map blMg }
 if n.e.role !=3 then { n with ps:=none,rs:=[] }
 else if !led then (Rn.enter (Rn.regroup { n with ps:=none,rs:=[],rnd:=0 }) 0 []).2.advance.all
 else n
def Rn.tick (n:Rn) (draw:Int):Rn:=
 if n.e.role !=3 then
  let r:=n.e.tick draw n.log.last (n.log.term n.log.last).1
  Rn.voted { n with e:=r.2 } false r.1
 else n.mem.foldl (fun n p=>
  let x:=((n.peer p).getD (Pe.new 0 0)).beat
  ((n.setP p (if x.st==2 then x.over false else x)).beat p).send p) n
def Rn.own (n:Rn):Bool:=(n.log.term n.log.com).2 && (n.log.term n.log.com).1==n.e.hd.tm && n.e.role==3
def Rn.lead (n:Rn) (kd:Int) (dt:List Int):(Int × Int) × Rn:=
 let r:=n.enter kd dt
 if r.1.2 !=0 then ((0,r.1.2),r.2) else (r.1,r.2.advance.all)
def Rn.propose (n:Rn) (dt:List Int):(Int × Int) × Rn:=
 if n.e.role !=3 then ((0,7),n) else if (dt.length:Int)>4096 then ((0,1),n) else n.lead 1 dt
def Rn.read (n:Rn) (tok:Int):Int × Rn:=
 if !n.own||decide ((n.rs.length:Int) ≥ 64) then (7,n)
 else if winsG n.g.vs n.g.ls [n.id] then (0,{ n with rrd:=n.rrd++[(tok,n.log.com)] })
 else (0,Rn.beats { n with rnd:=n.rnd + 1,rs:=n.rs++[⟨tok,n.log.com,n.rnd + 1,[n.id]⟩] })
structure Rdy where
 hn:Bool
 hd:Hd
 sn':Bool
 sn:Sn
 fr:Int
 ms:List Mg
 rd:List (Int × Int)
def Rn.out (n:Rn):Rdy × Rn:=
 let new:=n.e.hd.tm !=n.told.tm||n.e.hd.vt !=n.told.vt
 (⟨new,if new then n.e.hd else ⟨0,0⟩,n.rsn,if n.rsn then n.sn else sn0,n.rfr,n.rms,n.rrd⟩,
  { n with told:=if new then n.e.hd else n.told,rsn:=false,rfr:=0,rms:=[],rrd:=[] })
def rnNew (id:Int) (h:Hd) (s:Sn) (l:List Ey) (pat win:Int):Int × Option Rn:=
 if !rightSn s||decide (win<1)||decide (win>64) then (1,none)
 else if !elOk id h s.g pat then (1,none)
 else
  let r:=(Lg.new s.ix s.tm).add l
  if r.1 !=0 then (r.1,none)
  else (0,some (Rn.regroup ⟨Eln.new id h s.g pat,id,win,r.2,s,⟨[],[]⟩,none,[],0,h,false,0,[],[]⟩))
end Go.Proofs.YthpmfnffkjjlnaaGreat
/- A node of a group in memory: its parts. Condition: none. -/
namespace Go.Proofs.YthpmfnffkjjlnaaGreat
set_option linter.unusedVariables false
set_option linter.unusedSimpArgs false
open Go Go.VC
open Go.Rf (Ey Lg LgOk)
variable {R R' R1 R2:Cx} {Hs Rest Rest2:List HP} {w:World}
abbrev peCells (x:Pe) (s:Sl):Obj:=.cells [.int .i64 x.st,.int .i64 x.mt,.int .i64 x.nx,.int .i64 x.wn,.bool x.wt,.slice s.a s.len s.cap,.int .i64 x.sn].toArray 172 (0,0)
def FlAt (s:Sl) (xs:List Int):HP:=fun h=>Own s 3 (ints xs) h∨(Reads s (ints xs) h∧s.cap=s.len)
theorem FlAt.own {s:Sl} {xs:List Int} (hw:Sat R (Own s 3 (ints xs)::Hs) w):Sat R (FlAt s xs::Hs) w:=by
 obtain ⟨h,hh,hd,hw⟩:=hw
 exact ⟨h,.inl hh,hd,hw⟩
theorem FlAt.cases {s:Sl} {xs:List Int} (hw:Sat R (FlAt s xs::Hs) w):Sat R (Own s 3 (ints xs)::Hs) w∨(Sat R (Reads s (ints xs)::Hs) w∧s.cap=s.len):=by
 obtain ⟨h,hh|⟨hh,hc⟩,hd,hw⟩:=hw
 ·exact .inl ⟨h,hh,hd,hw⟩
 ·exact .inr ⟨⟨h,hh,hd,hw⟩,hc⟩
theorem FlAt.reads {s:Sl} {xs:List Int} (hw:Sat R (FlAt s xs::Hs) w):Sat R (Reads s (ints xs)::Hs) w:=by
 rcases FlAt.cases hw with h|h
 ·exact Own.reads h
 ·exact h.1
def PeAt (b:Nat) (x:Pe):HP:=exs fun s:Sl=>Star [pts b (peCells x s),FlAt s x.fl]
theorem PeAt.iff {b:Nat} {x:Pe}:Sat R (PeAt b x::Hs) w↔∃ s,Sat R (pts b (peCells x s)::FlAt s x.fl::Hs) w:=by
 constructor
 ·intro h
  obtain ⟨s,h⟩:=Sat.exs.1 h
  exact ⟨s,Sat.star.1 h⟩
 ·rintro ⟨s,h⟩
  exact Sat.exs.2 ⟨s,Sat.star.2 h⟩
abbrev pEn (t:Int × Nat × Pe):Int × Value:=(t.1,.pointer (some ⟨t.2.1,0,none⟩))
abbrev pOf (t:Int × Nat × Pe):Int × Pe:=(t.1,t.2.2)
abbrev pHP (t:Int × Nat × Pe):HP:=PeAt t.2.1 t.2.2
def PsAt (pm:Option Nat) (ps:Option (List (Int × Pe))):HP:=exs fun l:List (Int × Nat × Pe)=>
 match pm with
 |none=>pur (ps=none)
 |some m=>Star (pur (ps=some (l.map pOf))::MapAt m (l.map pEn)::l.map pHP)
theorem PsAt.none' {ps:Option (List (Int × Pe))}:Sat R (PsAt none ps::Hs) w↔ps=none∧Sat R Hs w:=by
 constructor
 ·intro h
  obtain ⟨_,h⟩:=Sat.exs.1 h
  exact Sat.pur.1 h
 ·intro h
  exact Sat.exs.2 ⟨[],Sat.pur.2 h⟩
theorem PsAt.some' {m:Nat} {ps:Option (List (Int × Pe))}:Sat R (PsAt (some m) ps::Hs) w↔∃ l:List (Int × Nat × Pe),ps=some (l.map pOf)∧Sat R (MapAt m (l.map pEn)::(l.map pHP++Hs)) w:=by
 constructor
 ·intro h
  obtain ⟨l,h⟩:=Sat.exs.1 h
  obtain ⟨h1,h⟩:=Sat.pur.1 (Sat.star.1 h)
  exact ⟨l,h1,h⟩
 ·rintro ⟨l,h1,h⟩
  exact Sat.exs.2 ⟨l,Sat.star.2 (Sat.pur.2 ⟨h1,h⟩)⟩
abbrev rqRow (t:Sl × Rq):List Value:=[.int .i64 t.2.tok,.int .i64 t.2.ix,.int .i64 t.2.rnd,.slice t.1.a t.1.len t.1.cap]
abbrev rqHP (t:Sl × Rq):HP:=Own t.1 3 (ints t.2.bh)
def RsAt (s:Sl) (rs:List Rq):HP:=exs fun l:List (Sl × Rq)=>Star (pur (l.map (·.2)=rs)::OwnN 4 s 112 (l.map rqRow)::l.map rqHP)
theorem RsAt.iff {s:Sl} {rs:List Rq}:Sat R (RsAt s rs::Hs) w↔∃ l:List (Sl × Rq),l.map (·.2)=rs∧Sat R (OwnN 4 s 112 (l.map rqRow)::(l.map rqHP++Hs)) w:=by
 constructor
 ·intro h
  obtain ⟨l,h⟩:=Sat.exs.1 h
  obtain ⟨h1,h⟩:=Sat.pur.1 (Sat.star.1 h)
  exact ⟨l,h1,h⟩
 ·rintro ⟨l,h1,h⟩
  exact Sat.exs.2 ⟨l,Sat.star.2 (Sat.pur.2 ⟨h1,h⟩)⟩
theorem RsAt.nil (hw:Sat R Hs w):Sat R (RsAt ⟨none,0,0⟩ []::Hs) w:=RsAt.iff.2 ⟨[],rfl,OwnN.nil hw⟩
structure MLo where
 e:Sl
 ds:List DE4
 v:Sl
 l:Sl
 d:Sl
structure MgIn (R:Cx) (m:Mg) (L:MLo):Prop where
 es:RoN 4 R L.e (L.ds.map eRow)
 dr:DsR R L.ds
 ee:erE L.ds=m.es
 g:GpIn R m.sn.g L.v L.l
 d:SlR R.m L.d (b8 m.sn.dt)
theorem MgIn.ext {m:Mg} {L:MLo} (h:MgIn R m L) (e:R.Ext R'):MgIn R' m L:=⟨e.roN h.es,h.dr.ext e,h.ee,h.g.ext e,e.slR h.d⟩
abbrev mgRow (t:MLo × Mg):List Value:=[.int .i64 t.2.kd,.int .i64 t.2.fr,.int .i64 t.2.to',.int .i64 t.2.tm,.int .i64 t.2.ix,.int .i64 t.2.lt,.bool t.2.yes,.int .i64 t.2.com,.int .i64 t.2.hint,.int .i64 t.2.rnd,
 .slice t.1.e.a t.1.e.len t.1.e.cap,.int .i64 t.2.sn.ix,.int .i64 t.2.sn.tm,.slice t.1.v.a t.1.v.len t.1.v.cap,.slice t.1.l.a t.1.l.len t.1.l.cap,.slice t.1.d.a t.1.d.len t.1.d.cap]
def MsAt (R:Cx) (s:Sl) (ms:List Mg):HP:=exs fun l:List (MLo × Mg)=>Star [pur (l.map (·.2)=ms∧∀ t∈l,MgIn R t.2 t.1),OwnN 16 s 71 (l.map mgRow)]
theorem MsAt.iff {s:Sl} {ms:List Mg}:Sat R (MsAt R1 s ms::Hs) w↔∃ l:List (MLo × Mg),(l.map (·.2)=ms∧∀ t∈l,MgIn R1 t.2 t.1)∧Sat R (OwnN 16 s 71 (l.map mgRow)::Hs) w:=by
 constructor
 ·intro h
  obtain ⟨l,h⟩:=Sat.exs.1 h
  obtain ⟨h1,h⟩:=Sat.pur.1 (Sat.star.1 h)
  exact ⟨l,h1,h⟩
 ·rintro ⟨l,h1,h⟩
  exact Sat.exs.2 ⟨l,Sat.star.2 (Sat.pur.2 ⟨h1,h⟩)⟩
theorem MsAt.nil (hw:Sat R Hs w):Sat R (MsAt R1 ⟨none,0,0⟩ []::Hs) w:=MsAt.iff.2 ⟨[],⟨rfl,fun _ h=>by cases h⟩,OwnN.nil hw⟩
theorem MsAt.ext {s:Sl} {ms:List Mg} (hw:Sat R (MsAt R1 s ms::Hs) w) (e:R1.Ext R2):Sat R (MsAt R2 s ms::Hs) w:=by
 obtain ⟨l,h,hw⟩:=MsAt.iff.1 hw
 exact MsAt.iff.2 ⟨l,⟨h.1,fun t ht=>(h.2 t ht).ext e⟩,hw⟩
abbrev rrRow (t:Int × Int):List Value:=[.int .i64 t.1,.int .i64 t.2]
abbrev RrAt (s:Sl) (l:List (Int × Int)):HP:=OwnN 2 s 50 (l.map rrRow)
structure NLo where
 ep:Nat
 lp:Nat
 sv:Sl
 sl:Sl
 sd:Sl
 gv:Sl
 gl:Sl
 pm:Option Nat
 rs:Sl
 ms:Sl
 rr:Sl
structure NIn (R:Cx) (n:Rn) (L:NLo):Prop where
 g:GpIn R n.g L.gv L.gl
 sg:GpIn R n.sn.g L.sv L.sl
 sd:SlR R.m L.sd (b8 n.sn.dt)
theorem NIn.ext {n:Rn} {L:NLo} (h:NIn R n L) (e:R.Ext R'):NIn R' n L:=⟨h.g.ext e,h.sg.ext e,e.slR h.sd⟩
abbrev nCells (n:Rn) (L:NLo):Obj:=.cells [.pointer (some ⟨L.ep,0,none⟩),.int .i64 n.id,.int .i64 n.win,.pointer (some ⟨L.lp,0,none⟩),.int .i64 n.sn.ix,.int .i64 n.sn.tm,.slice L.sv.a L.sv.len L.sv.cap,.slice L.sl.a L.sl.len L.sl.cap,.slice L.sd.a L.sd.len L.sd.cap,
 .slice L.gv.a L.gv.len L.gv.cap,.slice L.gl.a L.gl.len L.gl.cap,.map L.pm,.slice L.rs.a L.rs.len L.rs.cap,.int .i64 n.rnd,.int .i64 n.told.tm,.int .i64 n.told.vt,.bool false,.int .i64 0,.int .i64 0,.bool n.rsn,.int .i64 0,.int .i64 0,.slice none 0 0,.slice none 0 0,.slice none 0 0,
 .int .i64 n.rfr,.slice L.ms.a L.ms.len L.ms.cap,.slice L.rr.a L.rr.len L.rr.cap].toArray 58 (0,0)
abbrev nHs (R:Cx) (n:Rn) (L:NLo) (Hs:List HP):List HP:=ElAt R L.ep n.e::LgAt R L.lp n.log::PsAt L.pm n.ps::RsAt L.rs n.rs::MsAt R L.ms n.rms::RrAt L.rr n.rrd::Hs
def NAt (R:Cx) (p:Nat) (n:Rn):HP:=exs fun L:NLo=>Star (pur (NIn R n L)::pts p (nCells n L)::nHs R n L [])
theorem NAt.iff {p:Nat} {n:Rn}:Sat R (NAt R1 p n::Hs) w↔∃ L,NIn R1 n L∧Sat R (pts p (nCells n L)::nHs R1 n L Hs) w:=by
 constructor
 ·intro h
  obtain ⟨L,h⟩:=Sat.exs.1 h
  obtain ⟨h1,h⟩:=Sat.pur.1 (Sat.star.1 h)
  exact ⟨L,h1,h⟩
 ·rintro ⟨L,h1,h⟩
  exact Sat.exs.2 ⟨L,Sat.star.2 (Sat.pur.2 ⟨h1,h⟩)⟩
theorem NAt.ext {p:Nat} {n:Rn} (hw:Sat R (NAt R1 p n::Hs) w) (e:R1.Ext R2):Sat R (NAt R2 p n::Hs) w:=by
 obtain ⟨L,h,hw⟩:=NAt.iff.1 hw
 refine NAt.iff.2 ⟨L,h.ext e,hw.cons fun _ h=>?_⟩
 exact Sat.cons (fun _ h=>Sat.cons (fun _ h=>h.cons fun _ h=>h.cons fun _ h=>MsAt.ext h e) (LgAt.ext h e)) (ElAt.ext h e)
end Go.Proofs.YthpmfnffkjjlnaaGreat
/- QuorumChanges, QuorumUndo, QuorumMeets: plain. No condition. -/
namespace Go.Proofs.YthpmfnffkjjlnaaGreat
set_option linter.unusedVariables false
set_option linter.unusedSimpArgs false
open Go Go.VC
variable {v l:List Int} {n:Int}
theorem right_iff:rightG v l=true↔risesL 0 v=true∧risesL 0 l=true∧v≠[]∧∀ m∈v,hasL l m=false:=by
 simp only [rightG,Bool.and_eq_true,countL_zero,List.all_eq_true,Bool.not_eq_true',decide_eq_true_eq,and_assoc,gt_iff_lt,List.length_pos_iff]
theorem rises_with:∀ {l:List Int} {a:Int},risesL a l=true→a<n→n≤15→hasL l n=false→risesL a (withL n l)=true
 |[],a,_,h0,h1,_=>by simp [withL,risesL];omega
 |x::l,a,h,h0,h1,hn=>by
  simp only [risesL,Bool.and_eq_true,Bool.not_eq_true',decide_eq_false_iff_not] at h
  simp only [hasL,Bool.or_eq_false_iff,beq_eq_false_iff_ne,ne_eq] at hn
  unfold withL
  split
  ·simp only [risesL,Bool.and_eq_true,Bool.not_eq_true',decide_eq_false_iff_not]
   exact ⟨by omega,by omega,h.2⟩
  ·simp only [risesL,Bool.and_eq_true,Bool.not_eq_true',decide_eq_false_iff_not]
   exact ⟨h.1,rises_with h.2 (by omega) h1 hn.2⟩
theorem rises_weak:∀ {l:List Int} {a b:Int},risesL a l=true→b≤a→risesL b l=true
 |[],_,_,_,_=>rfl
 |x::l,a,b,h,hb=>by
  simp only [risesL,Bool.and_eq_true,Bool.not_eq_true',decide_eq_false_iff_not] at h ⊢
  exact ⟨by omega,h.2⟩
theorem rises_filter (p:Int→Bool):∀ {l:List Int} {a:Int},risesL a l=true→risesL a (l.filter p)=true
 |[],_,_=>rfl
 |x::l,a,h=>by
  simp only [risesL,Bool.and_eq_true,Bool.not_eq_true',decide_eq_false_iff_not] at h
  have ih:=rises_filter p h.2
  rw [List.filter_cons]
  split
  ·simp only [risesL,Bool.and_eq_true,Bool.not_eq_true',decide_eq_false_iff_not];exact ⟨h.1,ih⟩
  ·exact rises_weak ih (by omega)
theorem has_with {m:Int}:hasL (withL n l) m=(m==n||hasL l m):=by
 have h:hasL (withL n l) m=true↔(m==n||hasL l m)=true:=by
  rw [hasL_mem,(withL_perm n l).mem_iff,Bool.or_eq_true,hasL_mem];simp
 cases h1:hasL (withL n l) m<;>cases h2:(m==n||hasL l m)<;>simp_all
theorem has_without {m:Int}:hasL (withoutL n l) m=(m !=n && hasL l m):=by
 have h:hasL (withoutL n l) m=true↔(m !=n && hasL l m)=true:=by
  rw [hasL_mem,withoutL,List.mem_filter,Bool.and_eq_true,hasL_mem]
  exact ⟨fun h=>⟨h.2,h.1⟩,fun h=>⟨h.2,h.1⟩⟩
 cases h1:hasL (withoutL n l) m<;>cases h2:(m !=n && hasL l m)<;>simp_all
theorem with_ne:withL n l≠[]:=fun h=>by
 have:=(withL_perm n l).length_eq;rw [h] at this;simp at this
theorem right_add (h:rightG v l=true) (hv:hasL v n=false) (hl:hasL l n=false) (h0:1≤n) (h1:n≤15):rightG v (withL n l)=true:=by
 obtain ⟨a,b,c,d⟩:=right_iff.1 h
 refine right_iff.2 ⟨a,rises_with b (by omega) h1 hl,c,fun m hm=>?_⟩
 rw [has_with,d m hm,Bool.or_false,beq_eq_false_iff_ne]
 intro e;subst e
 have:=hasL_mem.2 hm;rw [hv] at this;cases this
theorem right_promote (h:rightG v l=true) (hl:hasL l n=true) (h0:1≤n) (h1:n≤15):rightG (withL n v) (withoutL n l)=true:=by
 obtain ⟨a,b,c,d⟩:=right_iff.1 h
 refine right_iff.2 ⟨rises_with a (by omega) h1 (right_disj h hl),rises_filter _ b,with_ne,fun m hm=>?_⟩
 rw [has_without]
 have:=hasL_mem.2 hm
 rw [has_with] at this
 cases hm2:(m==n)
 ·rw [hm2,Bool.false_or] at this
  rw [d m (hasL_mem.1 this),Bool.and_false]
 ·simp [bne,hm2]
theorem right_remove (h:rightG v l=true) (hc:withoutL n v≠[]):rightG (withoutL n v) (withoutL n l)=true:=by
 obtain ⟨a,b,c,d⟩:=right_iff.1 h
 refine right_iff.2 ⟨rises_filter _ a,rises_filter _ b,hc,fun m hm=>?_⟩
 rw [has_without,d m (List.mem_filter.1 hm).1,Bool.and_false]
structure Changed (v l:List Int) (n:Int) (a b:List Int):Prop where
 was:rightG v l=true
 right:rightG a b=true
 how:a=v∨(a=withL n v)∨(a=withoutL n v∧hasL v n=true)
theorem chG_changed {kind:Int} {a b:List Int} (h:chG v l kind n=(a,b,0)):Changed v l n a b:=by
 by_cases ok:ChOk v l kind n
 ·rw [ok.eq] at h
  split at h
  ·split at h
   ·cases h
   ·rename_i hc
    simp only [Bool.or_eq_true,not_or,Bool.not_eq_true] at hc
    cases h
    rw [without_not hc.1]
    exact ⟨ok.right,right_add ok.right hc.1 hc.2 ok.n0 ok.n1,.inl rfl⟩
  ·split at h
   ·split at h
    ·cases h
    ·rename_i hc
     simp only [Bool.not_eq_true',Bool.not_eq_false] at hc
     cases h
     exact ⟨ok.right,right_promote ok.right hc ok.n0 ok.n1,.inr (.inl rfl)⟩
   ·split at h
    ·cases h
    ·rename_i hc
     cases h
     simp only [Bool.or_eq_true,Bool.and_eq_true,not_or,Bool.not_eq_true',not_and,Bool.not_eq_false,beq_iff_eq] at hc
     cases hv:hasL v n
     ·rw [without_not hv]
      have:=right_remove (n:=n) ok.right (by rw [without_not hv];exact (right_iff.1 ok.right).2.2.1)
      rw [without_not hv] at this
      exact ⟨ok.right,this,.inl rfl⟩
     ·have hl:=len_without (rises_nodup (right_rises ok.right)) hv
      have h1:=hc.2 hv
      have hp:=right_pos ok.right
      refine ⟨ok.right,right_remove ok.right fun e=>?_,.inr (.inr ⟨rfl,hv⟩)⟩
      rw [e] at hl;simp at hl;omega
 ·have:chG v l kind n=([],[],1):=by
   refine chG_arg ?_
   cases hr:rightG v l
   ·exact .inl rfl
   ·refine .inr ?_
    by_cases h1:kind<1
    ·exact .inl h1
    ·by_cases h2:kind>3
     ·exact .inr (.inl h2)
     ·by_cases h3:n<1
      ·exact .inr (.inr (.inl h3))
      ·by_cases h4:n>15
       ·exact .inr (.inr (.inr h4))
       ·exact absurd ⟨hr,by omega,by omega,by omega,by omega⟩ ok
  rw [this] at h;cases h
theorem chG_cases (v l:List Int) (kind n:Int):chG v l kind n=([],[],1)∨chG v l kind n=([],[],7)∨∃ a b,chG v l kind n=(a,b,0):=by
 unfold chG
 split
 ·exact .inl rfl
 split<;>split<;>first|exact .inr (.inl rfl)|exact .inr (.inr ⟨_,_,rfl⟩)|skip
 all_goals split
 all_goals first|exact .inr (.inl rfl)|exact .inr (.inr ⟨_,_,rfl⟩)
theorem chG_len (v l:List Int) (kind n:Int):(chG v l kind n).1.length≤1000∧(chG v l kind n).2.1.length≤1000:=by
 rcases chG_cases v l kind n with h|h|⟨a,b,h⟩
 ·rw [h];simp
 ·rw [h];simp
 ·have:=chG_changed h
  rw [h]
  have h1:=rises_len15 (right_rises this.right)
  have h2:=rises_len15 (right_risesL this.right)
  simp only;omega
end Go.Proofs.YthpmfnffkjjlnaaGreat
/- The formulas of functions of this seat's translation, printed by a program of mine off the translation; each is proved equal to 'fnF' of the function's body, so it is enough for the call. No condition. -/
namespace Go.Proofs.YthpmfnffkjjlnaaGreat
open Go Go.VC
set_option linter.unusedVariables false
set_option maxRecDepth 10000
def B91 (a:Int) (b:Int) (K:Value→World→Prop) (w:World):Prop:=
 Br (decide (a<1))
 (K (.tuple #[.pointer none,.int .i64 1]) w)
 (Br (decide (a>1099511627776))
 (K (.tuple #[.pointer none,.int .i64 1]) w)
 (Br (decide (b<1))
 (K (.tuple #[.pointer none,.int .i64 1]) w)
 (Br (decide (b>64))
 (K (.tuple #[.pointer none,.int .i64 1]) w)
 (New (.cells #[.int .i64 0,.int .i64 0,.int .i64 a,.int .i64 b,.bool false,.slice none 0 0,.int .i64 0] 172 (0,0)) (fun c d=>
 K (.tuple #[.pointer ((some ⟨c,0,none⟩)),.int .i64 0]) d) w))))
theorem call91 (a:Int) (b:Int) (K:Value→World→Prop) (w:World) (h:B91 a b K w):Gets Tryz.prog 91 #[.int .i64 a,.int .i64 b] w K:=cq (sk:=.leaf) Tryz.func91 (by kernel_rfl) (by kernel_rfl) (by kernel_rfl) h
def B43 (c:Option Addr) (K:Value→World→Prop) (w:World):Prop:=
 NilP c fun b=>
 ∃ a:Int,(At (fun d=>d=w) (Addr.add b 0) [.int .i64 a])∧
 K (.int .i64 a) w
theorem call43 (a:Option Addr) (K:Value→World→Prop) (w:World) (h:B43 a K w):Gets Tryz.prog 43 #[.pointer a] w K:=cq (sk:=.leaf) Tryz.func43 (by kernel_rfl) (by kernel_rfl) (by kernel_rfl) h
def B106 (c:Option Addr) (K:Value→World→Prop) (w:World):Prop:=
 NilP c fun a=>
 ∃ b:Int,(At (fun d=>d=w) ⟨a.block,a.off + 1,none⟩ [.int .i64 b])∧
 K (.int .i64 b) w
theorem call106 (a:Option Addr) (K:Value→World→Prop) (w:World) (h:B106 a K w):Gets Tryz.prog 106 #[.pointer a] w K:=cq (sk:=.leaf) Tryz.func106 (by kernel_rfl) (by kernel_rfl) (by kernel_rfl) h
def B107 (b:Option Addr) (K:Value→World→Prop) (w:World):Prop:=
 NilP b fun m=>
 ∃ d:Int,(At (fun e=>e=w) (Addr.add m 0) [.int .i64 d])∧
 Br (d==0)
 (NilP b fun g=>
 ∃ k:Bool,(At (fun e=>e=w) ⟨g.block,g.off + 4,none⟩ [.bool k])∧
 K (.bool (!k)) w)
 (Br (d==1)
 (Drw w fun f n=>
 NilP b fun i=>
 ∃ c:Sl,(At f ⟨i.block,i.off + 5,none⟩ [.slice c.a c.len c.cap])∧
 NilP b fun j=>
 ∃ l:Int,(At f ⟨j.block,j.off + 3,none⟩ [.int .i64 l])∧
 K (.bool (decide ((↑c.len:Int)<l))) n)
 (K (.bool false) w))
theorem call107 (a:Option Addr) (K:Value→World→Prop) (w:World) (h:B107 a K w):Gets Tryz.prog 107 #[.pointer a] w K:=cq (sk:=.leaf) Tryz.func107 (by kernel_rfl) (by kernel_rfl) (by kernel_rfl) h
def B108 (c:Option Addr) (K:Value→World→Prop) (w:World):Prop:=
 NilP c fun a=>
 ∃ b:Int,(At (fun d=>d=w) ⟨a.block,a.off + 2,none⟩ [.int .i64 b])∧
 K (.int .i64 b) w
theorem call108 (a:Option Addr) (K:Value→World→Prop) (w:World) (h:B108 a K w):Gets Tryz.prog 108 #[.pointer a] w K:=cq (sk:=.leaf) Tryz.func108 (by kernel_rfl) (by kernel_rfl) (by kernel_rfl) h
def B109 (a:Option Addr) (b:Int) (K:Value→World→Prop) (w:World):Prop:=
 ∃ (c:World→Prop),(Br (decide (b<0))
 (K (.int .i64 1) w)
 (Br (decide (b>1099511627775))
 (K (.int .i64 1) w)
 (c  w)))∧
 ∀ (n:Env)  (g:World),c  g→
 NilP a fun m=>
 ∃ i:World,((Instr.storeAt 3 (.pointer ((some (Addr.add m 0)))) (.int .i64 2)).run Tryz.prog g=.ok () i)∧
 NilP a fun d=>
 ∃ j:World,((Instr.storeAt 3 (.pointer ((some ⟨d.block,d.off + 6,none⟩))) (.int .i64 b)).run Tryz.prog i=.ok () j)∧
 NilP a fun e=>
 ∃ k:World,((Instr.storeAt 4 (.pointer ((some ⟨e.block,e.off + 4,none⟩))) (.bool false)).run Tryz.prog j=.ok () k)∧
 NilP a fun f=>
 ∃ l:World,((Instr.storeAt 30 (.pointer ((some ⟨f.block,f.off + 5,none⟩))) (.slice none 0 0)).run Tryz.prog k=.ok () l)∧
 K (.int .i64 0) l
def sk109:Sk:=(.seq .leaf (.cut [] [] [4,5,6,7,8,9,10] .leaf .leaf))
theorem call109 (b:Option Addr) (a:Int) (K:Value→World→Prop) (w:World) (h:B109 b a K w):Gets Tryz.prog 109 #[.pointer b,.int .i64 a] w K:=cq (sk:=sk109) Tryz.func109 (by kernel_rfl) (by kernel_rfl) (by kernel_rfl) h
def B110 (b:Option Addr) (g:Int) (K:Value→World→Prop) (w:World):Prop:=
 ∃ (i:Bool→World→Prop),(Calls Tryz.prog 107 #[.pointer b] w fun D j=>
 ∃ v:Bool,(D=.returned (.bool v))∧
 Br (!v)
 (i true j)
 (NilP b fun l=>
 ∃ r:Int,(At (fun c=>c=j) ⟨l.block,l.off + 2,none⟩ [.int .i64 r])∧
 Br (decide (g<IntKind.i64.wrap (r - 1)))
 (i true j)
 (i (decide (g>1099511627775)) j)))∧
 ∀ (F:Env) (u:Bool) (d:World),i u d→
 Br u
 (K (.int .i64 7) d)
 (NilP b fun A=>
 ∃ s:Int,(At (fun c=>c=d) (Addr.add A 0) [.int .i64 s])∧
 Br (s==0)
 (NilP b fun m=>
 ∃ x:World,((Instr.storeAt 4 (.pointer ((some ⟨m.block,m.off + 4,none⟩))) (.bool true)).run Tryz.prog d=.ok () x)∧
 K (.int .i64 0) x)
 (NilP b fun n=>
 ∃ t:Int,(At (fun c=>c=d) ⟨n.block,n.off + 2,none⟩ [.int .i64 t])∧
 Br (decide (g ≥ t))
 (NilP b fun o=>
 ∃ k:World,((Instr.storeAt 3 (.pointer ((some ⟨o.block,o.off + 2,none⟩))) (.int .i64 (IntKind.i64.wrap (g + 1)))).run Tryz.prog d=.ok () k)∧
 NilP b fun p=>
 ∃ e:Sl,(At (fun c=>c=k) ⟨p.block,p.off + 5,none⟩ [.slice e.a e.len e.cap])∧
 New (.cells #[.int .i64 g] 3 (0,0)) (fun C E=>
 ∃ y:World,∃ f:Sl,((Builtin.append_ #[30,30] 30 #[.slice e.a e.len e.cap,.slice ((some ⟨C,0,none⟩)) 1 1]).run Tryz.prog E=.ok (.slice f.a f.len f.cap) y)∧
 NilP b fun q=>
 ∃ z:World,((Instr.storeAt 30 (.pointer ((some ⟨q.block,q.off + 5,none⟩))) (.slice f.a f.len f.cap)).run Tryz.prog y=.ok () z)∧
 K (.int .i64 0) z) k)
 (K (.int .i64 0) d)))
def sk110:Sk:=(.seq .leaf (.seq (.block (.cut [5] [.bool] [5,6,7,8,9,10,11,12,13,14,15,16,17,18,19,20,21] .leaf .leaf)) .leaf))
theorem call110 (b:Option Addr) (a:Int) (K:Value→World→Prop) (w:World) (h:B110 b a K w):Gets Tryz.prog 110 #[.pointer b,.int .i64 a] w K:=cq (sk:=sk110) Tryz.func110 (by kernel_rfl) (by kernel_rfl) (by kernel_rfl) h
end Go.Proofs.YthpmfnffkjjlnaaGreat
/- The formulas of functions of this seat's translation, printed by a program of mine off the translation; each is proved equal to 'fnF' of the function's body, so it is enough for the call. No condition. -/
namespace Go.Proofs.YthpmfnffkjjlnaaGreat
open Go Go.VC
set_option linter.unusedVariables false
set_option maxRecDepth 10000
def B31 (x:Int) (y:Int) (g:Sl) (i:Sl) (j:Sl) (K:Value→World→Prop) (w:World):Prop:=
 New (.cells #[.int .i64 x,.int .i64 y,.slice g.a g.len g.cap,.slice i.a i.len i.cap,.slice j.a j.len j.cap] 35 (0,0)) (fun e s=>
 ∃ q:Int,(At (fun b=>b=s) ⟨e,0,none⟩ [.int .i64 q])∧
 Calls Tryz.prog 80 #[.int .i64 q,.int .i64 1099511627776] s fun t k=>
 ∃ r:Bool,(t=.returned (.bool r))∧
 Br r
 (∃ n:Int,(At (fun b=>b=k) ⟨e,0 + 1,none⟩ [.int .i64 n])∧
 Calls Tryz.prog 80 #[.int .i64 n,.int .i64 1099511627776] k fun u l=>
 ∃ o:Bool,(u=.returned (.bool o))∧
 Br o
 (∃ c:Sl,∃ d:Sl,(At (fun b=>b=l) ⟨e,0 + 2,none⟩ [.slice c.a c.len c.cap,.slice d.a d.len d.cap])∧
 Calls Tryz.prog 81 #[.agg #[.slice c.a c.len c.cap,.slice d.a d.len d.cap]] l fun v m=>
 ∃ p:Bool,(v=.returned (.bool p))∧
 Br p
 (∃ f:Sl,(At (fun b=>b=m) ⟨e,0 + 4,none⟩ [.slice f.a f.len f.cap])∧
 K (.bool (decide ((↑f.len:Int)≤60000))) m)
 (K (.bool false) m))
 (K (.bool false) l))
 (K (.bool false) k)) w
theorem call31 (e:Int) (f:Int) (b:Sl) (c:Sl) (d:Sl) (K:Value→World→Prop) (w:World) (h:B31 e f b c d K w):Gets Tryz.prog 31 #[.agg #[.int .i64 e,.int .i64 f,.slice b.a b.len b.cap,.slice c.a c.len c.cap,.slice d.a d.len d.cap]] w K:=cq (sk:=.leaf) Tryz.func31 (by kernel_rfl) (by kernel_rfl) (by kernel_rfl) h
def B80 (a:Int) (b:Int) (K:Value→World→Prop) (w:World):Prop:=
 Br (decide (a ≥ 0))
 (K (.bool (decide (a≤b))) w)
 (K (.bool false) w)
theorem call80 (b:Int) (a:Int) (K:Value→World→Prop) (w:World) (h:B80 b a K w):Gets Tryz.prog 80 #[.int .i64 b,.int .i64 a] w K:=cq (sk:=.leaf) Tryz.func80 (by kernel_rfl) (by kernel_rfl) (by kernel_rfl) h
def B35 (J:Int) (L:Int) (r:Sl) (s:Sl) (t:Sl) (K:Value→World→Prop) (w:World):Prop:=
 New (.cells #[.int .i64 J,.int .i64 L,.slice r.a r.len r.cap,.slice s.a s.len s.cap,.slice t.a t.len t.cap] 35 (0,0)) (fun b M=>
 New (.cells #[.int .i64 0,.int .i64 0,.slice none 0 0,.slice none 0 0,.slice none 0 0] 35 (0,0)) (fun y N=>
 Drw N fun q O=>
 ∃ j:Sl,(At q ⟨b,0 + 2,none⟩ [.slice j.a j.len j.cap])∧
 ∃ l:Sl,(At q ⟨b,0 + 2 + 1,none⟩ [.slice l.a l.len l.cap])∧
 Calls Tryz.prog 88 #[.slice j.a j.len j.cap] O fun G E=>
 ∃ k:Sl,(G=.returned (.slice k.a k.len k.cap))∧
 (q E)∧
 Calls Tryz.prog 88 #[.slice l.a l.len l.cap] E fun H F=>
 ∃ c:Sl,(H=.returned (.slice c.a c.len c.cap))∧
 (q F)∧
 ∃ u:World,((Instr.storeAt 32 (.pointer ((some ⟨b,0 + 2,none⟩))) (.agg #[.slice k.a k.len k.cap,.slice c.a c.len c.cap])).run Tryz.prog F=.ok () u)∧
 ∃ d:Sl,(At (fun p=>p=u) ⟨b,0 + 4,none⟩ [.slice d.a d.len d.cap])∧
 Calls Tryz.prog 48 #[.slice d.a d.len d.cap] u fun I Q=>
 ∃ e:Sl,(I=.returned (.slice e.a e.len e.cap))∧
 ∃ v:World,((Instr.storeAt 33 (.pointer ((some ⟨b,0 + 4,none⟩))) (.slice e.a e.len e.cap)).run Tryz.prog Q=.ok () v)∧
 ∃ z:Int,∃ A:Int,∃ f:Sl,∃ g:Sl,∃ i:Sl,(At (fun p=>p=v) ⟨b,0,none⟩ [.int .i64 z,.int .i64 A,.slice f.a f.len f.cap,.slice g.a g.len g.cap,.slice i.a i.len i.cap])∧
 ∃ x:World,((Instr.storeAt 35 (.pointer ((some ⟨y,0,none⟩))) (.agg #[.int .i64 z,.int .i64 A,.slice f.a f.len f.cap,.slice g.a g.len g.cap,.slice i.a i.len i.cap])).run Tryz.prog v=.ok () x)∧
 ∃ C:Int,∃ D:Int,∃ m:Sl,∃ n:Sl,∃ o:Sl,(At (fun p=>p=x) ⟨y,0,none⟩ [.int .i64 C,.int .i64 D,.slice m.a m.len m.cap,.slice n.a n.len n.cap,.slice o.a o.len o.cap])∧
 K (.agg #[.int .i64 C,.int .i64 D,.slice m.a m.len m.cap,.slice n.a n.len n.cap,.slice o.a o.len o.cap]) x) M) w
theorem call35 (e:Int) (f:Int) (b:Sl) (c:Sl) (d:Sl) (K:Value→World→Prop) (w:World) (h:B35 e f b c d K w):Gets Tryz.prog 35 #[.agg #[.int .i64 e,.int .i64 f,.slice b.a b.len b.cap,.slice c.a c.len c.cap,.slice d.a d.len d.cap]] w K:=cq (sk:=.leaf) Tryz.func35 (by kernel_rfl) (by kernel_rfl) (by kernel_rfl) h
def B158 (G:Sl) (H:Sl) (al:Int) (am:Int) (an:Int) (N:Sl) (K:Value→World→Prop) (w:World):Prop:=
 New (.cells #[.slice G.a G.len G.cap,.slice H.a H.len H.cap] 32 (0,0)) (fun D ae=>
 New (.cells #[.int .i64 al,.int .i64 am,.int .i64 an,.slice N.a N.len N.cap] 52 (0,0)) (fun Q ah=>
 New (.cells #[.slice none 0 0,.slice none 0 0] 32 (0,0)) (fun c C=>
 ∃ T:Int,(At (fun b=>b=C) ⟨Q,0 + 2,none⟩ [.int .i64 T])∧
 Br (T !=2)
 (∃ d:Sl,∃ e:Sl,(At (fun b=>b=C) ⟨D,0,none⟩ [.slice d.a d.len d.cap,.slice e.a e.len e.cap])∧
 ∃ L:World,((Instr.storeAt 32 (.pointer ((some ⟨c,0,none⟩))) (.agg #[.slice d.a d.len d.cap,.slice e.a e.len e.cap])).run Tryz.prog C=.ok () L)∧
 ∃ r:Sl,∃ s:Sl,(At (fun b=>b=L) ⟨c,0,none⟩ [.slice r.a r.len r.cap,.slice s.a s.len s.cap])∧
 K (.agg #[.slice r.a r.len r.cap,.slice s.a s.len s.cap]) L)
 (∃ f:Sl,(At (fun b=>b=C) ⟨Q,0 + 3,none⟩ [.slice f.a f.len f.cap])∧
 Calls Tryz.prog 211 #[.slice f.a f.len f.cap] C fun Z ai=>
 ∃ E:Option Addr,(Z=.returned (.pointer E))∧
 Calls Tryz.prog 212 #[.pointer E,.int .u64 1099511627776] ai fun aa aj=>
 ∃ U:Int,(aa=.returned (.int .u64 U))∧
 Calls Tryz.prog 212 #[.pointer E,.int .u64 1099511627776] aj fun ab ak=>
 ∃ V:Int,(ab=.returned (.int .u64 V))∧
 Calls Tryz.prog 213 #[.pointer E] ak fun ac F=>
 ∃ X:Bool,(ac=.returned (.bool X))∧
 Br (!X)
 (∃ g:Sl,∃ i:Sl,(At (fun b=>b=F) ⟨D,0,none⟩ [.slice g.a g.len g.cap,.slice i.a i.len i.cap])∧
 ∃ M:World,((Instr.storeAt 32 (.pointer ((some ⟨c,0,none⟩))) (.agg #[.slice g.a g.len g.cap,.slice i.a i.len i.cap])).run Tryz.prog F=.ok () M)∧
 ∃ t:Sl,∃ u:Sl,(At (fun b=>b=M) ⟨c,0,none⟩ [.slice t.a t.len t.cap,.slice u.a u.len u.cap])∧
 K (.agg #[.slice t.a t.len t.cap,.slice u.a u.len u.cap]) M)
 (∃ j:Sl,∃ k:Sl,(At (fun b=>b=F) ⟨D,0,none⟩ [.slice j.a j.len j.cap,.slice k.a k.len k.cap])∧
 Calls Tryz.prog 54 #[.agg #[.slice j.a j.len j.cap,.slice k.a k.len k.cap],.int .i64 (IntKind.i64.wrap U),.int .i64 (IntKind.i64.wrap V)] F fun ad af=>
 ∃ l:Sl,∃ m:Sl,∃ Y:Int,(ad=.returned (.tuple #[.agg #[.slice l.a l.len l.cap,.slice m.a m.len m.cap],.int .i64 Y]))∧
 New (.cells #[.slice none 0 0,.slice none 0 0] 32 (0,0)) (fun O ag=>
 ∃ A:World,((Instr.storeAt 32 (.pointer ((some ⟨O,0,none⟩))) (.agg #[.slice l.a l.len l.cap,.slice m.a m.len m.cap])).run Tryz.prog ag=.ok () A)∧
 Br (Y==0)
 (∃ n:Sl,∃ o:Sl,(At (fun b=>b=A) ⟨O,0,none⟩ [.slice n.a n.len n.cap,.slice o.a o.len o.cap])∧
 ∃ I:World,((Instr.storeAt 32 (.pointer ((some ⟨c,0,none⟩))) (.agg #[.slice n.a n.len n.cap,.slice o.a o.len o.cap])).run Tryz.prog A=.ok () I)∧
 ∃ v:Sl,∃ x:Sl,(At (fun b=>b=I) ⟨c,0,none⟩ [.slice v.a v.len v.cap,.slice x.a x.len x.cap])∧
 K (.agg #[.slice v.a v.len v.cap,.slice x.a x.len x.cap]) I)
 (∃ p:Sl,∃ q:Sl,(At (fun b=>b=A) ⟨D,0,none⟩ [.slice p.a p.len p.cap,.slice q.a q.len q.cap])∧
 ∃ J:World,((Instr.storeAt 32 (.pointer ((some ⟨c,0,none⟩))) (.agg #[.slice p.a p.len p.cap,.slice q.a q.len q.cap])).run Tryz.prog A=.ok () J)∧
 ∃ y:Sl,∃ z:Sl,(At (fun b=>b=J) ⟨c,0,none⟩ [.slice y.a y.len y.cap,.slice z.a z.len z.cap])∧
 K (.agg #[.slice y.a y.len y.cap,.slice z.a z.len z.cap]) J)) af))) ah) ae) w
theorem call158 (b:Sl) (c:Sl) (e:Int) (f:Int) (g:Int) (d:Sl) (K:Value→World→Prop) (w:World) (h:B158 b c e f g d K w):Gets Tryz.prog 158 #[.agg #[.slice b.a b.len b.cap,.slice c.a c.len c.cap],.agg #[.int .i64 e,.int .i64 f,.int .i64 g,.slice d.a d.len d.cap]] w K:=cq (sk:=.leaf) Tryz.func158 (by kernel_rfl) (by kernel_rfl) (by kernel_rfl) h
def B89 (t:Option Addr) (an:Int) (K:Value→World→Prop) (w:World):Prop:=
 New (.cells #[.slice none 0 0,.slice none 0 0] 32 (0,0)) (fun J ac=>
 NilP t fun I=>
 ∃ f:Sl,∃ g:Sl,(At (fun b=>b=ac) ⟨I.block,I.off + 4 + 2,none⟩ [.slice f.a f.len f.cap,.slice g.a g.len g.cap])∧
 New (.cells #[.slice none 0 0,.slice none 0 0] 32 (0,0)) (fun x ap=>
 ∃ ae:World,((Instr.storeAt 32 (.pointer ((some ⟨x,0,none⟩))) (.agg #[.slice f.a f.len f.cap,.slice g.a g.len g.cap])).run Tryz.prog ap=.ok () ae)∧
 Drw ae fun e aq=>
 NilP t fun E=>
 ∃ L:Option Addr,(At e ⟨E.block,E.off + 3,none⟩ [.pointer L])∧
 NilP t fun F=>
 ∃ M:Option Addr,(At e ⟨F.block,F.off + 3,none⟩ [.pointer M])∧
 NilP t fun G=>
 ∃ O:Option Addr,(At e ⟨G.block,G.off + 3,none⟩ [.pointer O])∧
 Calls Tryz.prog 157 #[.pointer M] aq fun aj af=>
 ∃ N:Int,(aj=.returned (.int .i64 N))∧
 (e af)∧
 Calls Tryz.prog 157 #[.pointer O] af fun ak ag=>
 ∃ Q:Int,(ak=.returned (.int .i64 Q))∧
 (e ag)∧
 Calls Tryz.prog 53 #[.pointer L,.int .i64 N,.int .i64 (IntKind.i64.wrap (IntKind.i64.wrap (an + 1) - Q))] ag fun al ah=>
 ∃ i:Sl,(al=.returned (.slice i.a i.len i.cap))∧
 (e ah)∧
 ∃ (v:Int→World→Prop) (y:Int→World→Nat),(v 0 ah)∧∀ (au:Env) (c:Int) (d:World),v c d→
 Br (decide (c<(↑i.len:Int)))
 (Rng c i.len (NilP i.a fun ai=>
 ∃ T:Int,∃ U:Int,∃ V:Int,∃ j:Sl,(At (fun b=>b=d) (Addr.add ai (mulS c.toNat 4)) [.int .i64 T,.int .i64 U,.int .i64 V,.slice j.a j.len j.cap])∧
 New (.cells #[.int .i64 0,.int .i64 0,.int .i64 0,.slice none 0 0] 52 (0,0)) (fun z ar=>
 ∃ ad:World,((Instr.storeAt 52 (.pointer ((some ⟨z,0,none⟩))) (.agg #[.int .i64 T,.int .i64 U,.int .i64 V,.slice j.a j.len j.cap])).run Tryz.prog ar=.ok () ad)∧
 Drw ad fun D u=>
 ∃ X:Int,(At D ⟨z,0,none⟩ [.int .i64 X])∧
 NilP t fun H=>
 ∃ Y:Int,(At D ⟨H.block,H.off + 4,none⟩ [.int .i64 Y])∧
 Br (decide (X>Y))
 (∃ k:Sl,∃ l:Sl,(At (fun b=>b=u) ⟨x,0,none⟩ [.slice k.a k.len k.cap,.slice l.a l.len l.cap])∧
 ∃ Z:Int,∃ aa:Int,∃ ab:Int,∃ m:Sl,(At (fun b=>b=u) ⟨z,0,none⟩ [.int .i64 Z,.int .i64 aa,.int .i64 ab,.slice m.a m.len m.cap])∧
 Calls Tryz.prog 158 #[.agg #[.slice k.a k.len k.cap,.slice l.a l.len l.cap],.agg #[.int .i64 Z,.int .i64 aa,.int .i64 ab,.slice m.a m.len m.cap]] u fun am ao=>
 ∃ n:Sl,∃ o:Sl,(am=.returned (.agg #[.slice n.a n.len n.cap,.slice o.a o.len o.cap]))∧
 ∃ A:World,((Instr.storeAt 32 (.pointer ((some ⟨x,0,none⟩))) (.agg #[.slice n.a n.len n.cap,.slice o.a o.len o.cap])).run Tryz.prog ao=.ok () A)∧
 (v (IntKind.i64.wrap (c + 1)) A)∧y (IntKind.i64.wrap (c + 1)) A<y c d)
 ((v (IntKind.i64.wrap (c + 1)) u)∧y (IntKind.i64.wrap (c + 1)) u<y c d)) d))
 (∃ p:Sl,∃ q:Sl,(At (fun b=>b=d) ⟨x,0,none⟩ [.slice p.a p.len p.cap,.slice q.a q.len q.cap])∧
 ∃ C:World,((Instr.storeAt 32 (.pointer ((some ⟨J,0,none⟩))) (.agg #[.slice p.a p.len p.cap,.slice q.a q.len q.cap])).run Tryz.prog d=.ok () C)∧
 ∃ r:Sl,∃ s:Sl,(At (fun b=>b=C) ⟨J,0,none⟩ [.slice r.a r.len r.cap,.slice s.a s.len s.cap])∧
 K (.agg #[.slice r.a r.len r.cap,.slice s.a s.len s.cap]) C)) ac) w
def sk89:Sk:=(.seq .leaf (.seq .leaf (.seq (.seq .leaf (.block (.loop [32] [(.int .i64)] [7,32,33,34,35,36,37,38,39,40,41,42,43,44,45,46,47] .leaf))) .leaf)))
theorem call89 (b:Option Addr) (a:Int) (K:Value→World→Prop) (w:World) (h:B89 b a K w):Gets Tryz.prog 89 #[.pointer b,.int .i64 a] w K:=cq (sk:=sk89) Tryz.func89 (by kernel_rfl) (by kernel_rfl) (by kernel_rfl) h
def B36 (c:Option Addr) (K:Value→World→Prop) (w:World):Prop:=
 NilP c fun D=>
 ∃ O:Option Addr,(At (fun b=>b=w) ⟨D.block,D.off + 3,none⟩ [.pointer O])∧
 Calls Tryz.prog 39 #[.pointer O] w fun aq a0=>
 ∃ Q:Int,(aq=.returned (.int .i64 Q))∧
 Calls Tryz.prog 89 #[.pointer c,.int .i64 Q] a0 fun ar a3=>
 ∃ g:Sl,∃ i:Sl,(ar=.returned (.agg #[.slice g.a g.len g.cap,.slice i.a i.len i.cap]))∧
 NilP c fun E=>
 ∃ ah:World,((Instr.storeAt 32 (.pointer ((some ⟨E.block,E.off + 9,none⟩))) (.agg #[.slice g.a g.len g.cap,.slice i.a i.len i.cap])).run Tryz.prog a3=.ok () ah)∧
 Drw ah fun z a4=>
 NilP c fun am=>
 ∃ T:Option Addr,(At z (Addr.add am 0) [.pointer T])∧
 NilP c fun F=>
 ∃ j:Sl,∃ k:Sl,(At z ⟨F.block,F.off + 9,none⟩ [.slice j.a j.len j.cap,.slice k.a k.len k.cap])∧
 Calls Tryz.prog 90 #[.pointer T,.agg #[.slice j.a j.len j.cap,.slice k.a k.len k.cap]] a4 fun au ai=>
 ∃ ay:Int,(au=.returned (.int .i64 ay))∧
 NilP c fun an=>
 ∃ U:Option Addr,(At (fun b=>b=ai) (Addr.add an 0) [.pointer U])∧
 Calls Tryz.prog 16 #[.pointer U] ai fun av aj=>
 ∃ V:Int,(av=.returned (.int .i64 V))∧
 Br (V !=3)
 (NilP c fun G=>
 ∃ ak:World,((Instr.storeAt 55 (.pointer ((some ⟨G.block,G.off + 11,none⟩))) (.map none)).run Tryz.prog aj=.ok () ak)∧
 K (.tuple #[]) ak)
 (New (.map #[] 0) (fun u a5=>
 Drw a5 fun A a6=>
 NilP c fun H=>
 ∃ l:Sl,(At A ⟨H.block,H.off + 9,none⟩ [.slice l.a l.len l.cap])∧
 NilP c fun I=>
 ∃ m:Sl,(At A ⟨I.block,I.off + 9 + 1,none⟩ [.slice m.a m.len m.cap])∧
 New (.cells #[.slice l.a l.len l.cap,.slice m.a m.len m.cap] 30 (0,0)) (fun ap a1=>
 ∃ (t:Int→World→Prop) (al:Int→World→Nat),(t 0 a1)∧∀ (a7:Env) (f:Int) (r:World),t f r→
 Br (decide (f<(↑2:Int)))
 (Rng f 2 (∃ n:Sl,(At (fun b=>b=r) (Addr.add ⟨ap,0,none⟩ f.toNat) [.slice n.a n.len n.cap])∧
 ∃ (p:Int→World→Prop) (o:Int→World→Nat),(p 0 r)∧∀ (a8:Env) (e:Int) (d:World),p e d→
 Br (decide (e<(↑n.len:Int)))
 (Rng e n.len (NilP n.a fun ao=>
 ∃ q:Int,(At (fun b=>b=d) (Addr.add ao e.toNat) [.int .i64 q])∧
 NilP c fun J=>
 ∃ X:Option Nat,(At (fun b=>b=d) ⟨J.block,J.off + 11,none⟩ [.map X])∧
 ∃ Y:Option Addr,∃ Z:Bool,(∀ b,(fun b=>b=d) b→((Instr.lookup 55 (.map X) (.int .i64 q) true)).run Tryz.prog b=.ok (.tuple #[.pointer Y,.bool Z]) b)∧
 NilP c fun L=>
 ∃ aa:Int,(At (fun b=>b=d) ⟨L.block,L.off + 1,none⟩ [.int .i64 aa])∧
 Br (q==aa)
 ((p (IntKind.i64.wrap (e + 1)) d)∧o (IntKind.i64.wrap (e + 1)) d<o e d)
 (Br (!Z)
 (Drw d fun s a2=>
 NilP c fun M=>
 ∃ ab:Option Addr,(At s ⟨M.block,M.off + 3,none⟩ [.pointer ab])∧
 NilP c fun N=>
 ∃ ac:Int,(At s ⟨N.block,N.off + 2,none⟩ [.int .i64 ac])∧
 Calls Tryz.prog 39 #[.pointer ab] a2 fun aw ae=>
 ∃ v:Int,(aw=.returned (.int .i64 v))∧
 (s ae)∧
 Calls Tryz.prog 91 #[.int .i64 (if 1099511627776<IntKind.i64.wrap (v + 1) then 1099511627776 else IntKind.i64.wrap (v + 1)),.int .i64 ac] ae fun ax af=>
 ∃ ad:Option Addr,∃ az:Int,(ax=.returned (.tuple #[.pointer ad,.int .i64 az]))∧
 (s af)∧
 ∃ x:World,((Instr.mapUpdate 55 (.map ((some u))) (.int .i64 q) (.pointer ad)).run Tryz.prog af=.ok () x)∧
 (p (IntKind.i64.wrap (e + 1)) x)∧o (IntKind.i64.wrap (e + 1)) x<o e d)
 (∃ y:World,((Instr.mapUpdate 55 (.map ((some u))) (.int .i64 q) (.pointer Y)).run Tryz.prog d=.ok () y)∧
 (p (IntKind.i64.wrap (e + 1)) y)∧o (IntKind.i64.wrap (e + 1)) y<o e d))))
 ((t (IntKind.i64.wrap (f + 1)) d)∧al (IntKind.i64.wrap (f + 1)) d<al f r)))
 (NilP c fun C=>
 ∃ ag:World,((Instr.storeAt 55 (.pointer ((some ⟨C.block,C.off + 11,none⟩))) (.map ((some u)))).run Tryz.prog r=.ok () ag)∧
 K (.tuple #[]) ag)) a6) aj)
def sk36:Sk:=(.seq .leaf (.seq .leaf (.seq .leaf (.seq .leaf (.seq (.seq .leaf (.block (.loop [50] [(.int .i64)] [4,6,7,8,50,51,52,53,54,55,56,57,58,59,60,61,62,63,64,65,66,67,68,69,70,71,72,73,74,75,76,77,78,79,80,81,82,83,84,85,86,87,88,89,90,91,92,93,94,95,96,97,98] (.seq .leaf (.seq .leaf (.seq (.block (.seq .leaf (.seq .leaf (.block (.loop [56] [(.int .i64)] [6,7,8,56,57,58,59,60,61,62,63,64,65,66,67,68,69,70,71,72,73,74,75,76,77,78,79,80,81,82,83,84,85,86,87,88,89,90,91,92,93,94,95,96,97] .leaf))))) .leaf)))))) .leaf)))))
theorem call36 (a:Option Addr) (K:Value→World→Prop) (w:World) (h:B36 a K w):Gets Tryz.prog 36 #[.pointer a] w K:=cq (sk:=sk36) Tryz.func36 (by kernel_rfl) (by kernel_rfl) (by kernel_rfl) h
def B40 (d:Option Addr) (K:Value→World→Prop) (w:World):Prop:=
 Drw w fun a o=>
 NilP d fun c=>
 ∃ i:Option Addr,(At a ⟨c.block,c.off + 3,none⟩ [.pointer i])∧
 NilP d fun b=>
 ∃ e:Option Addr,(At a ⟨b.block,b.off + 3,none⟩ [.pointer e])∧
 Calls Tryz.prog 39 #[.pointer e] o fun l j=>
 ∃ f:Int,(l=.returned (.int .i64 f))∧
 (a j)∧
 Calls Tryz.prog 100 #[.pointer i,.int .i64 f] j fun m k=>
 ∃ g:Int,∃ n:Bool,(m=.returned (.tuple #[.int .i64 g,.bool n]))∧
 (a k)∧
 K (.int .i64 g) k
theorem call40 (a:Option Addr) (K:Value→World→Prop) (w:World) (h:B40 a K w):Gets Tryz.prog 40 #[.pointer a] w K:=cq (sk:=.leaf) Tryz.func40 (by kernel_rfl) (by kernel_rfl) (by kernel_rfl) h
def B37 (b:Option Addr) (aj:Bool) (k:Sl) (K:Value→World→Prop) (w:World):Prop:=
 ∃ (j:Int→World→Prop) (aa:Int→World→Nat),(j 0 w)∧∀ (au:Env) (e:Int) (i:World),j e i→
 Br (decide (e<(↑k.len:Int)))
 (Rng e k.len (NilP k.a fun ab=>
 ∃ x:Int,∃ y:Int,∃ z:Int,∃ A:Int,∃ C:Int,∃ D:Int,∃ E:Bool,(At (fun l=>l=i) (Addr.add ab (mulS e.toNat 7)) [.int .i64 x,.int .i64 y,.int .i64 z,.int .i64 A,.int .i64 C,.int .i64 D,.bool E])∧
 New (.cells #[.int .i64 0,.int .i64 0,.int .i64 0,.int .i64 0,.int .i64 0,.int .i64 0,.bool false] 161 (0,0)) (fun d aq=>
 ∃ X:World,((Instr.storeAt 161 (.pointer ((some ⟨d,0,none⟩))) (.agg #[.int .i64 x,.int .i64 y,.int .i64 z,.int .i64 A,.int .i64 C,.int .i64 D,.bool E])).run Tryz.prog aq=.ok () X)∧
 Drw X fun c ar=>
 NilP b fun p=>
 ∃ f:Sl,(At c ⟨p.block,p.off + 16 + 10,none⟩ [.slice f.a f.len f.cap])∧
 ∃ F:Int,(At c ⟨d,0,none⟩ [.int .i64 F])∧
 ∃ G:Int,(At c ⟨d,0 + 1,none⟩ [.int .i64 G])∧
 ∃ H:Int,(At c ⟨d,0 + 2,none⟩ [.int .i64 H])∧
 ∃ I:Int,(At c ⟨d,0 + 3,none⟩ [.int .i64 I])∧
 ∃ J:Int,(At c ⟨d,0 + 4,none⟩ [.int .i64 J])∧
 ∃ L:Int,(At c ⟨d,0 + 5,none⟩ [.int .i64 L])∧
 ∃ M:Bool,(At c ⟨d,0 + 6,none⟩ [.bool M])∧
 New (.cells #[.int .i64 F,.int .i64 G,.int .i64 H,.int .i64 I,.int .i64 J,.int .i64 L,.bool M,.int .i64 0,.int .i64 0,.int .i64 0,.slice none 0 0,.int .i64 0,.int .i64 0,.slice none 0 0,.slice none 0 0,.slice none 0 0] 71 (0,0)) (fun ad Y=>
 (c Y)∧
 ∃ m:World,∃ g:Sl,((Builtin.append_ #[41,41] 41 #[.slice f.a f.len f.cap,.slice ((some ⟨ad,0,none⟩)) 1 1]).run Tryz.prog Y=.ok (.slice g.a g.len g.cap) m)∧
 (c m)∧
 NilP b fun q=>
 ∃ n:World,((Instr.storeAt 41 (.pointer ((some ⟨q.block,q.off + 16 + 10,none⟩))) (.slice g.a g.len g.cap)).run Tryz.prog m=.ok () n)∧
 (j (IntKind.i64.wrap (e + 1)) n)∧aa (IntKind.i64.wrap (e + 1)) n<aa e i) ar) i))
 (NilP b fun ac=>
 ∃ N:Option Addr,(At (fun l=>l=i) (Addr.add ac 0) [.pointer N])∧
 Calls Tryz.prog 16 #[.pointer N] i fun ae o=>
 ∃ O:Int,(ae=.returned (.int .i64 O))∧
 Br (!O==3)
 (NilP b fun r=>
 ∃ Z:World,((Instr.storeAt 55 (.pointer ((some ⟨r.block,r.off + 11,none⟩))) (.map none)).run Tryz.prog o=.ok () Z)∧
 NilP b fun s=>
 ∃ Q:World,((Instr.storeAt 56 (.pointer ((some ⟨s.block,s.off + 12,none⟩))) (.slice none 0 0)).run Tryz.prog Z=.ok () Q)∧
 K (.tuple #[]) Q)
 (Br (!aj)
 (NilP b fun t=>
 ∃ T:World,((Instr.storeAt 55 (.pointer ((some ⟨t.block,t.off + 11,none⟩))) (.map none)).run Tryz.prog o=.ok () T)∧
 NilP b fun u=>
 ∃ U:World,((Instr.storeAt 56 (.pointer ((some ⟨u.block,u.off + 12,none⟩))) (.slice none 0 0)).run Tryz.prog T=.ok () U)∧
 NilP b fun v=>
 ∃ V:World,((Instr.storeAt 3 (.pointer ((some ⟨v.block,v.off + 13,none⟩))) (.int .i64 0)).run Tryz.prog U=.ok () V)∧
 Calls Tryz.prog 36 #[.pointer b] V fun af am=>
 (af=.returned (.tuple #[]))∧
 Calls Tryz.prog 92 #[.pointer b,.int .i64 0,.slice none 0 0] am fun ag an=>
 ∃ ak:Int,∃ al:Int,(ag=.returned (.tuple #[.int .i64 ak,.int .i64 al]))∧
 Calls Tryz.prog 93 #[.pointer b] an fun ah ao=>
 (ah=.returned (.tuple #[]))∧
 Calls Tryz.prog 94 #[.pointer b] ao fun ai ap=>
 (ai=.returned (.tuple #[]))∧
 K (.tuple #[]) ap)
 (K (.tuple #[]) o)))
def sk37:Sk:=(.seq (.seq .leaf (.block (.loop [11] [(.int .i64)] [7,11,12,13,14,15,16,17,18,19,20,21,22,23,24,25,26,27,28,29,30,31,32,33,34,35,36,37,38,39,40,41] .leaf))) .leaf)
theorem call37 (d:Option Addr) (c:Bool) (b:Sl) (K:Value→World→Prop) (w:World) (h:B37 d c b K w):Gets Tryz.prog 37 #[.pointer d,.bool c,.slice b.a b.len b.cap] w K:=cq (sk:=sk37) Tryz.func37 (by kernel_rfl) (by kernel_rfl) (by kernel_rfl) h
def B92 (c:Option Addr) (x:Int) (e:Sl) (K:Value→World→Prop) (w:World):Prop:=
 NilP c fun i=>
 ∃ k:Option Addr,(At (fun z=>z=w) ⟨i.block,i.off + 3,none⟩ [.pointer k])∧
 Calls Tryz.prog 39 #[.pointer k] w fun s A=>
 ∃ d:Int,(s=.returned (.int .i64 d))∧
 Drw A fun b C=>
 NilP c fun j=>
 ∃ l:Option Addr,(At b ⟨j.block,j.off + 3,none⟩ [.pointer l])∧
 NilP c fun q=>
 ∃ m:Option Addr,(At b (Addr.add q 0) [.pointer m])∧
 Calls Tryz.prog 23 #[.pointer m] C fun t o=>
 ∃ n:Int,∃ y:Int,(t=.returned (.agg #[.int .i64 n,.int .i64 y]))∧
 (b o)∧
 New (.cells #[.int .i64 (IntKind.i64.wrap (d + 1)),.int .i64 n,.int .i64 x,.slice e.a e.len e.cap] 52 (0,0)) (fun r p=>
 (b p)∧
 Calls Tryz.prog 34 #[.pointer l,.slice ((some ⟨r,0,none⟩)) 1 1] p fun u g=>
 ∃ f:Int,(u=.returned (.int .i64 f))∧
 (b g)∧
 Br (f !=0)
 (K (.tuple #[.int .i64 0,.int .i64 f]) g)
 (Calls Tryz.prog 159 #[.pointer c,.int .i64 (IntKind.i64.wrap (d + 1))] g fun v D=>
 (v=.returned (.tuple #[]))∧
 K (.tuple #[.int .i64 (IntKind.i64.wrap (d + 1)),.int .i64 0]) D)) o
theorem call92 (d:Option Addr) (c:Int) (b:Sl) (K:Value→World→Prop) (w:World) (h:B92 d c b K w):Gets Tryz.prog 92 #[.pointer d,.int .i64 c,.slice b.a b.len b.cap] w K:=cq (sk:=.leaf) Tryz.func92 (by kernel_rfl) (by kernel_rfl) (by kernel_rfl) h
def B159 (a:Option Addr) (b:Int) (K:Value→World→Prop) (w:World):Prop:=
 NilP a fun g=>
 ∃ j:Int,(At (fun c=>c=w) ⟨g.block,g.off + 16 + 9,none⟩ [.int .i64 j])∧
 Br (j==0)
 (NilP a fun e=>
 ∃ k:World,((Instr.storeAt 3 (.pointer ((some ⟨e.block,e.off + 16 + 9,none⟩))) (.int .i64 b)).run Tryz.prog w=.ok () k)∧
 Calls Tryz.prog 36 #[.pointer a] k fun m p=>
 (m=.returned (.tuple #[]))∧
 K (.tuple #[]) p)
 (NilP a fun d=>
 ∃ i:Int,(At (fun c=>c=w) ⟨d.block,d.off + 16 + 9,none⟩ [.int .i64 i])∧
 Br (decide (b<i))
 (NilP a fun f=>
 ∃ l:World,((Instr.storeAt 3 (.pointer ((some ⟨f.block,f.off + 16 + 9,none⟩))) (.int .i64 b)).run Tryz.prog w=.ok () l)∧
 Calls Tryz.prog 36 #[.pointer a] l fun n q=>
 (n=.returned (.tuple #[]))∧
 K (.tuple #[]) q)
 (Calls Tryz.prog 36 #[.pointer a] w fun o r=>
 (o=.returned (.tuple #[]))∧
 K (.tuple #[]) r))
theorem call159 (b:Option Addr) (a:Int) (K:Value→World→Prop) (w:World) (h:B159 b a K w):Gets Tryz.prog 159 #[.pointer b,.int .i64 a] w K:=cq (sk:=.leaf) Tryz.func159 (by kernel_rfl) (by kernel_rfl) (by kernel_rfl) h
def B93 (c:Option Addr) (K:Value→World→Prop) (w:World):Prop:=
 New (.cells #[.int .i64 0,.int .i64 0,.int .i64 0,.int .i64 0,.int .i64 0,.int .i64 0,.int .i64 0,.int .i64 0,.int .i64 0,.int .i64 0,.int .i64 0,.int .i64 0,.int .i64 0,.int .i64 0,.int .i64 0,.int .i64 0] 194 (0,0)) (fun m ao=>
 Drw ao fun l au=>
 NilP c fun E=>
 ∃ n:Int,(At l ⟨E.block,E.off + 1,none⟩ [.int .i64 n])∧
 NilP c fun x=>
 ∃ F:Option Addr,(At l ⟨x.block,x.off + 3,none⟩ [.pointer F])∧
 Calls Tryz.prog 39 #[.pointer F] au fun ac X=>
 ∃ G:Int,(ac=.returned (.int .i64 G))∧
 (l X)∧
 Rng n 16 (∃ u:World,((Instr.storeAt 3 (.pointer ((some (Addr.add ⟨m,0,none⟩ n.toNat)))) (.int .i64 G)).run Tryz.prog X=.ok () u)∧
 NilP c fun y=>
 ∃ H:Option Nat,(At (fun b=>b=u) ⟨y.block,y.off + 11,none⟩ [.map H])∧
 ∃ Y:World,∃ g:Option Addr,((Instr.range 55 (.map H)).run Tryz.prog u=.ok (.pointer g) Y)∧
 ∃ (k:World→Prop) (aa:World→Nat),(k  Y)∧∀ (aw:Env)  (j:World),k  j→
 ∃ f:World,(((Instr.next (.pointer g) false 0).run Tryz.prog j=.ok (.tuple #[.bool false]) f)∧
 Drw f fun v av=>
 NilP c fun z=>
 ∃ d:Sl,∃ e:Sl,(At v ⟨z.block,z.off + 9,none⟩ [.slice d.a d.len d.cap,.slice e.a e.len e.cap])∧
 ∃ p:List Value,(p.length=16)∧
 (At v ⟨m,0,none⟩ p)∧
 Calls Tryz.prog 160 #[.agg #[.slice d.a d.len d.cap,.slice e.a e.len e.cap],.agg p.toArray] av fun ad Z=>
 ∃ i:Int,(ad=.returned (.int .i64 i))∧
 NilP c fun A=>
 ∃ L:Option Addr,(At (fun b=>b=Z) ⟨A.block,A.off + 3,none⟩ [.pointer L])∧
 Calls Tryz.prog 100 #[.pointer L,.int .i64 i] Z fun ae q=>
 ∃ M:Int,∃ N:Bool,(ae=.returned (.tuple #[.int .i64 M,.bool N]))∧
 Br (!N)
 (K (.tuple #[]) q)
 (NilP c fun ab=>
 ∃ O:Option Addr,(At (fun b=>b=q) (Addr.add ab 0) [.pointer O])∧
 Calls Tryz.prog 23 #[.pointer O] q fun af r=>
 ∃ Q:Int,∃ ak:Int,(af=.returned (.agg #[.int .i64 Q,.int .i64 ak]))∧
 Br (M !=Q)
 (K (.tuple #[]) r)
 (NilP c fun C=>
 ∃ T:Option Addr,(At (fun b=>b=r) ⟨C.block,C.off + 3,none⟩ [.pointer T])∧
 Calls Tryz.prog 50 #[.pointer T] r fun ag s=>
 ∃ U:Int,(ag=.returned (.int .i64 U))∧
 Br (decide (i≤U))
 (K (.tuple #[]) s)
 (NilP c fun D=>
 ∃ V:Option Addr,(At (fun b=>b=s) ⟨D.block,D.off + 3,none⟩ [.pointer V])∧
 Calls Tryz.prog 161 #[.pointer V,.int .i64 i] s fun ah ap=>
 ∃ al:Int,(ah=.returned (.int .i64 al))∧
 Calls Tryz.prog 52 #[.pointer c] ap fun ai aq=>
 (ai=.returned (.tuple #[]))∧
 K (.tuple #[]) aq))))∨
 (∃ am:Value,∃ an:Value,((Instr.next (.pointer g) false 0).run Tryz.prog j=.ok (.tuple #[.bool true,am,an]) f)∧
 ∃ o:Int,∃ I:Option Addr,(∀ b,(fun b=>b=f) b→((Instr.entry (.pointer g))).run Tryz.prog b=.ok (.tuple #[.int .i64 o,.pointer I]) b)∧
 Calls Tryz.prog 106 #[.pointer I] f fun aj ar=>
 ∃ J:Int,(aj=.returned (.int .i64 J))∧
 Rng o 16 (∃ t:World,((Instr.storeAt 3 (.pointer ((some (Addr.add ⟨m,0,none⟩ o.toNat)))) (.int .i64 J)).run Tryz.prog ar=.ok () t)∧
 (k  t)∧aa  t<aa  j)))) w
def sk93:Sk:=(.seq .leaf (.seq .leaf (.seq (.seq .leaf (.block (.loop [] [] [3,4,23,24,25,26,27,28,29,30,31] .leaf))) .leaf)))
theorem call93 (a:Option Addr) (K:Value→World→Prop) (w:World) (h:B93 a K w):Gets Tryz.prog 93 #[.pointer a] w K:=cq (sk:=sk93) Tryz.func93 (by kernel_rfl) (by kernel_rfl) (by kernel_rfl) h
def B52 (f:Option Addr) (K:Value→World→Prop) (w:World):Prop:=
 Calls Tryz.prog 41 #[.pointer f] w fun l o=>
 ∃ c:Sl,(l=.returned (.slice c.a c.len c.cap))∧
 ∃ (e:Int→World→Prop) (j:Int→World→Nat),(e 0 o)∧∀ (p:Env) (b:Int) (d:World),e b d→
 Br (decide (b<(↑c.len:Int)))
 (Rng b c.len (NilP c.a fun k=>
 ∃ g:Int,(At (fun n=>n=d) (Addr.add k b.toNat) [.int .i64 g])∧
 Calls Tryz.prog 45 #[.pointer f,.int .i64 g] d fun m i=>
 (m=.returned (.tuple #[]))∧
 (e (IntKind.i64.wrap (b + 1)) i)∧j (IntKind.i64.wrap (b + 1)) i<j b d))
 (K (.tuple #[]) d)
def sk52:Sk:=(.seq .leaf (.block (.loop [7] [(.int .i64)] [3,7,8,9,10,11,12,13,14] .leaf)))
theorem call52 (a:Option Addr) (K:Value→World→Prop) (w:World) (h:B52 a K w):Gets Tryz.prog 52 #[.pointer a] w K:=cq (sk:=sk52) Tryz.func52 (by kernel_rfl) (by kernel_rfl) (by kernel_rfl) h
def B45 (c:Option Addr) (k:Int) (K:Value→World→Prop) (w:World):Prop:=
 Drw w fun b f=>
 NilP c fun j=>
 ∃ o:Option Nat,(At (fun a=>a=f) ⟨j.block,j.off + 11,none⟩ [.map o])∧
 ∃ l:Option Addr,(∀ a,(fun a=>a=f) a→((Instr.lookup 55 (.map o) (.int .i64 k) false)).run Tryz.prog a=.ok (.pointer l) a)∧
 NilP c fun g=>
 ∃ m:Option Addr,(At b ⟨g.block,g.off + 3,none⟩ [.pointer m])∧
 NilP c fun i=>
 ∃ n:Int,(At b ⟨i.block,i.off + 13,none⟩ [.int .i64 n])∧
 Calls Tryz.prog 106 #[.pointer l] f fun r p=>
 ∃ d:Int,(r=.returned (.int .i64 d))∧
 (b p)∧
 Calls Tryz.prog 50 #[.pointer m] p fun s q=>
 ∃ e:Int,(s=.returned (.int .i64 e))∧
 (b q)∧
 Calls Tryz.prog 105 #[.pointer c,.agg #[.int .i64 7,.int .i64 0,.int .i64 k,.int .i64 0,.int .i64 0,.int .i64 0,.bool false,.int .i64 (if e<d then e else d),.int .i64 0,.int .i64 n,.slice none 0 0,.int .i64 0,.int .i64 0,.slice none 0 0,.slice none 0 0,.slice none 0 0]] q fun t u=>
 (t=.returned (.tuple #[]))∧
 K (.tuple #[]) u
def sk45:Sk:=(.cond .leaf .leaf)
theorem call45 (a:Option Addr) (b:Int) (K:Value→World→Prop) (w:World) (h:B45 a b K w):Gets Tryz.prog 45 #[.pointer a,.int .i64 b] w K:=cq (sk:=sk45) Tryz.func45 (by kernel_rfl) (by kernel_rfl) (by kernel_rfl) h
def B105 (k:Option Addr) (Y:Int) (Z:Int) (ac:Int) (ad:Int) (ae:Int) (af:Int) (ag:Bool) (ah:Int) (ai:Int) (aj:Int) (m:Sl) (aa:Int) (ab:Int) (n:Sl) (o:Sl) (p:Sl) (K:Value→World→Prop) (w:World):Prop:=
 New (.cells #[.int .i64 Y,.int .i64 Z,.int .i64 ac,.int .i64 ad,.int .i64 ae,.int .i64 af,.bool ag,.int .i64 ah,.int .i64 ai,.int .i64 aj,.slice m.a m.len m.cap,.int .i64 aa,.int .i64 ab,.slice n.a n.len n.cap,.slice o.a o.len o.cap,.slice p.a p.len p.cap] 71 (0,0)) (fun l al=>
 Drw al fun i am=>
 NilP k fun u=>
 ∃ M:Int,(At i ⟨u.block,u.off + 1,none⟩ [.int .i64 M])∧
 NilP k fun U=>
 ∃ v:Option Addr,(At i (Addr.add U 0) [.pointer v])∧
 Calls Tryz.prog 23 #[.pointer v] am fun X N=>
 ∃ x:Int,∃ ak:Int,(X=.returned (.agg #[.int .i64 x,.int .i64 ak]))∧
 (i N)∧
 ∃ q:World,((Instr.storeAt 3 (.pointer ((some ⟨l,0 + 1,none⟩))) (.int .i64 M)).run Tryz.prog N=.ok () q)∧
 (i q)∧
 ∃ O:World,((Instr.storeAt 3 (.pointer ((some ⟨l,0 + 3,none⟩))) (.int .i64 x)).run Tryz.prog q=.ok () O)∧
 Drw O fun j an=>
 NilP k fun s=>
 ∃ b:Sl,(At j ⟨s.block,s.off + 16 + 10,none⟩ [.slice b.a b.len b.cap])∧
 ∃ y:Int,∃ z:Int,∃ D:Int,∃ E:Int,∃ F:Int,∃ G:Int,∃ H:Bool,∃ I:Int,∃ J:Int,∃ L:Int,∃ c:Sl,∃ A:Int,∃ C:Int,∃ d:Sl,∃ e:Sl,∃ f:Sl,(At j ⟨l,0,none⟩ [.int .i64 y,.int .i64 z,.int .i64 D,.int .i64 E,.int .i64 F,.int .i64 G,.bool H,.int .i64 I,.int .i64 J,.int .i64 L,.slice c.a c.len c.cap,.int .i64 A,.int .i64 C,.slice d.a d.len d.cap,.slice e.a e.len e.cap,.slice f.a f.len f.cap])∧
 New (.cells #[.int .i64 y,.int .i64 z,.int .i64 D,.int .i64 E,.int .i64 F,.int .i64 G,.bool H,.int .i64 I,.int .i64 J,.int .i64 L,.slice c.a c.len c.cap,.int .i64 A,.int .i64 C,.slice d.a d.len d.cap,.slice e.a e.len e.cap,.slice f.a f.len f.cap] 71 (0,0)) (fun V Q=>
 (j Q)∧
 ∃ r:World,∃ g:Sl,((Builtin.append_ #[41,41] 41 #[.slice b.a b.len b.cap,.slice ((some ⟨V,0,none⟩)) 1 1]).run Tryz.prog Q=.ok (.slice g.a g.len g.cap) r)∧
 (j r)∧
 NilP k fun t=>
 ∃ T:World,((Instr.storeAt 41 (.pointer ((some ⟨t.block,t.off + 16 + 10,none⟩))) (.slice g.a g.len g.cap)).run Tryz.prog r=.ok () T)∧
 K (.tuple #[]) T) an) w
theorem call105 (s:Option Addr) (f:Int) (g:Int) (k:Int) (l:Int) (m:Int) (n:Int) (o:Bool) (p:Int) (q:Int) (r:Int) (b:Sl) (i:Int) (j:Int) (c:Sl) (d:Sl) (e:Sl) (K:Value→World→Prop) (w:World) (h:B105 s f g k l m n o p q r b i j c d e K w):Gets Tryz.prog 105 #[.pointer s,.agg #[.int .i64 f,.int .i64 g,.int .i64 k,.int .i64 l,.int .i64 m,.int .i64 n,.bool o,.int .i64 p,.int .i64 q,.int .i64 r,.slice b.a b.len b.cap,.int .i64 i,.int .i64 j,.slice c.a c.len c.cap,.slice d.a d.len d.cap,.slice e.a e.len e.cap]] w K:=cq (sk:=.leaf) Tryz.func105 (by kernel_rfl) (by kernel_rfl) (by kernel_rfl) h
def B46 (c:Option Addr) (t:Int) (K:Value→World→Prop) (w:World):Prop:=
 NilP c fun C=>
 ∃ M:Option Nat,(At (fun b=>b=w) ⟨C.block,C.off + 11,none⟩ [.map M])∧
 ∃ e:Option Addr,(∀ b,(fun b=>b=w) b→((Instr.lookup 55 (.map M) (.int .i64 t) false)).run Tryz.prog b=.ok (.pointer e) b)∧
 ∃ (o:Bool→World→Prop) (ar:Bool→World→Nat),(o true w)∧∀ (bd:Env) (s:Bool) (u:World),o s u→
 ∃ (A:World→Prop),(Drw u fun q al=>
 Br s
 (Calls Tryz.prog 107 #[.pointer e] al fun au y=>
 ∃ N:Bool,(au=.returned (.bool N))∧
 (q y)∧
 Br N
 (NilP c fun D=>
 ∃ Q:Option Addr,(At q ⟨D.block,D.off + 3,none⟩ [.pointer Q])∧
 Calls Tryz.prog 108 #[.pointer e] y fun av am=>
 ∃ O:Int,(av=.returned (.int .i64 O))∧
 (q am)∧
 Calls Tryz.prog 39 #[.pointer Q] am fun az an=>
 ∃ T:Int,(az=.returned (.int .i64 T))∧
 Br (decide (O≤IntKind.i64.wrap (T + 1)))
 (A  an)
 (K (.tuple #[]) an))
 (K (.tuple #[]) y))
 (K (.tuple #[]) al))∧
 ∀ (be:Env)  (ao:World),A  ao→
 Calls Tryz.prog 108 #[.pointer e] ao fun a0 ap=>
 ∃ m:Int,(a0=.returned (.int .i64 m))∧
 NilP c fun E=>
 ∃ U:Option Addr,(At (fun b=>b=ap) ⟨E.block,E.off + 3,none⟩ [.pointer U])∧
 Calls Tryz.prog 100 #[.pointer U,.int .i64 (IntKind.i64.wrap (m - 1))] ap fun a1 z=>
 ∃ V:Int,∃ X:Bool,(a1=.returned (.tuple #[.int .i64 V,.bool X]))∧
 Br (!X)
 (Drw z fun r aq=>
 NilP c fun F=>
 ∃ Y:Int,(At r ⟨F.block,F.off + 4,none⟩ [.int .i64 Y])∧
 NilP c fun G=>
 ∃ Z:Int,(At r ⟨G.block,G.off + 4 + 1,none⟩ [.int .i64 Z])∧
 NilP c fun H=>
 ∃ aa:Int,∃ ab:Int,∃ f:Sl,∃ g:Sl,∃ i:Sl,(At (fun b=>b=aq) ⟨H.block,H.off + 4,none⟩ [.int .i64 aa,.int .i64 ab,.slice f.a f.len f.cap,.slice g.a g.len g.cap,.slice i.a i.len i.cap])∧
 Calls Tryz.prog 35 #[.agg #[.int .i64 aa,.int .i64 ab,.slice f.a f.len f.cap,.slice g.a g.len g.cap,.slice i.a i.len i.cap]] aq fun a2 ai=>
 ∃ ac:Int,∃ ad:Int,∃ j:Sl,∃ k:Sl,∃ l:Sl,(a2=.returned (.agg #[.int .i64 ac,.int .i64 ad,.slice j.a j.len j.cap,.slice k.a k.len k.cap,.slice l.a l.len l.cap]))∧
 (r ai)∧
 Calls Tryz.prog 105 #[.pointer c,.agg #[.int .i64 9,.int .i64 0,.int .i64 t,.int .i64 0,.int .i64 Y,.int .i64 Z,.bool false,.int .i64 0,.int .i64 0,.int .i64 0,.slice none 0 0,.int .i64 ac,.int .i64 ad,.slice j.a j.len j.cap,.slice k.a k.len k.cap,.slice l.a l.len l.cap]] ai fun a3 aj=>
 (a3=.returned (.tuple #[]))∧
 NilP c fun I=>
 ∃ ae:Int,(At (fun b=>b=aj) ⟨I.block,I.off + 4,none⟩ [.int .i64 ae])∧
 Calls Tryz.prog 109 #[.pointer e,.int .i64 ae] aj fun a4 a9=>
 ∃ a8:Int,(a4=.returned (.int .i64 a8))∧
 K (.tuple #[]) a9)
 (NilP c fun J=>
 ∃ af:Option Addr,(At (fun b=>b=z) ⟨J.block,J.off + 3,none⟩ [.pointer af])∧
 Calls Tryz.prog 53 #[.pointer af,.int .i64 (IntKind.i64.wrap (IntKind.i64.wrap (m - 1) + 1)),.int .i64 8] z fun a5 ba=>
 ∃ d:Sl,(a5=.returned (.slice d.a d.len d.cap))∧
 Calls Tryz.prog 43 #[.pointer e] ba fun a6 v=>
 ∃ n:Int,(a6=.returned (.int .i64 n))∧
 ∃ (p:World→Prop),(Br (n==1)
 (Br ((↑d.len:Int)==0)
 (K (.tuple #[]) v)
 (p  v))
 (p  v))∧
 ∀ (bf:Env)  (x:World),p  x→
 NilP c fun L=>
 ∃ ag:Option Addr,(At (fun b=>b=x) ⟨L.block,L.off + 3,none⟩ [.pointer ag])∧
 Calls Tryz.prog 50 #[.pointer ag] x fun aw bb=>
 ∃ ah:Int,(aw=.returned (.int .i64 ah))∧
 Calls Tryz.prog 105 #[.pointer c,.agg #[.int .i64 5,.int .i64 0,.int .i64 t,.int .i64 0,.int .i64 (IntKind.i64.wrap (m - 1)),.int .i64 V,.bool false,.int .i64 ah,.int .i64 0,.int .i64 0,.slice d.a d.len d.cap,.int .i64 0,.int .i64 0,.slice none 0 0,.slice none 0 0,.slice none 0 0]] bb fun ax bc=>
 (ax=.returned (.tuple #[]))∧
 Calls Tryz.prog 110 #[.pointer e,.int .i64 (IntKind.i64.wrap (IntKind.i64.wrap (m - 1) + (↑d.len:Int)))] bc fun ay ak=>
 ∃ a7:Int,(ay=.returned (.int .i64 a7))∧
 (o (n==1) ak)∧ar (n==1) ak<ar s u)
def sk46:Sk:=(.seq .leaf (.seq .leaf (.block (.loop [5] [.bool] [5,6,7,8,9,16,17,18,19,20,21,22,23,24,25,26,27,28,29,30,31,32,33,34,35,36,37,38,39,40,41,42,43,44,45,46,47,48,49,50,51,52,53,54,55,56,57,58,59,60,61,62,63,64,65,66,67,68,69,70,71,72,73,74,75,76,77,78,79,80,81,82,83,84,85,86,87,88,89,90,91,92,93,94,95,96,97,98,99,100,101,102,103,104,105] (.cut [] [] [16,17,18,19,20,21,22,23,24,25,26,27,28,29,30,31] (.seq (.cond .leaf .leaf) .leaf) (.block (.seq .leaf (.seq .leaf (.seq (.seq .leaf (.cond (.seq (.cond .leaf .leaf) .leaf) .leaf)) (.seq .leaf (.seq .leaf (.cut [] [] [82,83,84,85,86,87] .leaf .leaf))))))))))))
theorem call46 (a:Option Addr) (b:Int) (K:Value→World→Prop) (w:World) (h:B46 a b K w):Gets Tryz.prog 46 #[.pointer a,.int .i64 b] w K:=cq (sk:=sk46) Tryz.func46 (by kernel_rfl) (by kernel_rfl) (by kernel_rfl) h
def B41 (i:Option Addr) (K:Value→World→Prop) (w:World):Prop:=
 NilP i fun c=>
 ∃ d:Option Nat,(At (fun j=>j=w) ⟨c.block,c.off + 11,none⟩ [.map d])∧
 Calls Tryz.prog 102 #[.map d] w fun f k=>
 ∃ e:Value,(f=.returned (e))∧
 Calls Tryz.prog 101 #[e] k fun g l=>
 ∃ b:Sl,(g=.returned (.slice b.a b.len b.cap))∧
 K (.slice b.a b.len b.cap) l
theorem call41 (a:Option Addr) (K:Value→World→Prop) (w:World) (h:B41 a K w):Gets Tryz.prog 41 #[.pointer a] w K:=cq (sk:=.leaf) Tryz.func41 (by kernel_rfl) (by kernel_rfl) (by kernel_rfl) h
def B94 (f:Option Addr) (K:Value→World→Prop) (w:World):Prop:=
 Calls Tryz.prog 41 #[.pointer f] w fun l o=>
 ∃ c:Sl,(l=.returned (.slice c.a c.len c.cap))∧
 ∃ (e:Int→World→Prop) (j:Int→World→Nat),(e 0 o)∧∀ (p:Env) (b:Int) (d:World),e b d→
 Br (decide (b<(↑c.len:Int)))
 (Rng b c.len (NilP c.a fun k=>
 ∃ g:Int,(At (fun n=>n=d) (Addr.add k b.toNat) [.int .i64 g])∧
 Calls Tryz.prog 46 #[.pointer f,.int .i64 g] d fun m i=>
 (m=.returned (.tuple #[]))∧
 (e (IntKind.i64.wrap (b + 1)) i)∧j (IntKind.i64.wrap (b + 1)) i<j b d))
 (K (.tuple #[]) d)
def sk94:Sk:=(.seq .leaf (.block (.loop [7] [(.int .i64)] [3,7,8,9,10,11,12,13,14] .leaf)))
theorem call94 (a:Option Addr) (K:Value→World→Prop) (w:World) (h:B94 a K w):Gets Tryz.prog 94 #[.pointer a] w K:=cq (sk:=sk94) Tryz.func94 (by kernel_rfl) (by kernel_rfl) (by kernel_rfl) h
def B49 (b:Option Addr) (K:Value→World→Prop) (w:World):Prop:=
 Drw w fun a A=>
 NilP b fun g=>
 ∃ q:Option Addr,(At a ⟨g.block,g.off + 3,none⟩ [.pointer q])∧
 NilP b fun f=>
 ∃ i:Option Addr,(At a ⟨f.block,f.off + 3,none⟩ [.pointer i])∧
 Calls Tryz.prog 50 #[.pointer i] A fun u r=>
 ∃ j:Int,(u=.returned (.int .i64 j))∧
 (a r)∧
 Calls Tryz.prog 100 #[.pointer q,.int .i64 j] r fun v c=>
 ∃ k:Int,∃ l:Bool,(v=.returned (.tuple #[.int .i64 k,.bool l]))∧
 (a c)∧
 Br l
 (NilP b fun s=>
 ∃ m:Option Addr,(At (fun d=>d=c) (Addr.add s 0) [.pointer m])∧
 Calls Tryz.prog 23 #[.pointer m] c fun x e=>
 ∃ n:Int,∃ z:Int,(x=.returned (.agg #[.int .i64 n,.int .i64 z]))∧
 Br (k==n)
 (NilP b fun t=>
 ∃ o:Option Addr,(At (fun d=>d=e) (Addr.add t 0) [.pointer o])∧
 Calls Tryz.prog 16 #[.pointer o] e fun y C=>
 ∃ p:Int,(y=.returned (.int .i64 p))∧
 K (.bool (p==3)) C)
 (K (.bool false) e))
 (K (.bool false) c)
theorem call49 (a:Option Addr) (K:Value→World→Prop) (w:World) (h:B49 a K w):Gets Tryz.prog 49 #[.pointer a] w K:=cq (sk:=.leaf) Tryz.func49 (by kernel_rfl) (by kernel_rfl) (by kernel_rfl) h
def B47 (c:Option Addr) (k:Int) (b:Sl) (K:Value→World→Prop) (w:World):Prop:=
 Calls Tryz.prog 92 #[.pointer c,.int .i64 k,.slice b.a b.len b.cap] w fun g f=>
 ∃ e:Int,∃ d:Int,(g=.returned (.tuple #[.int .i64 e,.int .i64 d]))∧
 Br (d !=0)
 (K (.tuple #[.int .i64 0,.int .i64 d]) f)
 (Calls Tryz.prog 93 #[.pointer c] f fun i l=>
 (i=.returned (.tuple #[]))∧
 Calls Tryz.prog 94 #[.pointer c] l fun j m=>
 (j=.returned (.tuple #[]))∧
 K (.tuple #[.int .i64 e,.int .i64 0]) m)
theorem call47 (d:Option Addr) (c:Int) (b:Sl) (K:Value→World→Prop) (w:World) (h:B47 d c b K w):Gets Tryz.prog 47 #[.pointer d,.int .i64 c,.slice b.a b.len b.cap] w K:=cq (sk:=.leaf) Tryz.func47 (by kernel_rfl) (by kernel_rfl) (by kernel_rfl) h
def B11 (e:Option Addr) (c:Sl) (K:Value→World→Prop) (w:World):Prop:=
 NilP e fun k=>
 ∃ f:Option Addr,(At (fun o=>o=w) (Addr.add k 0) [.pointer f])∧
 Calls Tryz.prog 16 #[.pointer f] w fun l d=>
 ∃ g:Int,(l=.returned (.int .i64 g))∧
 Br (g !=3)
 (K (.tuple #[.int .i64 0,.int .i64 7]) d)
 (Br (decide ((↑c.len:Int)>4096))
 (K (.tuple #[.int .i64 0,.int .i64 1]) d)
 (Calls Tryz.prog 48 #[.slice c.a c.len c.cap] d fun m p=>
 ∃ b:Sl,(m=.returned (.slice b.a b.len b.cap))∧
 Calls Tryz.prog 47 #[.pointer e,.int .i64 1,.slice b.a b.len b.cap] p fun n q=>
 ∃ i:Int,∃ j:Int,(n=.returned (.tuple #[.int .i64 i,.int .i64 j]))∧
 K (.tuple #[.int .i64 i,.int .i64 j]) q))
theorem call11 (c:Option Addr) (b:Sl) (K:Value→World→Prop) (w:World) (h:B11 c b K w):Gets Tryz.prog 11 #[.pointer c,.slice b.a b.len b.cap] w K:=cq (sk:=.leaf) Tryz.func11 (by kernel_rfl) (by kernel_rfl) (by kernel_rfl) h
def B12 (b:Option Addr) (al:Int) (K:Value→World→Prop) (w:World):Prop:=
 ∃ (u:World→Prop),(Calls Tryz.prog 49 #[.pointer b] w fun ah n=>
 ∃ Y:Bool,(ah=.returned (.bool Y))∧
 Br (!Y)
 (K (.int .i64 7) n)
 (NilP b fun v=>
 ∃ m:Sl,(At (fun c=>c=n) ⟨v.block,v.off + 12,none⟩ [.slice m.a m.len m.cap])∧
 Br (decide ((↑m.len:Int) ≥ 64))
 (K (.int .i64 7) n)
 (u  n)))∧
 ∀ (ar:Env)  (r:World),u  r→
 NilP b fun x=>
 ∃ J:Option Addr,(At (fun c=>c=r) ⟨x.block,x.off + 3,none⟩ [.pointer J])∧
 Calls Tryz.prog 50 #[.pointer J] r fun ai ao=>
 ∃ L:Int,(ai=.returned (.int .i64 L))∧
 New (.cells #[.int .i64 0,.int .i64 0] 50 (0,0)) (fun o ap=>
 ∃ s:World,((Instr.storeAt 50 (.pointer ((some ⟨o,0,none⟩))) (.agg #[.int .i64 al,.int .i64 L])).run Tryz.prog ap=.ok () s)∧
 NilP b fun y=>
 ∃ M:Int,(At (fun c=>c=s) ⟨y.block,y.off + 1,none⟩ [.int .i64 M])∧
 New (.cells #[.int .i64 M] 3 (0,0)) (fun I ad=>
 NilP b fun z=>
 ∃ d:Sl,∃ e:Sl,(At (fun c=>c=ad) ⟨z.block,z.off + 9,none⟩ [.slice d.a d.len d.cap,.slice e.a e.len e.cap])∧
 Calls Tryz.prog 51 #[.agg #[.slice d.a d.len d.cap,.slice e.a e.len e.cap],.slice ((some ⟨I,0,none⟩)) 1 1] ad fun aj t=>
 ∃ N:Bool,(aj=.returned (.bool N))∧
 Br N
 (Drw t fun l aq=>
 NilP b fun A=>
 ∃ f:Sl,(At l ⟨A.block,A.off + 16 + 11,none⟩ [.slice f.a f.len f.cap])∧
 ∃ O:Int,∃ Q:Int,(At l ⟨o,0,none⟩ [.int .i64 O,.int .i64 Q])∧
 New (.cells #[.int .i64 O,.int .i64 Q] 50 (0,0)) (fun af ae=>
 (l ae)∧
 ∃ p:World,∃ g:Sl,((Builtin.append_ #[42,42] 42 #[.slice f.a f.len f.cap,.slice ((some ⟨af,0,none⟩)) 1 1]).run Tryz.prog ae=.ok (.slice g.a g.len g.cap) p)∧
 (l p)∧
 NilP b fun C=>
 ∃ Z:World,((Instr.storeAt 42 (.pointer ((some ⟨C.block,C.off + 16 + 11,none⟩))) (.slice g.a g.len g.cap)).run Tryz.prog p=.ok () Z)∧
 K (.int .i64 0) Z) aq)
 (NilP b fun D=>
 ∃ T:Int,(At (fun c=>c=t) ⟨D.block,D.off + 13,none⟩ [.int .i64 T])∧
 NilP b fun E=>
 ∃ aa:World,((Instr.storeAt 3 (.pointer ((some ⟨E.block,E.off + 13,none⟩))) (.int .i64 (IntKind.i64.wrap (T + 1)))).run Tryz.prog t=.ok () aa)∧
 Drw aa fun k am=>
 NilP b fun F=>
 ∃ i:Sl,(At k ⟨F.block,F.off + 12,none⟩ [.slice i.a i.len i.cap])∧
 ∃ U:Int,∃ V:Int,(At k ⟨o,0,none⟩ [.int .i64 U,.int .i64 V])∧
 NilP b fun G=>
 ∃ X:Int,(At k ⟨G.block,G.off + 13,none⟩ [.int .i64 X])∧
 New (.cells #[.int .i64 U,.int .i64 V,.int .i64 X,.slice ((some ⟨I,0,none⟩)) 1 1] 112 (0,0)) (fun ag ab=>
 (k ab)∧
 ∃ q:World,∃ j:Sl,((Builtin.append_ #[56,56] 56 #[.slice i.a i.len i.cap,.slice ((some ⟨ag,0,none⟩)) 1 1]).run Tryz.prog ab=.ok (.slice j.a j.len j.cap) q)∧
 (k q)∧
 NilP b fun H=>
 ∃ ac:World,((Instr.storeAt 56 (.pointer ((some ⟨H.block,H.off + 12,none⟩))) (.slice j.a j.len j.cap)).run Tryz.prog q=.ok () ac)∧
 Calls Tryz.prog 52 #[.pointer b] ac fun ak an=>
 (ak=.returned (.tuple #[]))∧
 K (.int .i64 0) an) am)) s) ao
def sk12:Sk:=(.seq .leaf (.cut [] [] [4,7,8,9,10,11,12,13,14,15,16,17] .leaf .leaf))
theorem call12 (a:Option Addr) (b:Int) (K:Value→World→Prop) (w:World) (h:B12 a b K w):Gets Tryz.prog 12 #[.pointer a,.int .i64 b] w K:=cq (sk:=sk12) Tryz.func12 (by kernel_rfl) (by kernel_rfl) (by kernel_rfl) h
def B13 (e:Option Addr) (K:Value→World→Prop) (w:World):Prop:=
 New (.cells #[.bool false,.int .i64 0,.int .i64 0,.bool false,.int .i64 0,.int .i64 0,.slice none 0 0,.slice none 0 0,.slice none 0 0,.int .i64 0,.slice none 0 0,.slice none 0 0] 44 (0,0)) (fun d dt=>
 NilP e fun bh=>
 ∃ ct:Bool,∃ cu:Int,∃ cv:Int,∃ cw:Bool,∃ cx:Int,∃ cy:Int,∃ U:Sl,∃ V:Sl,∃ X:Sl,∃ cz:Int,∃ Q:Sl,∃ T:Sl,(At (fun b=>b=dt) ⟨bh.block,bh.off + 16,none⟩ [.bool ct,.int .i64 cu,.int .i64 cv,.bool cw,.int .i64 cx,.int .i64 cy,.slice U.a U.len U.cap,.slice V.a V.len V.cap,.slice X.a X.len X.cap,.int .i64 cz,.slice Q.a Q.len Q.cap,.slice T.a T.len T.cap])∧
 New (.cells #[.bool false,.int .i64 0,.int .i64 0,.bool false,.int .i64 0,.int .i64 0,.slice none 0 0,.slice none 0 0,.slice none 0 0,.int .i64 0,.slice none 0 0,.slice none 0 0] 44 (0,0)) (fun c d2=>
 ∃ du:World,((Instr.storeAt 44 (.pointer ((some ⟨c,0,none⟩))) (.agg #[.bool ct,.int .i64 cu,.int .i64 cv,.bool cw,.int .i64 cx,.int .i64 cy,.slice U.a U.len U.cap,.slice V.a V.len V.cap,.slice X.a X.len X.cap,.int .i64 cz,.slice Q.a Q.len Q.cap,.slice T.a T.len T.cap])).run Tryz.prog d2=.ok () du)∧
 NilP e fun bc=>
 ∃ bb:World,((Instr.storeAt 44 (.pointer ((some ⟨bc.block,bc.off + 16,none⟩))) (.agg #[.bool false,.int .i64 0,.int .i64 0,.bool false,.int .i64 0,.int .i64 0,.slice none 0 0,.slice none 0 0,.slice none 0 0,.int .i64 0,.slice none 0 0,.slice none 0 0])).run Tryz.prog du=.ok () bb)∧
 NilP e fun dw=>
 ∃ bi:Option Addr,(At (fun b=>b=bb) (Addr.add dw 0) [.pointer bi])∧
 Calls Tryz.prog 23 #[.pointer bi] bb fun dx d3=>
 ∃ bj:Int,∃ bk:Int,(dx=.returned (.agg #[.int .i64 bj,.int .i64 bk]))∧
 New (.cells #[.int .i64 0,.int .i64 0] 29 (0,0)) (fun ax d4=>
 ∃ dv:World,((Instr.storeAt 29 (.pointer ((some ⟨ax,0,none⟩))) (.agg #[.int .i64 bj,.int .i64 bk])).run Tryz.prog d4=.ok () dv)∧
 Drw dv fun ay av=>
 ∃ az:Int,∃ a0:Int,(At ay ⟨ax,0,none⟩ [.int .i64 az,.int .i64 a0])∧
 NilP e fun bd=>
 ∃ a1:Int,∃ a2:Int,(At ay ⟨bd.block,bd.off + 14,none⟩ [.int .i64 a1,.int .i64 a2])∧
 ∃ bl:Bool,(∀ b,ay b→((do eqGuard BinOp.neq 29 (Operand.tmp 18) (Operand.tmp 22) (.agg #[.int .i64 az,.int .i64 a0]) (.agg #[.int .i64 a1,.int .i64 a2]);binOp BinOp.neq 29 (.agg #[.int .i64 az,.int .i64 a0]) (.agg #[.int .i64 a1,.int .i64 a2]):Sem Value)).run Tryz.prog b=.ok (.bool bl) b)∧
 Br bl
 (Drw av fun aw d5=>
 ∃ bm:Int,∃ bn:Int,(At aw ⟨ax,0,none⟩ [.int .i64 bm,.int .i64 bn])∧
 ∃ bo:Int,∃ bp:Int,(At aw ⟨ax,0,none⟩ [.int .i64 bo,.int .i64 bp])∧
 ∃ a3:World,((Instr.storeAt 4 (.pointer ((some ⟨c,0,none⟩))) (.bool true)).run Tryz.prog d5=.ok () a3)∧
 (aw a3)∧
 ∃ a4:World,((Instr.storeAt 29 (.pointer ((some ⟨c,0 + 1,none⟩))) (.agg #[.int .i64 bm,.int .i64 bn])).run Tryz.prog a3=.ok () a4)∧
 (aw a4)∧
 NilP e fun be=>
 ∃ au:World,((Instr.storeAt 29 (.pointer ((some ⟨be.block,be.off + 14,none⟩))) (.agg #[.int .i64 bo,.int .i64 bp])).run Tryz.prog a4=.ok () au)∧
 ∃ bq:Bool,(At (fun b=>b=au) ⟨c,0 + 3,none⟩ [.bool bq])∧
 Br bq
 (NilP e fun bf=>
 ∃ bs:Int,∃ bt:Int,∃ f:Sl,∃ g:Sl,∃ i:Sl,(At (fun b=>b=au) ⟨bf.block,bf.off + 4,none⟩ [.int .i64 bs,.int .i64 bt,.slice f.a f.len f.cap,.slice g.a g.len g.cap,.slice i.a i.len i.cap])∧
 Calls Tryz.prog 35 #[.agg #[.int .i64 bs,.int .i64 bt,.slice f.a f.len f.cap,.slice g.a g.len g.cap,.slice i.a i.len i.cap]] au fun dy d0=>
 ∃ bw:Int,∃ bx:Int,∃ m:Sl,∃ n:Sl,∃ o:Sl,(dy=.returned (.agg #[.int .i64 bw,.int .i64 bx,.slice m.a m.len m.cap,.slice n.a n.len n.cap,.slice o.a o.len o.cap]))∧
 ∃ a5:World,((Instr.storeAt 35 (.pointer ((some ⟨c,0 + 4,none⟩))) (.agg #[.int .i64 bw,.int .i64 bx,.slice m.a m.len m.cap,.slice n.a n.len n.cap,.slice o.a o.len o.cap])).run Tryz.prog d0=.ok () a5)∧
 ∃ b1:Bool,∃ b2:Int,∃ b9:Int,∃ ch:Bool,∃ cn:Int,∃ cr:Int,∃ M:Sl,∃ N:Sl,∃ O:Sl,∃ cs:Int,∃ s:Sl,∃ t:Sl,(At (fun b=>b=a5) ⟨c,0,none⟩ [.bool b1,.int .i64 b2,.int .i64 b9,.bool ch,.int .i64 cn,.int .i64 cr,.slice M.a M.len M.cap,.slice N.a N.len N.cap,.slice O.a O.len O.cap,.int .i64 cs,.slice s.a s.len s.cap,.slice t.a t.len t.cap])∧
 ∃ a6:World,((Instr.storeAt 44 (.pointer ((some ⟨d,0,none⟩))) (.agg #[.bool b1,.int .i64 b2,.int .i64 b9,.bool ch,.int .i64 cn,.int .i64 cr,.slice M.a M.len M.cap,.slice N.a N.len N.cap,.slice O.a O.len O.cap,.int .i64 cs,.slice s.a s.len s.cap,.slice t.a t.len t.cap])).run Tryz.prog a5=.ok () a6)∧
 ∃ c0:Bool,∃ c1:Int,∃ c8:Int,∃ dg:Bool,∃ dm:Int,∃ dr:Int,∃ ap:Sl,∃ aq:Sl,∃ ar:Sl,∃ ds:Int,∃ Y:Sl,∃ Z:Sl,(At (fun b=>b=a6) ⟨d,0,none⟩ [.bool c0,.int .i64 c1,.int .i64 c8,.bool dg,.int .i64 dm,.int .i64 dr,.slice ap.a ap.len ap.cap,.slice aq.a aq.len aq.cap,.slice ar.a ar.len ar.cap,.int .i64 ds,.slice Y.a Y.len Y.cap,.slice Z.a Z.len Z.cap])∧
 K (.agg #[.bool c0,.int .i64 c1,.int .i64 c8,.bool dg,.int .i64 dm,.int .i64 dr,.slice ap.a ap.len ap.cap,.slice aq.a aq.len aq.cap,.slice ar.a ar.len ar.cap,.int .i64 ds,.slice Y.a Y.len Y.cap,.slice Z.a Z.len Z.cap]) a6)
 (∃ b3:Bool,∃ b4:Int,∃ b5:Int,∃ b6:Bool,∃ b7:Int,∃ b8:Int,∃ u:Sl,∃ v:Sl,∃ x:Sl,∃ ca:Int,∃ y:Sl,∃ z:Sl,(At (fun b=>b=au) ⟨c,0,none⟩ [.bool b3,.int .i64 b4,.int .i64 b5,.bool b6,.int .i64 b7,.int .i64 b8,.slice u.a u.len u.cap,.slice v.a v.len v.cap,.slice x.a x.len x.cap,.int .i64 ca,.slice y.a y.len y.cap,.slice z.a z.len z.cap])∧
 ∃ a7:World,((Instr.storeAt 44 (.pointer ((some ⟨d,0,none⟩))) (.agg #[.bool b3,.int .i64 b4,.int .i64 b5,.bool b6,.int .i64 b7,.int .i64 b8,.slice u.a u.len u.cap,.slice v.a v.len v.cap,.slice x.a x.len x.cap,.int .i64 ca,.slice y.a y.len y.cap,.slice z.a z.len z.cap])).run Tryz.prog au=.ok () a7)∧
 ∃ c2:Bool,∃ c3:Int,∃ c4:Int,∃ c5:Bool,∃ c6:Int,∃ c7:Int,∃ aa:Sl,∃ ab:Sl,∃ ac:Sl,∃ c9:Int,∃ ad:Sl,∃ ae:Sl,(At (fun b=>b=a7) ⟨d,0,none⟩ [.bool c2,.int .i64 c3,.int .i64 c4,.bool c5,.int .i64 c6,.int .i64 c7,.slice aa.a aa.len aa.cap,.slice ab.a ab.len ab.cap,.slice ac.a ac.len ac.cap,.int .i64 c9,.slice ad.a ad.len ad.cap,.slice ae.a ae.len ae.cap])∧
 K (.agg #[.bool c2,.int .i64 c3,.int .i64 c4,.bool c5,.int .i64 c6,.int .i64 c7,.slice aa.a aa.len aa.cap,.slice ab.a ab.len ab.cap,.slice ac.a ac.len ac.cap,.int .i64 c9,.slice ad.a ad.len ad.cap,.slice ae.a ae.len ae.cap]) a7))
 (∃ br:Bool,(At (fun b=>b=av) ⟨c,0 + 3,none⟩ [.bool br])∧
 Br br
 (NilP e fun bg=>
 ∃ bu:Int,∃ bv:Int,∃ j:Sl,∃ k:Sl,∃ l:Sl,(At (fun b=>b=av) ⟨bg.block,bg.off + 4,none⟩ [.int .i64 bu,.int .i64 bv,.slice j.a j.len j.cap,.slice k.a k.len k.cap,.slice l.a l.len l.cap])∧
 Calls Tryz.prog 35 #[.agg #[.int .i64 bu,.int .i64 bv,.slice j.a j.len j.cap,.slice k.a k.len k.cap,.slice l.a l.len l.cap]] av fun dz d1=>
 ∃ bz:Int,∃ b0:Int,∃ p:Sl,∃ q:Sl,∃ r:Sl,(dz=.returned (.agg #[.int .i64 bz,.int .i64 b0,.slice p.a p.len p.cap,.slice q.a q.len q.cap,.slice r.a r.len r.cap]))∧
 ∃ a8:World,((Instr.storeAt 35 (.pointer ((some ⟨c,0 + 4,none⟩))) (.agg #[.int .i64 bz,.int .i64 b0,.slice p.a p.len p.cap,.slice q.a q.len q.cap,.slice r.a r.len r.cap])).run Tryz.prog d1=.ok () a8)∧
 ∃ cb:Bool,∃ cc:Int,∃ cd:Int,∃ ce:Bool,∃ cf:Int,∃ cg:Int,∃ A:Sl,∃ C:Sl,∃ D:Sl,∃ ci:Int,∃ E:Sl,∃ F:Sl,(At (fun b=>b=a8) ⟨c,0,none⟩ [.bool cb,.int .i64 cc,.int .i64 cd,.bool ce,.int .i64 cf,.int .i64 cg,.slice A.a A.len A.cap,.slice C.a C.len C.cap,.slice D.a D.len D.cap,.int .i64 ci,.slice E.a E.len E.cap,.slice F.a F.len F.cap])∧
 ∃ a9:World,((Instr.storeAt 44 (.pointer ((some ⟨d,0,none⟩))) (.agg #[.bool cb,.int .i64 cc,.int .i64 cd,.bool ce,.int .i64 cf,.int .i64 cg,.slice A.a A.len A.cap,.slice C.a C.len C.cap,.slice D.a D.len D.cap,.int .i64 ci,.slice E.a E.len E.cap,.slice F.a F.len F.cap])).run Tryz.prog a8=.ok () a9)∧
 ∃ da:Bool,∃ db:Int,∃ dc:Int,∃ dd:Bool,∃ de:Int,∃ df:Int,∃ af:Sl,∃ ag:Sl,∃ ah:Sl,∃ dh:Int,∃ ai:Sl,∃ aj:Sl,(At (fun b=>b=a9) ⟨d,0,none⟩ [.bool da,.int .i64 db,.int .i64 dc,.bool dd,.int .i64 de,.int .i64 df,.slice af.a af.len af.cap,.slice ag.a ag.len ag.cap,.slice ah.a ah.len ah.cap,.int .i64 dh,.slice ai.a ai.len ai.cap,.slice aj.a aj.len aj.cap])∧
 K (.agg #[.bool da,.int .i64 db,.int .i64 dc,.bool dd,.int .i64 de,.int .i64 df,.slice af.a af.len af.cap,.slice ag.a ag.len ag.cap,.slice ah.a ah.len ah.cap,.int .i64 dh,.slice ai.a ai.len ai.cap,.slice aj.a aj.len aj.cap]) a9)
 (∃ cj:Bool,∃ ck:Int,∃ cl:Int,∃ cm:Bool,∃ co:Int,∃ cp:Int,∃ G:Sl,∃ H:Sl,∃ I:Sl,∃ cq:Int,∃ J:Sl,∃ L:Sl,(At (fun b=>b=av) ⟨c,0,none⟩ [.bool cj,.int .i64 ck,.int .i64 cl,.bool cm,.int .i64 co,.int .i64 cp,.slice G.a G.len G.cap,.slice H.a H.len H.cap,.slice I.a I.len I.cap,.int .i64 cq,.slice J.a J.len J.cap,.slice L.a L.len L.cap])∧
 ∃ ba:World,((Instr.storeAt 44 (.pointer ((some ⟨d,0,none⟩))) (.agg #[.bool cj,.int .i64 ck,.int .i64 cl,.bool cm,.int .i64 co,.int .i64 cp,.slice G.a G.len G.cap,.slice H.a H.len H.cap,.slice I.a I.len I.cap,.int .i64 cq,.slice J.a J.len J.cap,.slice L.a L.len L.cap])).run Tryz.prog av=.ok () ba)∧
 ∃ di:Bool,∃ dj:Int,∃ dk:Int,∃ dl:Bool,∃ dn:Int,∃ dp:Int,∃ ak:Sl,∃ al:Sl,∃ am:Sl,∃ dq:Int,∃ an:Sl,∃ ao:Sl,(At (fun b=>b=ba) ⟨d,0,none⟩ [.bool di,.int .i64 dj,.int .i64 dk,.bool dl,.int .i64 dn,.int .i64 dp,.slice ak.a ak.len ak.cap,.slice al.a al.len al.cap,.slice am.a am.len am.cap,.int .i64 dq,.slice an.a an.len an.cap,.slice ao.a ao.len ao.cap])∧
 K (.agg #[.bool di,.int .i64 dj,.int .i64 dk,.bool dl,.int .i64 dn,.int .i64 dp,.slice ak.a ak.len ak.cap,.slice al.a al.len al.cap,.slice am.a am.len am.cap,.int .i64 dq,.slice an.a an.len an.cap,.slice ao.a ao.len ao.cap]) ba))) d3) dt) w
theorem call13 (a:Option Addr) (K:Value→World→Prop) (w:World) (h:B13 a K w):Gets Tryz.prog 13 #[.pointer a] w K:=cq (sk:=.leaf) Tryz.func13 (by kernel_rfl) (by kernel_rfl) (by kernel_rfl) h
def B14 (i:Option Addr) (f:Int) (g:Int) (K:Value→World→Prop) (w:World):Prop:=
 NilP i fun c=>
 ∃ d:Option Addr,(At (fun j=>j=w) ⟨c.block,c.off + 3,none⟩ [.pointer d])∧
 Calls Tryz.prog 53 #[.pointer d,.int .i64 f,.int .i64 g] w fun e k=>
 ∃ b:Sl,(e=.returned (.slice b.a b.len b.cap))∧
 K (.slice b.a b.len b.cap) k
theorem call14 (c:Option Addr) (a:Int) (b:Int) (K:Value→World→Prop) (w:World) (h:B14 c a b K w):Gets Tryz.prog 14 #[.pointer c,.int .i64 a,.int .i64 b] w K:=cq (sk:=.leaf) Tryz.func14 (by kernel_rfl) (by kernel_rfl) (by kernel_rfl) h
def B15 (e:Option Addr) (K:Value→World→Prop) (w:World):Prop:=
 NilP e fun a=>
 ∃ b:Option Addr,(At (fun f=>f=w) ⟨a.block,a.off + 3,none⟩ [.pointer b])∧
 Calls Tryz.prog 50 #[.pointer b] w fun d g=>
 ∃ c:Int,(d=.returned (.int .i64 c))∧
 K (.int .i64 c) g
theorem call15 (a:Option Addr) (K:Value→World→Prop) (w:World) (h:B15 a K w):Gets Tryz.prog 15 #[.pointer a] w K:=cq (sk:=.leaf) Tryz.func15 (by kernel_rfl) (by kernel_rfl) (by kernel_rfl) h
def B9 (J:Int) (au:Int) (av:Int) (aw:Int) (ax:Int) (y:Sl) (z:Sl) (A:Sl) (x:Sl) (ay:Int) (az:Int) (K:Value→World→Prop) (w:World):Prop:=
 New (.cells #[.int .i64 au,.int .i64 av] 29 (0,0)) (fun H a0=>
 New (.cells #[.int .i64 aw,.int .i64 ax,.slice y.a y.len y.cap,.slice z.a z.len z.cap,.slice A.a A.len A.cap] 35 (0,0)) (fun q a3=>
 New (.cells #[.int .i64 ay,.int .i64 az] 36 (0,0)) (fun s ak=>
 ∃ (G:World→Prop),(∃ L:Int,∃ M:Int,∃ c:Sl,∃ d:Sl,∃ e:Sl,(At (fun b=>b=ak) ⟨q,0,none⟩ [.int .i64 L,.int .i64 M,.slice c.a c.len c.cap,.slice d.a d.len d.cap,.slice e.a e.len e.cap])∧
 Calls Tryz.prog 31 #[.agg #[.int .i64 L,.int .i64 M,.slice c.a c.len c.cap,.slice d.a d.len d.cap,.slice e.a e.len e.cap]] ak fun am o=>
 ∃ N:Bool,(am=.returned (.bool N))∧
 Br (!N)
 (K (.tuple #[.pointer none,.int .i64 1]) o)
 (∃ O:Int,(At (fun b=>b=o) (Addr.add ⟨s,0,none⟩ 1) [.int .i64 O])∧
 Br (decide (O<1))
 (K (.tuple #[.pointer none,.int .i64 1]) o)
 (∃ Q:Int,(At (fun b=>b=o) (Addr.add ⟨s,0,none⟩ 1) [.int .i64 Q])∧
 Br (decide (Q>64))
 (K (.tuple #[.pointer none,.int .i64 1]) o)
 (G  o))))∧
 ∀ (a5:Env)  (r:World),G  r→
 ∃ T:Int,∃ U:Int,(At (fun b=>b=r) ⟨H,0,none⟩ [.int .i64 T,.int .i64 U])∧
 ∃ f:Sl,∃ g:Sl,(At (fun b=>b=r) ⟨q,0 + 2,none⟩ [.slice f.a f.len f.cap,.slice g.a g.len g.cap])∧
 ∃ V:Int,(At (fun b=>b=r) (Addr.add ⟨s,0,none⟩ 0) [.int .i64 V])∧
 Calls Tryz.prog 32 #[.int .i64 J,.agg #[.int .i64 T,.int .i64 U],.agg #[.slice f.a f.len f.cap,.slice g.a g.len g.cap],.int .i64 V] r fun an t=>
 ∃ X:Option Addr,∃ C:Int,(an=.returned (.tuple #[.pointer X,.int .i64 C]))∧
 Br (C !=0)
 (K (.tuple #[.pointer none,.int .i64 C]) t)
 (∃ Y:Int,(At (fun b=>b=t) ⟨q,0,none⟩ [.int .i64 Y])∧
 ∃ Z:Int,(At (fun b=>b=t) ⟨q,0 + 1,none⟩ [.int .i64 Z])∧
 Calls Tryz.prog 33 #[.int .i64 Y,.int .i64 Z] t fun ao al=>
 ∃ D:Option Addr,∃ E:Int,(ao=.returned (.tuple #[.pointer D,.int .i64 E]))∧
 ∃ (u:Int→World→Prop),(Br (E==0)
 (Calls Tryz.prog 34 #[.pointer D,.slice x.a x.len x.cap] al fun ap a4=>
 ∃ aa:Int,(ap=.returned (.int .i64 aa))∧
 u aa a4)
 (u E al))∧
 ∀ (a6:Env) (v:Int) (F:World),u v F→
 Br (v !=0)
 (K (.tuple #[.pointer none,.int .i64 v]) F)
 (Drw F fun p a1=>
 ∃ ab:Int,(At p (Addr.add ⟨s,0,none⟩ 1) [.int .i64 ab])∧
 ∃ ac:Int,∃ ad:Int,∃ i:Sl,∃ j:Sl,∃ k:Sl,(At p ⟨q,0,none⟩ [.int .i64 ac,.int .i64 ad,.slice i.a i.len i.cap,.slice j.a j.len j.cap,.slice k.a k.len k.cap])∧
 ∃ ag:Int,∃ ah:Int,(At p ⟨H,0,none⟩ [.int .i64 ag,.int .i64 ah])∧
 Calls Tryz.prog 35 #[.agg #[.int .i64 ac,.int .i64 ad,.slice i.a i.len i.cap,.slice j.a j.len j.cap,.slice k.a k.len k.cap]] a1 fun aq ai=>
 ∃ ae:Int,∃ af:Int,∃ l:Sl,∃ m:Sl,∃ n:Sl,(aq=.returned (.agg #[.int .i64 ae,.int .i64 af,.slice l.a l.len l.cap,.slice m.a m.len m.cap,.slice n.a n.len n.cap]))∧
 (p ai)∧
 New (.cells #[.pointer X,.int .i64 J,.int .i64 ab,.pointer D,.int .i64 ae,.int .i64 af,.slice l.a l.len l.cap,.slice m.a m.len m.cap,.slice n.a n.len n.cap,.slice none 0 0,.slice none 0 0,.map none,.slice none 0 0,.int .i64 0,.int .i64 ag,.int .i64 ah,.bool false,.int .i64 0,.int .i64 0,.bool false,.int .i64 0,.int .i64 0,.slice none 0 0,.slice none 0 0,.slice none 0 0,.int .i64 0,.slice none 0 0,.slice none 0 0] 58 (0,0)) (fun I aj=>
 (p aj)∧
 Calls Tryz.prog 36 #[.pointer ((some ⟨I,0,none⟩))] aj fun ar a2=>
 (ar=.returned (.tuple #[]))∧
 K (.tuple #[.pointer ((some ⟨I,0,none⟩)),.int .i64 0]) a2) ai))) a3) a0) w
def sk9:Sk:=(.seq .leaf (.cut [] [] [10,11,16,17,18,19,20,21,22,23,24,25,26,27,28] .leaf (.seq .leaf (.seq .leaf (.seq .leaf (.cut [13] [(.int .i64)] [13,50,51,52,53,54] .leaf .leaf))))))
theorem call9 (i:Int) (f:Int) (g:Int) (j:Int) (k:Int) (c:Sl) (d:Sl) (e:Sl) (b:Sl) (l:Int) (m:Int) (K:Value→World→Prop) (w:World) (h:B9 i f g j k c d e b l m K w):Gets Tryz.prog 9 #[.int .i64 i,.agg #[.int .i64 f,.int .i64 g],.agg #[.int .i64 j,.int .i64 k,.slice c.a c.len c.cap,.slice d.a d.len d.cap,.slice e.a e.len e.cap],.slice b.a b.len b.cap,.agg #[.int .i64 l,.int .i64 m]] w K:=cq (sk:=sk9) Tryz.func9 (by kernel_rfl) (by kernel_rfl) (by kernel_rfl) h
def B10 (c:Option Addr) (J:Int) (K:Value→World→Prop) (w:World):Prop:=
 NilP c fun I=>
 ∃ p:Option Addr,(At (fun b=>b=w) (Addr.add I 0) [.pointer p])∧
 Calls Tryz.prog 16 #[.pointer p] w fun L y=>
 ∃ q:Int,(L=.returned (.int .i64 q))∧
 Br (q !=3)
 (Drw y fun m D=>
 NilP c fun G=>
 ∃ r:Option Addr,(At m (Addr.add G 0) [.pointer r])∧
 NilP c fun n=>
 ∃ s:Option Addr,(At (fun b=>b=D) ⟨n.block,n.off + 3,none⟩ [.pointer s])∧
 Calls Tryz.prog 39 #[.pointer s] D fun M E=>
 ∃ t:Int,(M=.returned (.int .i64 t))∧
 (m E)∧
 Calls Tryz.prog 40 #[.pointer c] E fun T F=>
 ∃ u:Int,(T=.returned (.int .i64 u))∧
 (m F)∧
 Calls Tryz.prog 38 #[.pointer r,.int .i64 J,.int .i64 t,.int .i64 u] F fun U ag=>
 ∃ f:Sl,(U=.returned (.slice f.a f.len f.cap))∧
 Calls Tryz.prog 37 #[.pointer c,.bool false,.slice f.a f.len f.cap] ag fun V ah=>
 (V=.returned (.tuple #[]))∧
 K (.tuple #[]) ah)
 (Calls Tryz.prog 41 #[.pointer c] y fun X ai=>
 ∃ g:Sl,(X=.returned (.slice g.a g.len g.cap))∧
 ∃ (j:Int→World→Prop) (l:Int→World→Nat),(j 0 ai)∧∀ (ak:Env) (d:Int) (e:World),j d e→
 Br (decide (d<(↑g.len:Int)))
 (Rng d g.len (NilP g.a fun H=>
 ∃ i:Int,(At (fun b=>b=e) (Addr.add H d.toNat) [.int .i64 i])∧
 NilP c fun o=>
 ∃ v:Option Nat,(At (fun b=>b=e) ⟨o.block,o.off + 11,none⟩ [.map v])∧
 ∃ k:Option Addr,(∀ b,(fun b=>b=e) b→((Instr.lookup 55 (.map v) (.int .i64 i) false)).run Tryz.prog b=.ok (.pointer k) b)∧
 Calls Tryz.prog 42 #[.pointer k] e fun Y aj=>
 (Y=.returned (.tuple #[]))∧
 Calls Tryz.prog 43 #[.pointer k] aj fun Z z=>
 ∃ x:Int,(Z=.returned (.int .i64 x))∧
 Br (x==2)
 (Calls Tryz.prog 44 #[.pointer k,.bool false] z fun aa ad=>
 ∃ ac:Bool,(aa=.returned (.bool ac))∧
 Calls Tryz.prog 45 #[.pointer c,.int .i64 i] ad fun ab ae=>
 (ab=.returned (.tuple #[]))∧
 Calls Tryz.prog 46 #[.pointer c,.int .i64 i] ae fun N A=>
 (N=.returned (.tuple #[]))∧
 (j (IntKind.i64.wrap (d + 1)) A)∧l (IntKind.i64.wrap (d + 1)) A<l d e)
 (Calls Tryz.prog 45 #[.pointer c,.int .i64 i] z fun O af=>
 (O=.returned (.tuple #[]))∧
 Calls Tryz.prog 46 #[.pointer c,.int .i64 i] af fun Q C=>
 (Q=.returned (.tuple #[]))∧
 (j (IntKind.i64.wrap (d + 1)) C)∧l (IntKind.i64.wrap (d + 1)) C<l d e)))
 (K (.tuple #[]) e))
def sk10:Sk:=(.seq (.seq .leaf (.cond (.seq (.cond .leaf .leaf) .leaf) .leaf)) (.seq .leaf (.block (.loop [31] [(.int .i64)] [5,6,31,32,33,34,35,36,37,38,39,40,41,42,43,44,45,46,47,48,49,50,51,52,53,54] .leaf))))
theorem call10 (b:Option Addr) (a:Int) (K:Value→World→Prop) (w:World) (h:B10 b a K w):Gets Tryz.prog 10 #[.pointer b,.int .i64 a] w K:=cq (sk:=sk10) Tryz.func10 (by kernel_rfl) (by kernel_rfl) (by kernel_rfl) h
end Go.Proofs.YthpmfnffkjjlnaaGreat
/- A node of a group: snapshots, groups behind entries. Condition: bounds on lengths. -/
namespace Go.Proofs.YthpmfnffkjjlnaaGreat
set_option linter.unusedVariables false
set_option linter.unusedSimpArgs false
open Go Go.VC
open Go.Rf (Ey Lg LgOk)
variable {R R' R1 R2:Cx} {Hs Rest Rest2:List HP} {w:World}
abbrev gVal (v l:Sl):Value:=.agg #[.slice v.a v.len v.cap,.slice l.a l.len l.cap]
abbrev snVal (s:Sn) (v l d:Sl):Value:=.agg #[.int .i64 s.ix,.int .i64 s.tm,.slice v.a v.len v.cap,.slice l.a l.len l.cap,.slice d.a d.len d.cap]
abbrev snCells (s:Sn) (v l d:Sl):Obj:=.cells [.int .i64 s.ix,.int .i64 s.tm,.slice v.a v.len v.cap,.slice l.a l.len l.cap,.slice d.a d.len d.cap].toArray 35 (0,0)
abbrev gCells (v l:Sl):Obj:=.cells [.slice v.a v.len v.cap,.slice l.a l.len l.cap].toArray 32 (0,0)
theorem snIn_spec {n most:Int} (hw:Sat R Hs w):Gets Tryz.prog 80 #[.int .i64 n,.int .i64 most] w fun v w'=>v=.bool (rightN n 0 most)∧Sat R Hs w':=by
 apply call80
 unfold rightN
 refine Br.d (fun h=>⟨?_,hw⟩) (fun h=>⟨by rw [decide_eq_false (by omega)],hw⟩)
 congr 1
 rw [decide_eq_decide]
 omega
theorem snRight_spec {s:Sn} {v l d:Sl} (hg:GpIn R s.g v l) (hd:SlR R.m d (b8 s.dt)) (hw:Sat R Hs w):Gets Tryz.prog 31 #[snVal s v l d] w fun r w'=>r=.bool (rightSn s)∧Sat R Hs w':=by
 apply call31
 unfold rightSn
 have hl:d.len=s.dt.length:=by have:=hd.len;simpa using this
 refine new_rule hw fun b w hw=>⟨_,At.own (eqS hw) (by exact ⟨rfl,trivial⟩),?_⟩
 refine (snIn_spec hw).use ?_
 clear hw
 rintro _ w ⟨rfl,hw⟩
 refine ⟨_,rfl,Br.mk (fun h1=>⟨_,At.own (eqS hw) (by exact ⟨rfl,trivial⟩),?_⟩) (fun h1=>⟨by rw [h1];rfl,hw.drop⟩)⟩
 refine (snIn_spec hw).use ?_
 clear hw
 rintro _ w ⟨rfl,hw⟩
 refine ⟨_,rfl,Br.mk (fun h2=>⟨v,l,At.own (eqS hw) (by exact ⟨rfl,rfl,trivial⟩),?_⟩) (fun h2=>⟨by rw [h1,h2];rfl,hw.drop⟩)⟩
 refine (right_spec hw hg.v hg.l).use ?_
 clear hw
 rintro _ w ⟨rfl,hw⟩
 refine ⟨_,rfl,Br.mk (fun h3=>⟨d,At.own (eqS hw) (by exact ⟨rfl,trivial⟩),?_,hw.drop⟩) (fun h3=>⟨by rw [h1,h2,h3];rfl,hw.drop⟩)⟩
 rw [h1,h2,h3,hl]
 congr 1
 rw [Bool.true_and,Bool.true_and,Bool.true_and,decide_eq_decide]
 omega
def SnQ (R:Cx) (Hs:List HP) (s:Sn) (v:Value) (w:World):Prop:=∃ R' a l d,R.Ext R'∧GpIn R' s.g a l∧SlR R'.m d (b8 s.dt)∧v=snVal s a l d∧Sat R' Hs w
theorem snCopied_spec {s:Sn} {v l d:Sl} (hg:GpIn R s.g v l) (hd:SlR R.m d (b8 s.dt)) (h1:s.g.vs.length≤1000) (h2:s.g.ls.length≤1000) (h3:s.dt.length≤1099511627776) (hw:Sat R Hs w):
  Gets Tryz.prog 35 #[snVal s v l d] w (SnQ R Hs s):=by
 apply call35
 refine new_rule hw fun b w hw=>new_rule hw fun b2 w hw=>?_
 have hw:Sat R (pts b (snCells s v l d)::pts b2 (snCells sn0 ⟨none,0,0⟩ ⟨none,0,0⟩ ⟨none,0,0⟩)::Hs) w:=hw.swap
 refine drw_rule' (Sat R [pts b (snCells s v l d),VC.tru]) hw (fun w hw=>hw.k1) fun w hw=>⟨v,At.own selfS (by exact ⟨rfl,trivial⟩),l,At.own selfS (by exact ⟨rfl,trivial⟩),?_⟩
 refine (cloneI_spec hw hg.v h1).use ?_
 clear hw
 rintro _ w ⟨v',rfl,hw⟩
 obtain ⟨R2,e2,hv',hw⟩:=Own.leak hw
 have hv':RoI R2 v' s.g.vs:=hv'.ro (by rw [List.length_map];omega)
 refine ⟨v',rfl,(e2.back hw).k1,?_⟩
 refine (cloneI_spec hw (e2.roI hg.l) h2).use ?_
 clear hw
 rintro _ w ⟨l',rfl,hw⟩
 obtain ⟨R3,e3,hl',hw⟩:=Own.leak hw
 have hl':RoI R3 l' s.g.ls:=hl'.ro (by rw [List.length_map];omega)
 refine ⟨l',rfl,((e2.trans e3).back hw).k1,?_⟩
 refine store_rule hw (by kernel_rfl) rfl (by simp [Value.cells,putL_len]) fun w hw=>?_
 refine ⟨d,At.own (eqS hw) (by exact ⟨rfl,trivial⟩),?_⟩
 refine (clone_spec (((e2.trans e3).slR hd).ro (by rw [List.length_map];omega)) h3 hw).use ?_
 clear hw
 rintro _ w ⟨d',rfl,hw⟩
 obtain ⟨R4,e4,hd',hw⟩:=Own.leak hw
 refine ⟨d',rfl,?_⟩
 refine store_rule hw (by kernel_rfl) rfl (by simp [Value.cells,putL_len]) fun w hw=>?_
 refine ⟨_,_,v',l',d',At.own (eqS hw) (by exact ⟨rfl,rfl,rfl,rfl,rfl,trivial⟩),?_⟩
 have hw:=hw.swap
 refine store_rule hw (by kernel_rfl) rfl (by simp [Value.cells,putL_len]) fun w hw=>?_
 exact ⟨_,_,v',l',d',At.own (eqS hw) (by exact ⟨rfl,rfl,rfl,rfl,rfl,trivial⟩),R4,v',l',d',(e2.trans e3).trans e4,⟨(e3.trans e4).roI hv',e4.roI hl'⟩,hd',rfl,hw.drop.drop⟩
def GpQ (R:Cx) (Hs:List HP) (g:Gp) (v:Value) (w:World):Prop:=∃ R' a l,R.Ext R'∧GpIn R' g a l∧v=gVal a l∧Sat R' Hs w
def bytesOk (b:List Int):Prop:=∀ x∈b,0≤x∧x<256
theorem changed_spec {g:Gp} {v l s:Sl} {x:Ey} (hg:GpIn R g v l) (hx:SlR R.m s (b8 x.dt)) (hb:bytesOk x.dt) (hl:x.dt.length≤1099511627776) (hw:Sat R Hs w):
  Gets Tryz.prog 158 #[gVal v l,eVal (s,x)] w (GpQ R Hs (changedG g x)):=by
 apply call158
 unfold changedG
 refine new_rule hw fun b1 w hw=>new_rule hw fun b2 w hw=>new_rule hw fun b3 w hw=>⟨_,At.own (eqS hw) (by exact ⟨rfl,trivial⟩),?_⟩
 have hw:Sat R (pts b3 (gCells ⟨none,0,0⟩ ⟨none,0,0⟩)::pts b1 (gCells v l)::pts b2 (.cells (eRow (s,x)).toArray 52 (0,0))::Hs) w:=hw.arr
 have out:∀ {R':Cx} {w:World} {u u':Sl} {g':Gp} {X:HP},R.Ext R'→GpIn R' g' u u'→Sat R' (pts b3 (gCells u u')::pts b1 (gCells v l)::X::Hs) w→∃ a a',At (fun w'=>w'=w) ⟨b3,0,none⟩ [.slice a.a a.len a.cap,.slice a'.a a'.len a'.cap]∧GpQ R Hs g' (gVal a a') w:=
  fun {R' w u u' g' X} e hg' hw=>⟨u,u',At.own (eqS hw) (by exact ⟨rfl,rfl,trivial⟩),R',u,u',e,hg',rfl,hw.drop.drop.drop⟩
 refine Br.ne (fun h=>⟨v,l,At.own (eqS hw) (by exact ⟨rfl,rfl,trivial⟩),?_⟩) (fun h=>⟨s,At.own (eqS hw) (by exact ⟨rfl,trivial⟩),?_⟩)
 ·rw [if_pos (by simpa using h)]
  refine store_rule hw (by kernel_rfl) rfl (by simp [Value.cells,putL_len]) fun w hw=>?_
  exact out .refl hg hw
 rw [if_neg (by simpa using h)]
 refine (fnew_spec (hx.ro (by rw [List.length_map];omega)) hl hw).use ?_
 clear hw
 rintro _ w ⟨r,rfl,hw⟩
 refine ⟨_,rfl,?_⟩
 refine (rnum_spec (rd:=⟨x.dt,false⟩) hb hw).use ?_
 clear hw
 rintro _ w ⟨rfl,hw⟩
 have hv1:=rdNum_val (most:=1099511627776) (rd:=⟨x.dt,false⟩) hb (by omega)
 have hb1:=rdNum_bd (most:=1099511627776) (rd:=⟨x.dt,false⟩) hb
 refine ⟨_,rfl,?_⟩
 refine (rnum_spec hb1 hw).use ?_
 clear hw
 rintro _ w ⟨rfl,hw⟩
 have hv2:=rdNum_val (most:=1099511627776) hb1 (by omega)
 refine ⟨_,rfl,?_⟩
 refine (whole_spec hw).use ?_
 clear hw
 rintro _ w ⟨rfl,hw⟩
 have hw:=hw.drop
 refine ⟨_,rfl,Br.nb (fun h2=>⟨v,l,At.own (eqS hw) (by exact ⟨rfl,rfl,trivial⟩),?_⟩) (fun h2=>⟨v,l,At.own (eqS hw) (by exact ⟨rfl,rfl,trivial⟩),?_⟩)⟩
 ·rw [if_pos (by unfold rd2;rw [h2];rfl)]
  refine store_rule hw (by kernel_rfl) rfl (by simp [Value.cells,putL_len]) fun w hw=>?_
  exact out .refl hg hw
 rw [if_neg (by unfold rd2;rw [h2];simp),wrap64 (by omega) (by omega),wrap64 (by omega) (by omega)]
 refine (change_spec (rd2 x.dt).1 (rd2 x.dt).2.1 hw hg.v hg.l).use ?_
 clear hw
 rintro _ w ⟨a,b,rfl,hw⟩
 refine ⟨a,b,_,rfl,new_rule hw fun b4 w hw=>?_⟩
 refine store_rule hw (by kernel_rfl) rfl (by simp [Value.cells,putL_len]) fun w hw=>?_
 refine Br.e (fun h3=>⟨a,b,At.own (eqS hw) (by exact ⟨rfl,rfl,trivial⟩),?_⟩) (fun h3=>⟨v,l,At.own (eqS hw) (by exact ⟨rfl,rfl,trivial⟩),?_⟩)
 ·rw [if_pos (by simpa using h3)]
  have hlen:=chG_len g.vs g.ls (rd2 x.dt).1 (rd2 x.dt).2.1
  have hw:Sat R (Own a 3 (ints (chG g.vs g.ls (rd2 x.dt).1 (rd2 x.dt).2.1).1)::Own b 3 (ints (chG g.vs g.ls (rd2 x.dt).1 (rd2 x.dt).2.1).2.1)::pts b3 (gCells ⟨none,0,0⟩ ⟨none,0,0⟩)::pts b1 (gCells v l)::pts b2 (.cells (eRow (s,x)).toArray 52 (0,0))::Hs) w:=hw.drop
  obtain ⟨R2,e2,ha,hw⟩:=Own.leak hw
  obtain ⟨R3,e3,hb',hw⟩:=Own.leak hw
  refine store_rule hw (by kernel_rfl) rfl (by simp [Value.cells,putL_len]) fun w hw=>?_
  exact out (e2.trans e3) ⟨e3.roI (ha.ro (by rw [List.length_map];omega)),hb'.ro (by rw [List.length_map];omega)⟩ hw
 ·rw [if_neg (by simpa using h3)]
  have hw:Sat R (pts b3 (gCells ⟨none,0,0⟩ ⟨none,0,0⟩)::pts b1 (gCells v l)::pts b2 (.cells (eRow (s,x)).toArray 52 (0,0))::Hs) w:=hw.drop.drop.drop
  refine store_rule hw (by kernel_rfl) rfl (by simp [Value.cells,putL_len]) fun w hw=>?_
  exact out .refl hg hw
end Go.Proofs.YthpmfnffkjjlnaaGreat
/- A node of a group: its group by the entries up to one. Condition: bounds on numbers. -/
namespace Go.Proofs.YthpmfnffkjjlnaaGreat
set_option linter.unusedVariables false
set_option linter.unusedSimpArgs false
open Go Go.VC
open Go.Rf (Ey Lg LgOk)
variable {R R' R1 R2:Cx} {Hs Rest Rest2:List HP} {w:World}
def LgB (g:Lg):Prop:=∀ e∈g.l,bytesOk e.dt
theorem foldl_snoc {α β:Type} (f:β→α→β) (b:β) {l:List α} {k:Nat} (h:k<l.length):(l.take (k + 1)).foldl f b=f ((l.take k).foldl f b) l[k]:=by
 rw [List.take_succ_eq_append_getElem h,List.foldl_append];rfl
theorem groupAt_spec {p:Nat} {n:Rn} (ok:LgOk n.log) (hb:LgB n.log) (i:Int) (hw:Sat R (NAt R p n::Hs) w):
  Gets Tryz.prog 89 #[.pointer (some ⟨p,0,none⟩),.int .i64 i] w fun v w'=>∃ R' a l,R.Ext R'∧GpIn R' (n.foldG (IntKind.i64.wrap (IntKind.i64.wrap (i + 1) - (n.log.b.ix + 1)))) a l∧v=gVal a l∧Sat R' (NAt R' p n::Hs) w':=by
 obtain ⟨L,hn,hw⟩:=NAt.iff.1 hw
 apply call89
 refine new_rule hw fun b1 w hw=>NilP.mk rfl ⟨L.sv,L.sl,At.own (eqS hw) (by exact ⟨rfl,rfl,trivial⟩),new_rule hw fun b2 w hw=>?_⟩
 refine store_rule hw (by kernel_rfl) rfl (by simp [Value.cells,putL_len]) fun w hw=>?_
 have hw:=hw.re (pts b2 (gCells L.sv L.sl))
 refine drw_rule' (Sat R [pts p (nCells n L),VC.tru]) hw (fun w hw=>hw.k1) fun w hw=>NilP.mk rfl ⟨_,At.own selfS (by exact ⟨rfl,trivial⟩),NilP.mk rfl ⟨_,At.own selfS (by exact ⟨rfl,trivial⟩),NilP.mk rfl ⟨_,At.own selfS (by exact ⟨rfl,trivial⟩),?_⟩⟩⟩
 have hw:=hw.take (LgAt R L.lp n.log)
 refine (lfirst_spec ok hw).use ?_
 clear hw
 rintro _ w ⟨rfl,hw⟩
 refine ⟨_,rfl,hw.k1,?_⟩
 refine (lfirst_spec ok hw).use ?_
 clear hw
 rintro _ w ⟨rfl,hw⟩
 refine ⟨_,rfl,hw.k1,?_⟩
 obtain ⟨m,hm⟩:∃ m,m=IntKind.i64.wrap (IntKind.i64.wrap (i + 1) - (n.log.b.ix + 1)):=⟨_,rfl⟩
 rw [←hm]
 refine (lget_spec ok _ m hw).use ?_
 clear hw
 rintro _ w ⟨R2,t,ds,e2,hd,he,rfl,hw⟩
 refine ⟨t,rfl,(e2.back hw).k1,?_⟩
 have hin:∀ x∈ds,x.2∈n.log.l:=fun x hx=>Rf.Lg.get_in (i:=n.log.b.ix + 1) (m:=m) x.2 (by rw [←he];exact List.mem_map_of_mem hx)
 have hdl:ds.length≤1099511627776:=by
  have h1:ds.length=(n.log.get (n.log.b.ix + 1) m).length:=by rw [←he,List.length_map]
  have h2:(n.log.get (n.log.b.ix + 1) m).length≤n.log.l.length + 1:=by
   unfold Lg.get
   split
   ·simp
   ·rw [List.length_take,List.length_drop];have:=Rf.all_len n.log;omega
  have h3:=ok.len
  by_cases h4:n.log.l.length=n.log.l.length + 1
  ·omega
  ·have h5:(n.log.get (n.log.b.ix + 1) m).length≤n.log.l.length:=by
    unfold Lg.get
    split
    ·simp
    ·rw [List.length_take,List.length_drop];have:=Rf.all_len n.log;omega
   omega
 have hsl:t.len=ds.length:=by have:=OwnN.len hw;simpa using this
 have hw:Sat R2 (pts b2 (gCells L.sv L.sl)::EntO t ds::pts p (nCells n L)::pts b1 (gCells ⟨none,0,0⟩ ⟨none,0,0⟩)::LgAt R2 L.lp n.log::ElAt R L.ep n.e::PsAt L.pm n.ps::RsAt L.rs n.rs::MsAt R L.ms n.rms::RrAt L.rr n.rrd::Hs) w:=hw.arr
 refine ⟨fun j w=>∃ (k:Nat) (R3:Cx) (a l:Sl),j=k∧k≤ds.length∧R2.Ext R3∧GpIn R3 ((erE (ds.take k)).foldl (stepG n.sn.ix) n.sn.g) a l∧
   Sat R3 (pts b2 (gCells a l)::EntO t ds::pts p (nCells n L)::pts b1 (gCells ⟨none,0,0⟩ ⟨none,0,0⟩)::LgAt R2 L.lp n.log::ElAt R L.ep n.e::PsAt L.pm n.ps::RsAt L.rs n.rs::MsAt R L.ms n.rms::RrAt L.rr n.rrd::Hs) w,
  fun j _=>ds.length - j.toNat,⟨0,R2,L.sv,L.sl,rfl,Nat.zero_le _,.refl,hn.sg.ext e2,hw⟩,?_⟩
 clear hw
 rintro _ _ w ⟨k,R3,a,l,rfl,hk,e3,hg,hw⟩
 refine Br.d (fun h=>?_) (fun h=>?_)
 ·have hk':k<ds.length:=by omega
  refine ent_rng hw (eqS hw) (ds:=ds) k rfl hk' fun q _ el=>?_
  refine ⟨_,_,_,_,el.z (by exact ⟨rfl,rfl,rfl,rfl,trivial⟩),new_rule hw fun b3 w hw=>?_⟩
  refine store_rule hw (by kernel_rfl) rfl (by simp [Value.cells,putL_len]) fun w hw=>?_
  refine drw_rule hw fun w hw=>⟨ds[k].2.ix,At.own selfS (by exact ⟨rfl,trivial⟩),NilP.mk rfl ⟨n.sn.ix,At.own selfS (by exact ⟨rfl,trivial⟩),?_⟩⟩
  have ef:(erE (ds.take (k + 1))).foldl (stepG n.sn.ix) n.sn.g=stepG n.sn.ix ((erE (ds.take k)).foldl (stepG n.sn.ix) n.sn.g) ds[k].2:=by
   have:=foldl_snoc (stepG n.sn.ix) n.sn.g (l:=erE ds) (k:=k) (by rw [List.length_map];exact hk')
   simpa [erE,←List.map_take] using this
  rw [wrap64 (by omega) (by omega)]
  refine Br.d (fun h2=>⟨a,l,At.own (eqS hw) (by exact ⟨rfl,rfl,trivial⟩),ds[k].2.ix,ds[k].2.tm,ds[k].2.kd,ds[k].1,At.own (eqS hw) (by exact ⟨rfl,rfl,rfl,rfl,trivial⟩),?_⟩) (fun h2=>⟨⟨k + 1,R3,a,l,by omega,hk',e3,?_,hw.drop⟩,by dsimp only;omega⟩)
  ·have hx:=hin _ (List.getElem_mem hk')
   have hno:=Rf.oddE_no (ok.es.no _ hx)
   refine (changed_spec hg (e3.slR (hd _ (List.getElem_mem hk'))) (hb _ hx) (by omega) hw).use ?_
   clear hw
   rintro _ w ⟨R4,a',l',e4,hg',rfl,hw⟩
   refine ⟨a',l',rfl,?_⟩
   have hw:=hw.drop
   refine store_rule hw (by kernel_rfl) rfl (by simp [Value.cells,putL_len]) fun w hw=>?_
   refine ⟨⟨k + 1,R4,a',l',by omega,hk',e3.trans e4,?_,hw⟩,by dsimp only;omega⟩
   rw [ef];unfold stepG;rw [if_pos h2];exact hg'
  ·rw [ef];unfold stepG;rw [if_neg h2];exact hg
 ·have:k=ds.length:=by omega
  subst this
  rw [List.take_length,he] at hg
  refine ⟨a,l,At.own (eqS hw) (by exact ⟨rfl,rfl,trivial⟩),?_⟩
  have hw:Sat R3 (pts b1 (gCells ⟨none,0,0⟩ ⟨none,0,0⟩)::pts b2 (gCells a l)::EntO t ds::pts p (nCells n L)::LgAt R2 L.lp n.log::ElAt R L.ep n.e::PsAt L.pm n.ps::RsAt L.rs n.rs::MsAt R L.ms n.rms::RrAt L.rr n.rrd::Hs) w:=hw.arr
  refine store_rule hw (by kernel_rfl) rfl (by simp [Value.cells,putL_len]) fun w hw=>?_
  refine ⟨a,l,At.own (eqS hw) (by exact ⟨rfl,rfl,trivial⟩),R3,a,l,e2.trans e3,?_,rfl,?_⟩
  ·unfold Rn.foldG;exact hg
  ·have hw:=hw.drop.drop.drop
   have e5:=e2.trans e3
   exact NAt.iff.2 ⟨L,hn.ext e5,(show Sat R3 (pts p (nCells n L)::LgAt R2 L.lp n.log::ElAt R L.ep n.e::PsAt L.pm n.ps::RsAt L.rs n.rs::MsAt R L.ms n.rms::RrAt L.rr n.rrd::Hs) w from hw).cons fun _ h=>
    Sat.swap (Sat.cons (fun _ h=>Sat.cons (fun _ h=>h.cons fun _ h=>h.cons fun _ h=>MsAt.ext h e5) (ElAt.ext h e5)) (LgAt.ext h e3))⟩
end Go.Proofs.YthpmfnffkjjlnaaGreat
/- A node of a group: its group is found anew, and its peers. Condition: bounds on numbers. -/
namespace Go.Proofs.YthpmfnffkjjlnaaGreat
set_option linter.unusedVariables false
set_option linter.unusedSimpArgs false
open Go Go.VC
open Go.Rf (Ey Lg LgOk)
variable {R R' R1 R2:Cx} {Hs Rest Rest2:List HP} {w:World}
theorem chG_right {v l:List Int} {k n:Int} (h:(chG v l k n).2.2=0):rightG (chG v l k n).1 (chG v l k n).2.1=true:=
 (chG_changed (show chG v l k n=((chG v l k n).1,(chG v l k n).2.1,0) by rw [←h])).right
theorem changedG_right {g:Gp} (h:rightG g.vs g.ls=true) (x:Ey):rightG (changedG g x).vs (changedG g x).ls=true:=by
 unfold changedG
 split
 ·exact h
 ·split
  ·exact h
  ·split
   ·rename_i h3;exact chG_right (by simpa using h3)
   ·exact h
theorem foldG_right {n:Rn} (h:rightG n.sn.g.vs n.sn.g.ls=true) (m:Int):rightG (n.foldG m).vs (n.foldG m).ls=true:=by
 unfold Rn.foldG
 generalize n.log.get (n.log.b.ix + 1) m=l
 generalize n.sn.g=g at h
 induction l generalizing g with
 |nil=>exact h
 |cons x l ih=>
  refine ih (stepG n.sn.ix g x) ?_
  unfold stepG
  split
  ·exact changedG_right h x
  ·exact h
theorem right_nodup {v l:List Int} (h:rightG v l=true):(v++l).Nodup:=by
 obtain ⟨h1,h2,_,h4⟩:=right_iff.1 h
 rw [List.nodup_append]
 refine ⟨rises_nodup h1,rises_nodup h2,fun a ha b hb e=>?_⟩
 subst e
 have:=h4 a ha
 rw [hasL_mem.2 hb] at this;cases this
theorem getM_none {β:Type} {k:Int} {l:List (Int × β)} (h:k ∉ l.map (·.1)):getM k l=none:=by
 induction l with
 |nil=>rfl
 |cons e l ih=>
  simp only [List.map_cons,List.mem_cons,not_or] at h
  unfold getM
  rw [if_neg (by simpa using h.1)]
  exact ih h.2
theorem putM_new {β:Type} {k:Int} {v:β} {l:List (Int × β)} (h:k ∉ l.map (·.1)):putM k v l=l++[(k,v)]:=by
 unfold putM
 rw [getM_none h];rfl
theorem getM_mem {β:Type} {k:Int} {v:β} {l:List (Int × β)} (h:getM k l=some v):(k,v)∈l:=by
 obtain ⟨a,b,rfl,_⟩:=getM_split h
 simp
theorem Sat.sub {α:Type} (f:α→HP) {l l':List α} (s:l'.Sublist l) (hw:Sat R (l.map f++Hs) w):Sat R (l'.map f++Hs) w:=by
 induction s generalizing R with
 |slnil=>exact hw
 |cons a s ih=>exact ih hw.drop
 |cons_cons a s ih=>exact hw.cons fun _ h=>ih h
abbrev PL:=List (Int × Nat × Pe)
def OldAt (pm:Option Nat) (l:PL):HP:=match pm with|none=>pur (l=[])|some m=>MapAt m (l.map pEn)
theorem mapP:MapT Tryz.prog 55 Int 3 106 (.pointer none):=⟨Tryz.underlying55,Tryz.underlying3,fun _=>Tryz.zeroValue106 _⟩
theorem lookup_nil {P:Program} {T K E:TypeId} {α:Type} [BEq α] [KeyK α] {z:Value} (M:MapT P T α K E z) (k:α) (w:World):(Instr.lookup T (.map none) (KeyK.enc k) true).run P w=.ok (.tuple #[z,.bool false]) w:=by
 have hck:=KeyK.check P (#[]:Array MapEntry).isEmpty K k w M.hK
 have hfk:(Instr.findKey K (KeyK.enc k) []).run P w=.ok none w:=run_findKey M.hK k [] w
 unfold Instr.lookup
 simp only [Sem.run_bind,run_underlying M.hT,Result.andThen,Sem.run_pure,hck,hfk,M.hz]
 rfl
theorem OldAt.look {pm:Option Nat} {l:PL} (hw:Sat R (OldAt pm l::Hs) w) (k:Int):
  (Instr.lookup 55 (.map pm) (.int .i64 k) true).run Tryz.prog w=.ok (.tuple #[.pointer ((getM k l).map fun t=>⟨t.1,0,none⟩),.bool (getM k l).isSome]) w:=by
 cases pm with
 |none=>
  obtain ⟨rfl,_⟩:=Sat.pur.1 (show Sat R (pur (l=[])::Hs) w from hw)
  exact lookup_nil mapP k w
 |some m=>
  have h:=MapAt.look mapP (show Sat R (MapAt m (l.map pEn)::Hs) w from hw) k true
  rw [if_pos rfl] at h
  have e:getM k (l.map pEn)=(getM k l).map fun t=>Value.pointer (some ⟨t.1,0,none⟩):=getM_map (fun t:Nat × Pe=>Value.pointer (some ⟨t.1,0,none⟩)) k l
  rw [e] at h
  refine h.trans ?_
  cases getM k l<;>rfl
theorem PsAt.old {pm:Option Nat} {ps:Option (List (Int × Pe))} (hw:Sat R (PsAt pm ps::Hs) w):∃ l:PL,ps.getD []=l.map pOf∧Sat R (OldAt pm l::(l.map pHP++Hs)) w:=by
 cases pm with
 |none=>
  obtain ⟨h1,h2⟩:=PsAt.none'.1 hw
  subst h1
  exact ⟨[],rfl,Sat.pur.2 ⟨rfl,h2⟩⟩
 |some m=>
  obtain ⟨l,h1,h2⟩:=PsAt.some'.1 hw
  subst h1
  exact ⟨l,rfl,h2⟩
theorem pOf_get (k:Int) (l:PL):getM k (l.map pOf)=(getM k l).map (·.2):=getM_map (fun t:Nat × Pe=>t.2) k l
theorem pnew_spec {nx wn:Int} (h0:1≤nx) (h1:nx≤1099511627776) (h2:1≤wn) (h3:wn≤64) (hw:Sat R Hs w):
  Gets Tryz.prog 91 #[.int .i64 nx,.int .i64 wn] w fun v w'=>∃ b,v=.tuple #[.pointer (some ⟨b,0,none⟩),.int .i64 0]∧Sat R (PeAt b (Pe.new nx wn)::Hs) w':=by
 apply call91
 refine Br.d (fun h=>absurd h (by omega)) (fun _=>Br.d (fun h=>absurd h (by omega)) (fun _=>Br.d (fun h=>absurd h (by omega)) (fun _=>Br.d (fun h=>absurd h (by omega)) (fun _=>?_))))
 refine new_rule hw fun b w hw=>⟨b,rfl,PeAt.iff.2 ⟨⟨none,0,0⟩,?_⟩⟩
 exact hw.cons fun _ h=>FlAt.own (Own.nil h)
structure RgSt (n:Rn) (l:PL) (D:List Int) (acc:PL):Prop where
 e:acc.map pOf=D.foldl n.addP []
 k:∀ x∈acc.map (·.1),x∈D
abbrev leftP (l:PL) (D:List Int):PL:=l.filter fun t=>!decide (t.1∈D)
theorem leftP_snoc (l:PL) (D:List Int) (p:Int):(leftP l (D++[p])).Sublist (leftP l D):=by
 have:leftP l (D++[p])=(leftP l D).filter fun t=>!decide (t.1=p):=by
  unfold leftP
  rw [List.filter_filter]
  congr 1
  funext t
  by_cases h1:t.1=p
  ·simp [h1]
  ·simp [h1]
 rw [this]
 exact List.filter_sublist
theorem leftP_take {l:PL} {D:List Int} {p:Int} {t:Nat × Pe} (h:getM p l=some t) (hp:p ∉ D):∃ a c:PL,leftP l D=a++(p,t)::c∧(leftP l (D++[p])).Sublist (a++c):=by
 obtain ⟨a,c,rfl,_⟩:=getM_split h
 refine ⟨leftP a D,leftP c D,?_,?_⟩
 ·unfold leftP
  rw [List.filter_append,List.filter_cons_of_pos (by simpa using hp)]
 ·unfold leftP
  rw [List.filter_append,List.filter_cons_of_neg (by simp)]
  exact (leftP_snoc a D p).append (leftP_snoc c D p)
abbrev PsT (acc rest:PL):HP:=Star (acc.map pHP++rest.map pHP)
theorem PsT.sub {acc l l':PL} (s:l'.Sublist l) (hw:Sat R (PsT acc l::Hs) w):Sat R (PsT acc l'::Hs) w:=by
 have h:=Sat.star.1 hw
 rw [←List.map_append] at h
 refine Sat.star.2 ?_
 rw [←List.map_append]
 exact Sat.sub pHP ((List.Sublist.refl acc).append s) h
theorem PsT.take {acc a c l':PL} {x:Int × Nat × Pe} (s:l'.Sublist (a++c)) (hw:Sat R (PsT acc (a++x::c)::Hs) w):Sat R (PsT (acc++[x]) l'::Hs) w:=by
 refine PsT.sub s ?_
 have h:=Sat.star.1 hw
 rw [←List.map_append] at h
 refine Sat.star.2 ?_
 rw [←List.map_append]
 refine h.perm (List.Perm.append_right Hs (List.Perm.map pHP ?_))
 rw [List.append_assoc]
 refine List.Perm.append_left acc ?_
 exact List.perm_middle
theorem PsT.new {acc l:PL} {x:Int × Nat × Pe} (hw:Sat R (pHP x::PsT acc l::Hs) w):Sat R (PsT (acc++[x]) l::Hs) w:=by
 have h:Sat R (pHP x::((acc.map pHP++l.map pHP)++Hs)) w:=hw.cons fun _ h=>Sat.star.1 h
 refine Sat.star.2 (h.perm ?_)
 rw [List.map_append,List.append_assoc,List.append_assoc,List.append_assoc]
 exact (List.perm_middle (l₁:=acc.map pHP) (a:=pHP x) (l₂:=l.map pHP++Hs)).symm
theorem PsT.done {acc l:PL} (hw:Sat R (PsT acc l::Hs) w):Sat R (acc.map pHP++Hs) w:=by
 have h:=Sat.star.1 (PsT.sub (List.nil_sublist l) hw)
 simpa using h
theorem nodup_at {pre xs:List Int} (h:(pre++xs).Nodup) {k:Nat} (hk:k<xs.length):xs[k] ∉ pre++xs.take k:=by
 have e:pre++xs=(pre++xs.take k)++xs[k]::xs.drop (k + 1):=by rw [List.append_assoc,←drop_get hk,List.take_append_drop]
 rw [e,List.nodup_append] at h
 exact fun hx=>h.2.2 _ hx _ List.mem_cons_self rfl
theorem RgSt.skip {n:Rn} {l acc:PL} {D:List Int} (h:RgSt n l D acc) {q:Int} (hq:q=n.id):RgSt n l (D++[q]) acc:=by
 refine ⟨?_,fun x hx=>List.mem_append.2 (.inl (h.k x hx))⟩
 rw [List.foldl_append,h.e]
 show _=n.addP _ q
 unfold Rn.addP
 rw [if_pos (by simp [hq])]
theorem RgSt.put {n:Rn} {l acc:PL} {D:List Int} (h:RgSt n l D acc) {q:Int} (hq:q≠n.id) (hn:q ∉ D) {t:Nat × Pe} (ht:t.2=n.peerN q):
  RgSt n l (D++[q]) (acc++[(q,t)])∧putM q (Value.pointer (some ⟨t.1,0,none⟩)) (acc.map pEn)=(acc++[(q,t)]).map pEn:=by
 have hk:q ∉ acc.map (·.1):=fun hx=>hn (h.k q hx)
 refine ⟨⟨?_,fun x hx=>?_⟩,?_⟩
 ·rw [List.foldl_append,←h.e]
  show _=n.addP _ q
  unfold Rn.addP
  rw [if_neg (by simpa using hq),putM_new (by rw [List.map_map];exact hk),List.map_append,←ht];rfl
 ·rw [List.map_append] at hx
  rcases List.mem_append.1 hx with hx|hx
  ·exact List.mem_append.2 (.inl (h.k x hx))
  ·exact List.mem_append.2 (.inr (by simpa using hx))
 ·rw [putM_new (by rw [List.map_map];exact hk),List.map_append];rfl
theorem regroup_spec {p:Nat} {n:Rn} (ok:LgOk n.log) (hb:LgB n.log) (hr:rightG n.sn.g.vs n.sn.g.ls=true) (h1:1≤n.win) (h64:n.win≤64) (hw:Sat R (NAt R p n::Hs) w):
  Gets Tryz.prog 36 #[.pointer (some ⟨p,0,none⟩)] w fun v w'=>v=.tuple #[]∧∃ R',R.Ext R'∧Sat R' (NAt R' p n.regroup::Hs) w':=by
 obtain ⟨L,hn,hw⟩:=NAt.iff.1 hw
 apply call36
 refine NilP.mk rfl ⟨_,At.own (eqS hw) (by exact ⟨rfl,trivial⟩),?_⟩
 have hw:=hw.take (LgAt R L.lp n.log)
 refine (llast_spec ok hw).use ?_
 clear hw
 rintro _ w ⟨rfl,hw⟩
 refine ⟨_,rfl,?_⟩
 have hw:Sat R (NAt R p n::Hs) w:=NAt.iff.2 ⟨L,hn,hw.arr⟩
 refine (groupAt_spec ok hb n.log.last hw).use ?_
 clear hw
 have hl:=ok.last_le
 have h0:=ok.b0
 have hll:=ok.len
 have em:IntKind.i64.wrap (IntKind.i64.wrap (n.log.last + 1) - (n.log.b.ix + 1))=n.log.l.length:=by
  unfold Lg.last at *
  rw [wrap64 (x:=n.log.b.ix + (n.log.l.length:Int) + 1) (by omega) (by omega),wrap64 (by omega) (by omega)]
  omega
 rw [em]
 rintro _ w ⟨R2,gv,gl,e2,hg,rfl,hw⟩
 obtain ⟨g,eg⟩:∃ g,g=n.foldG n.log.l.length:=⟨_,rfl⟩
 rw [←eg] at hg
 have hgr:rightG g.vs g.ls=true:=by rw [eg];exact foldG_right hr _
 obtain ⟨L,hn,hw⟩:=NAt.iff.1 hw
 refine ⟨gv,gl,rfl,NilP.mk rfl ?_⟩
 refine store_rule hw (by kernel_rfl) rfl (by simp [Value.cells,putL_len]) fun w hw=>?_
 have hw:=hw.re (pts p (nCells { n with g:=g } { L with gv:=gv,gl:=gl }))
 obtain ⟨L',eL⟩:∃ L',L'={ L with gv:=gv,gl:=gl }:=⟨_,rfl⟩
 obtain ⟨n',en⟩:∃ n',n'={ n with g:=g }:=⟨_,rfl⟩
 have hn':NIn R2 n' L':=by rw [en,eL];exact ⟨hg,hn.sg,hn.sd⟩
 have hw:Sat R2 (pts p (nCells n' L')::nHs R2 n' L' Hs) w:=by rw [en,eL];exact hw
 have elv:L'.gv=gv∧L'.gl=gl:=by rw [eL];exact ⟨rfl,rfl⟩
 have eng:n'.g=g∧n'.id=n.id∧n'.win=n.win∧n'.log=n.log∧n'.ps=n.ps∧n'.e=n.e:=by rw [en];exact ⟨rfl,rfl,rfl,rfl,rfl,rfl⟩
 have ern:n.regroup={ n' with e:=n'.e.join g,ps:=if n'.e.role==3 then some (n'.newPs g) else none }:=by
  rw [en];unfold Rn.regroup;rw [←eg];rfl
 rw [ern]
 clear hg ern
 refine drw_rule' (Sat R2 [pts p (nCells n' L'),VC.tru]) hw (fun w hw=>hw.k1) fun w hw=>NilP.mk rfl ⟨_,At.own selfS (by exact ⟨rfl,trivial⟩),NilP.mk rfl ⟨L'.gv,L'.gl,At.own selfS (by exact ⟨rfl,rfl,trivial⟩),?_⟩⟩
 have hw:=hw.take (ElAt R2 L'.ep n'.e)
 refine (join_spec hn'.g hw).use ?_
 clear hw
 rintro _ w ⟨rfl,hw⟩
 rw [eng.1] at hw
 have hw:=hw.take (pts p (nCells n' L'))
 refine ⟨_,rfl,NilP.mk rfl ⟨_,At.own (eqS hw) (by exact ⟨rfl,trivial⟩),?_⟩⟩
 have hw:=hw.take (ElAt R2 L'.ep (n'.e.join g))
 refine (erole_spec hw).use ?_
 clear hw
 rintro _ w ⟨rfl,hw⟩
 have hrole:(n'.e.join g).role=n'.e.role:=by unfold Eln.join;split<;>rfl
 rw [hrole]
 have hw:=hw.take (pts p (nCells n' L'))
 refine ⟨_,rfl,Br.ne (fun h=>NilP.mk rfl ?_) (fun h=>?_)⟩
 ·refine store_rule hw (by kernel_rfl) rfl (by simp [Value.cells,putL_len]) fun w hw=>?_
  rw [if_neg (by simpa using h)]
  have hw:=hw.re (pts p (nCells { n' with e:=n'.e.join g,ps:=none } { L' with pm:=none }))
  have hw2:=(hw.take (PsAt L'.pm n'.ps)).drop
  refine ⟨rfl,R2,e2,NAt.iff.2 ⟨{ L' with pm:=none },⟨hn'.g,hn'.sg,hn'.sd⟩,?_⟩⟩
  have hw3:Sat R2 (PsAt none none::pts p (nCells { n' with e:=n'.e.join g,ps:=none } { L' with pm:=none })::ElAt R2 L'.ep (n'.e.join g)::LgAt R2 L'.lp n'.log::RsAt L'.rs n'.rs::MsAt R2 L'.ms n'.rms::RrAt L'.rr n'.rrd::Hs) w:=PsAt.none'.2 ⟨rfl,hw2⟩
  exact hw3.arr
 rw [if_pos (by simpa using h)]
 refine new_rule hw fun m2 w hw=>?_
 have hw:=MapAt.new (α:=Int) rfl hw
 refine drw_rule hw fun w hw=>NilP.mk rfl ⟨L'.gv,At.own selfS (by exact ⟨rfl,trivial⟩),NilP.mk rfl ⟨L'.gl,At.own selfS (by exact ⟨rfl,trivial⟩),new_rule hw fun b w hw=>?_⟩⟩
 have hw:=hw.take (PsAt L'.pm n'.ps)
 obtain ⟨l0,hl0,hw⟩:=PsAt.old hw
 have hw:Sat R2 (OldAt L'.pm l0::PsT [] l0::_) w:=hw.cons fun _ h=>Sat.star.2 h
 have hpeer:∀ q,n'.peer q=(getM q l0).map (·.2):=fun q=>by unfold Rn.peer;rw [hl0,pOf_get]
 have hgp:GpIn R2 g L'.gv L'.gl:=by have:=hn'.g;rwa [eng.1] at this
 have hnd:=right_nodup hgr
 have hlv:=rises_len15 (right_rises hgr)
 have hll':=rises_len15 (right_risesL hgr)
 obtain ⟨St,hSt⟩:∃ St:List Int→World→Prop,∀ D w,St D w↔∃ acc:PL,RgSt n' l0 D acc∧Sat R2 (pts p (nCells n' L')::MapAt m2 (acc.map pEn)::OldAt L'.pm l0::PsT acc (leftP l0 D)::pts b (.cells [.slice L'.gv.a L'.gv.len L'.gv.cap,.slice L'.gl.a L'.gl.len L'.gl.cap].toArray 30 (0,0))::
   ElAt R2 L'.ep (n'.e.join g)::LgAt R2 L'.lp n'.log::RsAt L'.rs n'.rs::MsAt R2 L'.ms n'.rms::RrAt L'.rr n'.rrd::Hs) w:=⟨_,fun _ _=>Iff.rfl⟩
 have h0:St [] w:=(hSt _ _).2 ⟨[],⟨rfl,fun _ h=>by cases h⟩,by
  have e:leftP l0 []=l0:=by unfold leftP;rw [List.filter_eq_self];simp
  rw [e]
  have hw:Sat R2 (MapAt m2 (([]:PL).map pEn)::_) w:=hw.take (MapAt m2 ([]:List (Int × Value)))
  exact hw.arr⟩
 clear hw
 refine ⟨fun j w=>(j=0∧St [] w)∨(j=1∧St g.vs w)∨(j=2∧St (g.vs++g.ls) w),fun j _=>2 - j.toNat,.inl ⟨rfl,h0⟩,?_⟩
 clear h0
 intro _ j w hj
 refine Br.d (fun hj2=>?_) (fun hj2=>?_)
 ·obtain ⟨s,pre,xs,hat,hjr,hxs,hnd2,hlen,hst,hnext⟩:∃ (s:Sl) (pre xs:List Int),At (fun w'=>w'=w) (Addr.add ⟨b,0,none⟩ j.toNat) [.slice s.a s.len s.cap]∧(0≤j∧j<2)∧RoI R2 s xs∧(pre++xs).Nodup∧xs.length≤15∧St pre w∧
    ∀ w,St (pre++xs) w→(IntKind.i64.wrap (j + 1)=0∧St [] w)∨(IntKind.i64.wrap (j + 1)=1∧St g.vs w)∨(IntKind.i64.wrap (j + 1)=2∧St (g.vs++g.ls) w):=by
   rcases hj with ⟨rfl,hst⟩|⟨rfl,hst⟩|⟨rfl,_⟩
   ·obtain ⟨acc,_,hw⟩:=(hSt _ _).1 hst
    exact ⟨L'.gv,[],g.vs,At.own (eqS hw) (by exact ⟨rfl,trivial⟩),by omega,hgp.v,(List.nodup_append.1 hnd).1,hlv,hst,fun w h=>.inr (.inl ⟨rfl,h⟩)⟩
   ·obtain ⟨acc,_,hw⟩:=(hSt _ _).1 hst
    exact ⟨L'.gl,g.vs,g.ls,At.own (eqS hw) (by exact ⟨rfl,trivial⟩),by omega,hgp.l,hnd,hll',hst,fun w h=>.inr (.inr ⟨rfl,h⟩)⟩
   ·exact absurd hj2 (by omega)
  have hsl:=RoI.len hxs
  refine Rng.mk hjr.1 (by omega) ⟨s,hat,?_⟩
  refine ⟨fun i w=>∃ k:Nat,i=k∧k≤xs.length∧St (pre++xs.take k) w,fun i _=>xs.length - i.toNat,⟨0,rfl,Nat.zero_le _,by simpa using hst⟩,?_⟩
  clear hst hat
  rintro _ _ w ⟨k,rfl,hk,hst⟩
  refine Br.d (fun h2=>?_) (fun h2=>?_)
  ·have hk':k<xs.length:=by omega
   obtain ⟨acc,hacc,hw⟩:=(hSt _ _).1 hst
   clear hst
   have hqn:=nodup_at hnd2 hk'
   have ed:pre++xs.take (k + 1)=(pre++xs.take k)++[xs[k]]:=by rw [List.take_succ_eq_append_getElem hk',List.append_assoc]
   obtain ⟨q,hq⟩:∃ q,q=xs[k]:=⟨_,rfl⟩
   obtain ⟨D,hD⟩:∃ D,D=pre++xs.take k:=⟨_,rfl⟩
   refine RoI.idx hxs (eqS hw) hk' ?_
   rw [←hq,←hD] at hqn ed
   rw [←hD] at hacc hw
   rw [←hq]
   have next:∀ w,St (D++[q]) w→(∃ k_1:Nat,IntKind.i64.wrap ((k:Int) + 1)=k_1∧k_1≤xs.length∧St (pre++xs.take k_1) w)∧xs.length - (IntKind.i64.wrap ((k:Int) + 1)).toNat<xs.length - ((k:Int)).toNat:=fun w h=>by
    rw [wrap64 (by omega) (by omega)]
    exact ⟨⟨k + 1,by omega,hk',by rw [ed];exact h⟩,by omega⟩
   refine NilP.mk rfl ⟨L'.pm,At.own (eqS hw) (by exact ⟨rfl,trivial⟩),(getM q l0).map fun t=>⟨t.1,0,none⟩,(getM q l0).isSome,fun w' h=>by subst h;exact OldAt.look (hw.take (OldAt L'.pm l0)) q,NilP.mk rfl ⟨n'.id,At.own (eqS hw) (by exact ⟨rfl,trivial⟩),?_⟩⟩
   refine Br.e (fun h3=>next _ ?_) (fun h3=>Br.nb (fun h4=>?_) (fun h4=>?_))
   ·refine (hSt _ _).2 ⟨acc,hacc.skip h3,?_⟩
    have h5:=(hw.take (PsT acc (leftP l0 D))).cons fun _ h=>h
    have h6:=PsT.sub (leftP_snoc l0 D q) h5
    exact h6.arr
   ·have hnone:getM q l0=none:=by simpa using h4
    refine drw_rule' (Sat R2 [pts p (nCells n' L'),VC.tru]) hw (fun w hw=>hw.k1) fun w hw=>NilP.mk rfl ⟨_,At.own selfS (by exact ⟨rfl,trivial⟩),NilP.mk rfl ⟨n'.win,At.own selfS (by exact ⟨rfl,trivial⟩),?_⟩⟩
    have hw:=hw.take (LgAt R2 L'.lp n'.log)
    have ok':LgOk n'.log:=by rw [eng.2.2.2.1];exact ok
    refine (llast_spec ok' hw).use ?_
    clear hw
    rintro _ w ⟨rfl,hw⟩
    have hlast:n'.log.last=n.log.last:=by rw [eng.2.2.2.1]
    have hlb:0≤n.log.last:=by unfold Lg.last;omega
    refine ⟨_,rfl,hw.k1,?_⟩
    rw [hlast,wrap64 (by omega) (by omega)]
    have emin:(if 1099511627776<n.log.last + 1 then 1099511627776 else n.log.last + 1)=min (n'.log.last + 1) 1099511627776:=by rw [hlast];split<;>omega
    rw [emin]
    refine (pnew_spec (by rw [hlast];omega) (by omega) (by rw [eng.2.2.1];exact h1) (by rw [eng.2.2.1];exact h64) hw).use ?_
    clear hw
    rintro _ w ⟨c,rfl,hw⟩
    refine ⟨_,_,rfl,hw.k1,?_⟩
    have hput:=hacc.put (q:=q) h3 hqn (t:=(c,Pe.new (min (n'.log.last + 1) 1099511627776) n'.win)) (by unfold Rn.peerN;rw [hpeer,hnone];rfl)
    have hw:=hw.take (MapAt m2 (acc.map pEn))
    refine MapAt.put mapP hw q (.pointer (some ⟨c,0,none⟩)) fun w hw=>next _ ?_
    rw [hput.2] at hw
    have h5:Sat R2 (PeAt c (Pe.new (min (n'.log.last + 1) 1099511627776) n'.win)::_) w:=hw.take (PeAt c (Pe.new (min (n'.log.last + 1) 1099511627776) n'.win))
    have h6:=h5.cons fun _ h=>h.take (PsT acc (leftP l0 D))
    have h7:=PsT.new (x:=(q,c,Pe.new (min (n'.log.last + 1) 1099511627776) n'.win)) h6
    have h8:=PsT.sub (leftP_snoc l0 D q) h7
    exact (hSt _ _).2 ⟨_,hput.1,h8.arr⟩
   ·obtain ⟨t,ht⟩:=Option.isSome_iff_exists.1 h4
    obtain ⟨a,c,hac,hsub⟩:=leftP_take ht hqn
    have hput:=hacc.put (q:=q) h3 hqn (t:=t) (by unfold Rn.peerN;rw [hpeer,ht];rfl)
    rw [ht]
    have hw:=hw.take (MapAt m2 (acc.map pEn))
    refine MapAt.put mapP hw q (.pointer (some ⟨t.1,0,none⟩)) fun w hw=>next _ ?_
    rw [hput.2] at hw
    have h6:=hw.take (PsT acc (leftP l0 D))
    rw [hac] at h6
    have h7:=PsT.take hsub h6
    exact (hSt _ _).2 ⟨_,hput.1,h7.arr⟩
  ·have:k=xs.length:=by omega
   subst this
   rw [List.take_length] at hst
   refine ⟨hnext _ hst,?_⟩
   rw [wrap64 (by omega) (by omega)]
   show 2 - (j + 1).toNat<2 - j.toNat
   omega
 ·obtain ⟨acc,hacc,hw⟩:∃ acc:PL,RgSt n' l0 (g.vs++g.ls) acc∧Sat R2 (pts p (nCells n' L')::MapAt m2 (acc.map pEn)::OldAt L'.pm l0::PsT acc (leftP l0 (g.vs++g.ls))::pts b (.cells [.slice L'.gv.a L'.gv.len L'.gv.cap,.slice L'.gl.a L'.gl.len L'.gl.cap].toArray 30 (0,0))::
   ElAt R2 L'.ep (n'.e.join g)::LgAt R2 L'.lp n'.log::RsAt L'.rs n'.rs::MsAt R2 L'.ms n'.rms::RrAt L'.rr n'.rrd::Hs) w:=by
   rcases hj with ⟨rfl,_⟩|⟨rfl,_⟩|⟨rfl,hst⟩
   ·exact absurd (show (0:Int)<2 by omega) hj2
   ·exact absurd (show (1:Int)<2 by omega) hj2
   ·exact (hSt _ _).1 hst
  refine NilP.mk rfl ?_
  refine store_rule hw (by kernel_rfl) rfl (by simp [Value.cells,putL_len]) fun w hw=>?_
  have hw:=hw.re (pts p (nCells { n' with e:=n'.e.join g,ps:=some (n'.newPs g) } { L' with pm:=some m2 }))
  have h2:=(hw.take (MapAt m2 (acc.map pEn))).cons fun _ h=>PsT.done (h.take (PsT acc (leftP l0 (g.vs++g.ls))))
  have h3:=PsAt.some'.2 ⟨acc,show some (n'.newPs g)=some (acc.map pOf) by unfold Rn.newPs;rw [hacc.e],h2⟩
  have h4:=(h3.take (OldAt L'.pm l0)).drop
  have h5:=(h4.take (pts b (.cells [.slice L'.gv.a L'.gv.len L'.gv.cap,.slice L'.gl.a L'.gl.len L'.gl.cap].toArray 30 (0,0)))).drop
  exact ⟨rfl,R2,e2,NAt.iff.2 ⟨{ L' with pm:=some m2 },⟨hn'.g,hn'.sg,hn'.sd⟩,h5.arr⟩⟩
end Go.Proofs.YthpmfnffkjjlnaaGreat
/-
  DERIVED: THE SHELF's CONTRACTS AT THIS DUMP, IN PLAIN WORDS (tools/lay-plain.mjs out of 'TryIter.lean', which tools/lay-shelf.mjs wrote): THE SAME DECLARATIONS UNDER THE SAME NAMES: 'import', 'namespace', 'open', 'def', 'theorem' AND NOTHING ELSE: no command of the shelf's: FOR A HAND-IN. Each laying: the table of numbers ('.._ren') and one theorem, a field a fact of the dump's own or the kernel's comparison; each contract: ONE APPLICATION.
-/
namespace Go.Proofs
set_option linter.unusedVariables false
set_option linter.unusedSimpArgs false
open Go.Shelf
def Tryz.sorted101_ren:Go.Shelf.Ren:=⟨fun|6=>101|8=>163|9=>118|11=>214|13=>168|12=>167|23=>224|24=>120|14=>215|15=>216|16=>217|17=>218|18=>219|19=>220|20=>221|21=>222|22=>223|25=>243|26=>244|27=>245|28=>246|29=>247|30=>248|31=>254|n=>n,fun|26=>3|28=>169|24=>30|0=>0|3=>3|37=>199|48=>224|50=>121|4=>4|40=>218|39=>217|45=>165|5=>5|9=>9|51=>243|55=>212|57=>252|58=>253|33=>142|n=>n,fun|n=>n⟩
theorem Tryz.sorted101:Go.Proofs.SlLaysZI.n6 Tryz.prog Tryz.sorted101_ren:={
  mixed:=by kernel_rfl
  f6:=⟨Tryz.f101.name,by decide,Tryz.func101.trans (congrArg some (by kernel_rfl))⟩
  f8:=⟨Tryz.f163.name,by decide,Tryz.func163.trans (congrArg some (by kernel_rfl))⟩
  f11:=⟨Tryz.f214.name,by decide,Tryz.func214.trans (congrArg some (by kernel_rfl))⟩
  t0:=Tryz.underlying0
  a0:=Tryz.isAgg0
  z0:=Tryz.sizeOf0
  v0:=Tryz.zeroValue0
  t24:=Tryz.underlying30
  a24:=Tryz.isAgg30
  z24:=Tryz.sizeOf30
  v24:=Tryz.zeroValue30
  t26:=Tryz.underlying3
  a26:=Tryz.isAgg3
  z26:=Tryz.sizeOf3
  v26:=Tryz.zeroValue3
  t28:=Tryz.underlying169
  a28:=Tryz.isAgg169
  z28:=Tryz.sizeOf169
  v28:=Tryz.zeroValue169
  i26:=by kernel_rfl }
def Tryz.sort118_ren:Go.Shelf.Ren:=⟨fun|5=>118|8=>168|7=>167|19=>224|20=>120|10=>215|11=>216|12=>217|13=>218|14=>219|15=>220|16=>221|17=>222|18=>223|30=>243|31=>244|32=>245|33=>246|34=>247|35=>248|40=>254|n=>n,fun|23=>30|25=>3|3=>3|32=>199|22=>30|0=>0|44=>224|46=>121|4=>4|36=>218|35=>217|41=>165|5=>5|9=>9|53=>243|57=>212|63=>252|64=>253|n=>n,fun|n=>n⟩
theorem Tryz.sort118:Go.Proofs.SlLaysM.n5 Tryz.prog Tryz.sort118_ren:={
  mixed:=by kernel_rfl
  f5:=⟨Tryz.f118.name,by decide,Tryz.func118.trans (congrArg some (by kernel_rfl))⟩
  f7:=⟨Tryz.f167.name,by decide,Tryz.func167.trans (congrArg some (by kernel_rfl))⟩
  f8:=Tryz.func168.trans (congrArg some (by kernel_rfl))
  f10:=⟨Tryz.f215.name,by decide,Tryz.func215.trans (congrArg some (by kernel_rfl))⟩
  f11:=⟨Tryz.f216.name,by decide,Tryz.func216.trans (congrArg some (by kernel_rfl))⟩
  f12:=⟨Tryz.f217.name,by decide,Tryz.func217.trans (congrArg some (by kernel_rfl))⟩
  f13:=⟨Tryz.f218.name,by decide,Tryz.func218.trans (congrArg some (by kernel_rfl))⟩
  f14:=⟨Tryz.f219.name,by decide,Tryz.func219.trans (congrArg some (by kernel_rfl))⟩
  f15:=⟨Tryz.f220.name,by decide,Tryz.func220.trans (congrArg some (by kernel_rfl))⟩
  f16:=⟨Tryz.f221.name,by decide,Tryz.func221.trans (congrArg some (by kernel_rfl))⟩
  f17:=⟨Tryz.f222.name,by decide,Tryz.func222.trans (congrArg some (by kernel_rfl))⟩
  f18:=⟨Tryz.f223.name,by decide,Tryz.func223.trans (congrArg some (by kernel_rfl))⟩
  f19:=Tryz.func224.trans (congrArg some (by kernel_rfl))
  f20:=Tryz.func120.trans (congrArg some (by kernel_rfl))
  f30:=⟨Tryz.f243.name,by decide,Tryz.func243.trans (congrArg some (by kernel_rfl))⟩
  f31:=Tryz.func244.trans (congrArg some (by kernel_rfl))
  f32:=Tryz.func245.trans (congrArg some (by kernel_rfl))
  f33:=⟨Tryz.f246.name,by decide,Tryz.func246.trans (congrArg some (by kernel_rfl))⟩
  f34:=⟨Tryz.f247.name,by decide,Tryz.func247.trans (congrArg some (by kernel_rfl))⟩
  f35:=⟨Tryz.f248.name,by decide,Tryz.func248.trans (congrArg some (by kernel_rfl))⟩
  f40:=⟨Tryz.f254.name,by decide,Tryz.func254.trans (congrArg some (by kernel_rfl))⟩
  t0:=Tryz.underlying0
  a0:=Tryz.isAgg0
  z0:=Tryz.sizeOf0
  v0:=Tryz.zeroValue0
  t3:=Tryz.underlying3
  a3:=Tryz.isAgg3
  z3:=Tryz.sizeOf3
  v3:=Tryz.zeroValue3
  t4:=Tryz.underlying4
  a4:=Tryz.isAgg4
  z4:=Tryz.sizeOf4
  v4:=Tryz.zeroValue4
  t5:=Tryz.underlying5
  a5:=Tryz.isAgg5
  z5:=Tryz.sizeOf5
  v5:=Tryz.zeroValue5
  t9:=Tryz.underlying9
  a9:=Tryz.isAgg9
  z9:=Tryz.sizeOf9
  v9:=Tryz.zeroValue9
  t22:=Tryz.underlying30
  a22:=Tryz.isAgg30
  z22:=Tryz.sizeOf30
  v22:=Tryz.zeroValue30
  t23:=Tryz.underlying30
  a23:=Tryz.isAgg30
  z23:=Tryz.sizeOf30
  v23:=Tryz.zeroValue30
  t25:=Tryz.underlying3
  a25:=Tryz.isAgg3
  z25:=Tryz.sizeOf3
  v25:=Tryz.zeroValue3
  t32:=Tryz.underlying199
  a32:=Tryz.isAgg199
  z32:=Tryz.sizeOf199
  v32:=Tryz.zeroValue199
  t35:=Tryz.underlying217
  a35:=Tryz.isAgg217
  z35:=Tryz.sizeOf217
  v35:=Tryz.zeroValue217
  t36:=Tryz.underlying218
  a36:=Tryz.isAgg218
  z36:=Tryz.sizeOf218
  v36:=Tryz.zeroValue218
  t41:=Tryz.underlying165
  a41:=Tryz.isAgg165
  z41:=Tryz.sizeOf165
  v41:=Tryz.zeroValue165
  t44:=Tryz.underlying224
  a44:=Tryz.isAgg224
  z44:=Tryz.sizeOf224
  v44:=Tryz.zeroValue224
  t46:=Tryz.underlying121
  a46:=Tryz.isAgg121
  z46:=Tryz.sizeOf121
  v46:=Tryz.zeroValue121
  t53:=Tryz.underlying243
  a53:=Tryz.isAgg243
  z53:=Tryz.sizeOf243
  v53:=Tryz.zeroValue243
  t57:=Tryz.underlying212
  a57:=Tryz.isAgg212
  z57:=Tryz.sizeOf212
  v57:=Tryz.zeroValue212
  t63:=Tryz.underlying252
  a63:=Tryz.isAgg252
  z63:=Tryz.sizeOf252
  v63:=Tryz.zeroValue252
  t64:=Tryz.underlying253
  a64:=Tryz.isAgg253
  z64:=Tryz.sizeOf253
  v64:=Tryz.zeroValue253 }
open Go.RowKit Go.Maps Go.Sort Go.Shelf in
theorem Tryz.sorts101 (m:Nat):AnyZI.SortsIn Tryz.prog Tryz.sorted101_ren Fence.wide m:=
  ⟨fun blk off cap ss W hH hblk hsz=>callsIn_wide.2 (AnyM.slices_Sort_int Tryz.sort118 blk off cap ss W hH hblk hsz),
   fun p cap W=>callsIn_wide.2 (AnyM.slices_Sort_int_none Tryz.sort118 p cap W)⟩
def Tryz.keys102_ren:Go.Shelf.Ren:=⟨fun|7=>102|10=>164|n=>n,fun|23=>55|26=>3|3=>106|28=>169|0=>0|27=>168|33=>142|4=>4|n=>n,fun|n=>n⟩
theorem Tryz.keys102:Go.Proofs.SlLaysZI.n7 Tryz.prog Tryz.keys102_ren:={
  mixed:=by kernel_rfl
  f7:=⟨Tryz.f102.name,by decide,Tryz.func102.trans (congrArg some (by kernel_rfl))⟩
  f10:=⟨Tryz.f164.name,by decide,Tryz.func164.trans (congrArg some (by kernel_rfl))⟩
  t0:=Tryz.underlying0
  a0:=Tryz.isAgg0
  z0:=Tryz.sizeOf0
  v0:=Tryz.zeroValue0
  t4:=Tryz.underlying4
  a4:=Tryz.isAgg4
  z4:=Tryz.sizeOf4
  v4:=Tryz.zeroValue4
  t23:=Tryz.underlying55
  a23:=Tryz.isAgg55
  z23:=Tryz.sizeOf55
  v23:=Tryz.zeroValue55
  t26:=Tryz.underlying3
  a26:=Tryz.isAgg3
  z26:=Tryz.sizeOf3
  v26:=Tryz.zeroValue3
  t27:=Tryz.underlying168
  a27:=Tryz.isAgg168
  z27:=Tryz.sizeOf168
  v27:=Tryz.zeroValue168
  t28:=Tryz.underlying169
  a28:=Tryz.isAgg169
  z28:=Tryz.sizeOf169
  v28:=Tryz.zeroValue169
  t33:=Tryz.underlying142
  a33:=Tryz.isAgg142
  z33:=Tryz.sizeOf142
  v33:=Tryz.zeroValue142 }
open Go.RowKit Go.Maps Go.Sort Go.Shelf in
theorem Tryz.maps_Keys_102 (mb:Option Nat) (W:World):CallsIn Fence.wide 5 Tryz.prog 102 #[.map mb] W fun e w'=>e=.returned (.func (.func 164) #[] #[.pointer (some ⟨W.heap.size,0,none⟩)])∧w'=W.alloc (.cells #[.map mb] 55):=
  AnyZI.keys_in Tryz.keys102 Fence.wide 5 trivial rfl mb W
open Go.RowKit Go.Maps Go.Sort Go.Shelf in
theorem Tryz.slices_Sorted_keys_101_102 {H:Type} (b nn:Nat) (D0:DataW H) (R:Value→Option (DataW H × List MemPlace)) (w:World) (hown:w.ownsMap Tryz.prog 3 R b nn D0) (hmax:Maps.size D0≤maxLen) (hbytes:Maps.size D0 * 8≤140737488355328):
    CallsIn Fence.wide 5 Tryz.prog 101 #[.func (.func 164) #[] #[.pointer (some ⟨w.heap.size,0,none⟩)]] (w.alloc (.cells #[.map (some b)] 55)) fun e w'=>∃ (v:Value) (ss:List Int),e=.returned v∧ss.Perm (intKeys D0)∧
      w'.ownsRow (w.alloc (.cells #[.map (some b)] 55)).heap.size 3 1 v ss.length ((ss.mergeSort (fun x y=>decide (x≤y))).map encZ)∧(v=.slice none 0 0↔ss=[])∧Below (w.alloc (.cells #[.map (some b)] 55)).heap.size (w.alloc (.cells #[.map (some b)] 55)) w':=by
  have hbl:=hown.lt
  have hseq:SeqGives Fence.wide 2 Tryz.prog 164 #[.pointer (some ⟨w.heap.size,0,none⟩)] encZ (fun ss=>ss.Perm (intKeys D0)) (Maps.size D0) (w.alloc (.cells #[.map (some b)] 55)):=
    AnyZI.keys_gives (ρ:=Tryz.keys102_ren) { Tryz.keys102 with } Fence.wide _ trivial rfl (by omega) w.heap.size b nn D0 _ (by simp) (by simp) (by
      obtain ⟨es,clock,hb,Ft,hs,hD⟩:=hown
      exact ⟨es,clock,(Below.heap_alloc _ _ b hbl).trans hb,Ft,hs,hD⟩)
  exact AnyZI.sorted_in Tryz.sorted101 Fence.wide 5 trivial trivial trivial trivial rfl (by omega) (Tryz.sorts101 _) (enters_of Tryz.func118 (by kernel_rfl) rfl) 164 #[.pointer (some ⟨w.heap.size,0,none⟩)] trivial (enters_of Tryz.func164 (by kernel_rfl) rfl) _ _ hmax hbytes _ hseq
end Go.Proofs
/- A node of a group: its members, its messages, its log. Condition: bounds on numbers. -/
namespace Go.Proofs.YthpmfnffkjjlnaaGreat
set_option linter.unusedVariables false
set_option linter.unusedSimpArgs false
open Go Go.VC
open Go.Rf (Ey Lg LgOk)
variable {R R' R1 R2:Cx} {Hs Rest Rest2:List HP} {w:World}
theorem keysI_map {m c:Nat} {l:List (En Int)} {es:List (Int × Value)} (hs:strip l=es) (hst:StampsOk l c) (hu:(es.map (·.1)).Nodup) (hn:∀ k∈es.map (·.1),-1000000000≤k∧k≤1000000000) (hlen:es.length≤1000000)
  (hm:w.heap[m]? =some (.map (l.map mkE).toArray c)):
  ∃ D0:DataW Unit,w.ownsMap Tryz.prog 3 (fun _=>some (.nil,[])) m 1000000 D0∧Maps.size D0≤1000000∧∀ ss:List Int,ss.Perm (intKeys D0)→ss.Perm (es.map (·.1)):=by
 have hkeys:l.map (·.1)=es.map (·.1):=by rw [←hs];simp [strip,Function.comp_def]
 have hlen2:l.length=es.length:=by have:=congrArg List.length hkeys;simpa using this
 have hkey:∀ e∈l,keyOf Tryz.prog 3 (mkE e).key=some (.int .i64 e.1):=fun e he=>by
  have hm:e.1∈es.map (·.1):=by rw [←hkeys];exact List.mem_map_of_mem he
  have hsz:=hn _ hm
  have hwf:(Lit.int .i64 e.1).wf=true:=by
   have h1:IntKind.i64.min=-9223372036854775808:=by decide
   have h2:IntKind.i64.max=9223372036854775807:=by decide
   simp only [Lit.wf,Bool.and_eq_true,decide_eq_true_eq];omega
  simp only [keyOf,Tryz.underlying3,mkE,mapKey,KeyK.enc]
  rw [if_pos ⟨trivial,hwf⟩]
 have hrd:∀ e∈l,WideElems.rd Tryz.prog 3 (fun _=>some ((.nil:DataW Unit),[])) (mkE e)=some (.int .i64 e.1,.nil):=fun e he=>by
  unfold WideElems.rd
  rw [hkey e he];rfl
 have hrg:((l.map mkE).map (WideElems.rg Tryz.prog 3 (fun _=>some ((.nil:DataW Unit),[]))))=l.map fun e=>(.int .i64 e.1,.nil):=by
  rw [List.map_map]
  apply List.map_congr_left
  intro e he
  simp only [Function.comp,WideElems.rg,hrd e he,Option.getD_some]
 refine ⟨_,⟨(l.map mkE).toArray,c,hm,⟨by simp [maxLen];omega,?_,?_⟩,by simp;omega,rfl⟩,?_,?_⟩
 ·refine ⟨fun x hx=>?_,?_,?_⟩
  ·simp only [List.mem_map] at hx
   obtain ⟨e,he,rfl⟩:=hx
   exact hst.1 e he
  ·have:=hst.2;simpa [mkE,Function.comp_def] using this
  ·have h2:(l.map (·.1)).Nodup:=by rw [hkeys];exact hu
   have e1:((l.map mkE).toArray.toList.map (·.key))=(l.map (·.1)).map (Value.int .i64):=by simp [mkE,Function.comp_def,KeyK.enc]
   rw [e1]
   exact List.Pairwise.map _ (fun a b hab h=>hab (by injection h)) h2
 ·intro x hx
  simp only [List.mem_map] at hx
  obtain ⟨e,he,rfl⟩:=hx
  exact ⟨_,hrd e he⟩
 ·simp only [Maps.size,hrg]
  rw [(WideShapes.sorted_perm _).length_eq];simp;omega
 ·intro ss hss
  refine hss.trans ?_
  simp only [intKeys,hrg]
  refine ((WideShapes.sorted_perm _).map _).trans ?_
  rw [List.map_map,←hkeys]
  exact List.Perm.of_eq (List.map_congr_left fun e _=>rfl)
theorem sortL_of_perm {a b:List Int} (h:a.Perm b):sortL a=sortL b:=by
 have tr:∀ a b c:Int,decide (a≤b)=true→decide (b≤c)=true→decide (a≤c)=true:=fun a b c h1 h2=>by simp only [decide_eq_true_eq] at *;omega
 have to:∀ a b:Int,(decide (a≤b)||decide (b≤a))=true:=fun a b=>by simp only [Bool.or_eq_true,decide_eq_true_eq];omega
 have s1:=List.pairwise_mergeSort tr to a
 have s2:=List.pairwise_mergeSort tr to b
 have p:(a.mergeSort fun x y=>decide (x≤y)).Perm (b.mergeSort fun x y=>decide (x≤y)):=(List.mergeSort_perm a _).trans (h.trans (List.mergeSort_perm b _).symm)
 exact List.Perm.eq_of_pairwise (fun a b _ _ h1 h2=>by simp only [decide_eq_true_eq] at h1 h2;omega) s1 s2 p
theorem sortedP_rule {m:Nat} {es:List (Int × Value)} {K:Sl→World→Prop} (hu:(es.map (·.1)).Nodup) (hn:∀ k∈es.map (·.1),-1000000000≤k∧k≤1000000000) (hlen:es.length≤1000000) (hw:Sat R (MapAt m es::Hs) w)
  (k:∀ s w',Sat R (Own s 3 (ints (sortL (es.map (·.1))))::MapAt m es::Hs) w'→K s w'):
  Calls Tryz.prog 102 #[.map (some m)] w fun e w1=>∃ t:Value,e=.returned t∧Calls Tryz.prog 101 #[t] w1 fun e w2=>∃ t:Sl,e=.returned (.slice t.a t.len t.cap)∧K t w2:=by
 obtain ⟨l,c,hs,hst,hp⟩:=MapAt.iff.1 hw
 obtain ⟨D0,hown,hsz,hperm⟩:=keysI_map hs hst hu hn hlen hp.at
 refine (callsIn_wide.1 (Tryz.maps_Keys_102 (some m) w)).mono ?_
 rintro _ _ ⟨rfl,rfl⟩
 refine ⟨_,rfl,?_⟩
 refine (callsIn_wide.1 (Tryz.slices_Sorted_keys_101_102 m _ D0 _ w hown (by unfold maxLen;omega) (by omega))).mono ?_
 rintro _ w' ⟨v,ss,rfl,hS,hrow,hnil,hb⟩
 have hw1:Sat R (MapAt m es::Hs) (w.alloc (.cells #[.map (some m)] 55)):=(Sat.alloc _ hw).drop
 obtain ⟨s,rfl,h3⟩:=Sat.ownsRow hw1 hb hrow
 refine ⟨s,rfl,k s _ ?_⟩
 rw [←sortL_of_perm (hperm ss hS)]
 exact h3
structure PKeys (id:Int) (ps:List (Int × Pe)):Prop where
 nd:(ps.map (·.1)).Nodup
 rg:∀ k∈ps.map (·.1),1≤k∧k≤15∧k≠id
theorem PKeys.len {id:Int} {ps:List (Int × Pe)} (h:PKeys id ps):ps.length≤15:=by
 have:=nodup15 h.nd fun x hx=>⟨(h.rg x hx).1,(h.rg x hx).2.1⟩
 simpa using this
theorem members_spec {p:Nat} {n:Rn} {l:List (Int × Pe)} (hp:n.ps=some l) (hk:PKeys n.id l) (hw:Sat R (NAt R p n::Hs) w):
  Gets Tryz.prog 41 #[.pointer (some ⟨p,0,none⟩)] w fun v w'=>∃ s:Sl,v=.slice s.a s.len s.cap∧Sat R (Own s 3 (ints n.mem)::NAt R p n::Hs) w':=by
 obtain ⟨L,hn,hw⟩:=NAt.iff.1 hw
 apply call41
 refine NilP.mk rfl ⟨L.pm,At.own (eqS hw) (by exact ⟨rfl,trivial⟩),?_⟩
 have hw:=hw.take (PsAt L.pm n.ps)
 cases hpm:L.pm with
 |none=>
  rw [hpm] at hw
  have:=(PsAt.none'.1 hw).1
  rw [hp] at this;cases this
 |some m=>
 rw [hpm] at hw
 obtain ⟨pl,hpl,hw⟩:=PsAt.some'.1 hw
 have epl:l=pl.map pOf:=by rw [hp] at hpl;exact Option.some.inj hpl
 have ek:(pl.map pEn).map (·.1)=l.map (·.1):=by rw [epl,List.map_map,List.map_map];rfl
 have hlen:=hk.len
 have epll:l.length=pl.length:=by rw [epl,List.length_map]
 refine sortedP_rule (by rw [ek];exact hk.nd) (fun k h=>by rw [ek] at h;have:=hk.rg k h;omega) (by rw [List.length_map];omega) hw fun s w hw=>⟨s,rfl,?_⟩
 rw [ek] at hw
 have e:n.mem=sortL (l.map (·.1)):=by unfold Rn.mem;rw [hp];rfl
 rw [e]
 refine hw.cons fun _ h=>NAt.iff.2 ⟨L,hn,?_⟩
 have h2:=PsAt.some'.2 ⟨pl,hpl,h⟩
 rw [←hpm] at h2
 have h3:Sat _ (PsAt L.pm n.ps::pts p (nCells n L)::ElAt _ L.ep n.e::LgAt _ L.lp n.log::RsAt L.rs n.rs::MsAt _ L.ms n.rms::RrAt L.rr n.rrd::Hs) _:=h2
 exact h3.arr
theorem elMg:ElN Tryz.prog 41 41 71 16 192:=⟨Tryz.underlying41,⟨_,Tryz.underlying41⟩,by kernel_rfl⟩
abbrev mgVal (t:MLo × Mg):Value:=.agg #[.int .i64 t.2.kd,.int .i64 t.2.fr,.int .i64 t.2.to',.int .i64 t.2.tm,.int .i64 t.2.ix,.int .i64 t.2.lt,.bool t.2.yes,.int .i64 t.2.com,.int .i64 t.2.hint,.int .i64 t.2.rnd,
 .slice t.1.e.a t.1.e.len t.1.e.cap,.int .i64 t.2.sn.ix,.int .i64 t.2.sn.tm,.slice t.1.v.a t.1.v.len t.1.v.cap,.slice t.1.l.a t.1.l.len t.1.l.cap,.slice t.1.d.a t.1.d.len t.1.d.cap]
theorem MsAt.push {s:Sl} {ms:List Mg} {m:Mg} {L:MLo} {b:Nat} {T':TypeId} {K:Sl→World→Prop} (hm:MgIn R m L) (hl:ms.length≤1000000000) (hw:Sat R (pts b (.cells (mgRow (L,m)).toArray T' (0,0))::MsAt R s ms::Hs) w)
  (k:∀ s' w',Sat R (MsAt R s' (ms++[m])::Hs) w'→K s' w'):
  ∃ w',∃ t:Sl,(Builtin.append_ #[ 41,41 ] 41 #[.slice s.a s.len s.cap,.slice (some ⟨b,0,none⟩) 1 1]).run Tryz.prog w=.ok (.slice t.a t.len t.cap) w'∧K t w':=by
 obtain ⟨l,hl2,hw⟩:=MsAt.iff.1 hw.swap
 have hll:l.length=ms.length:=by rw [←hl2.1,List.length_map]
 refine pushN_in elMg hw rfl rfl (by rw [List.length_map];omega) (by rw [List.length_map];omega) fun s2 w hw=>k s2 w ?_
 refine MsAt.iff.2 ⟨l++[(L,m)],⟨by rw [List.map_append,hl2.1];rfl,fun t ht=>?_⟩,by rw [List.map_append];exact hw⟩
 rcases List.mem_append.1 ht with ht|ht
 ·exact hl2.2 t ht
 ·simp at ht;subst ht;exact hm
theorem own_spec {p:Nat} {n:Rn} (ok:LgOk n.log) (hw:Sat R (NAt R p n::Hs) w):
  Gets Tryz.prog 49 #[.pointer (some ⟨p,0,none⟩)] w fun v w'=>v=.bool n.own∧Sat R (NAt R p n::Hs) w':=by
 obtain ⟨L,hn,hw⟩:=NAt.iff.1 hw
 apply call49
 refine drw_rule' (Sat R [pts p (nCells n L),VC.tru]) hw (fun w hw=>hw.k1) fun w hw=>NilP.mk rfl ⟨_,At.own selfS (by exact ⟨rfl,trivial⟩),NilP.mk rfl ⟨_,At.own selfS (by exact ⟨rfl,trivial⟩),?_⟩⟩
 have hw:=hw.take (LgAt R L.lp n.log)
 refine (lcommitted_spec hw).use ?_
 clear hw
 rintro _ w ⟨rfl,hw⟩
 refine ⟨_,rfl,hw.k1,?_⟩
 refine (lterm_spec ok _ hw).use ?_
 clear hw
 rintro _ w ⟨rfl,hw⟩
 unfold Rn.own
 refine ⟨_,_,rfl,hw.k1,Br.mk (fun h=>NilP.mk rfl ⟨_,At.own (eqS hw) (by exact ⟨rfl,trivial⟩),?_⟩) (fun h=>⟨by rw [h];rfl,NAt.iff.2 ⟨L,hn,hw.arr⟩⟩)⟩
 have hw:=hw.take (ElAt R L.ep n.e)
 refine (ehard_spec hw).use ?_
 clear hw
 rintro _ w ⟨rfl,hw⟩
 refine ⟨_,_,rfl,Br.mk (fun h2=>NilP.mk rfl ⟨_,At.own (eqS hw) (by exact ⟨rfl,trivial⟩),?_⟩) (fun h2=>⟨by rw [h,h2];rfl,NAt.iff.2 ⟨L,hn,hw.arr⟩⟩)⟩
 refine (erole_spec hw).use ?_
 clear hw
 rintro _ w ⟨rfl,hw⟩
 exact ⟨_,rfl,by rw [h,h2];rfl,NAt.iff.2 ⟨L,hn,hw.arr⟩⟩
end Go.Proofs.YthpmfnffkjjlnaaGreat
/- A node of a group: entries that are put in. Condition: bounds on numbers. -/
namespace Go.Proofs.YthpmfnffkjjlnaaGreat
set_option linter.unusedVariables false
set_option linter.unusedSimpArgs false
open Go Go.VC
open Go.Rf (Ey Lg LgOk)
variable {R R' R1 R2:Cx} {Hs Rest Rest2:List HP} {w:World} {p:Nat} {n:Rn}
theorem NAt.mkX {L:NLo} (hn:NIn R1 n L) (e:R1.Ext R) (hw:Sat R (pts p (nCells n L)::ElAt R1 L.ep n.e::LgAt R L.lp n.log::PsAt L.pm n.ps::RsAt L.rs n.rs::MsAt R1 L.ms n.rms::RrAt L.rr n.rrd::Hs) w):Sat R (NAt R p n::Hs) w:=
 NAt.iff.2 ⟨L,hn.ext e,hw.cons fun _ h=>Sat.cons (fun _ h=>h.cons fun _ h=>h.cons fun _ h=>h.cons fun _ h=>MsAt.ext h e) (ElAt.ext h e)⟩
structure RnG (n:Rn):Prop where
 lg:LgOk n.log
 lb:LgB n.log
 sg:rightG n.sn.g.vs n.sn.g.ls=true
 w1:1≤n.win
 w64:n.win≤64
theorem fresh_spec (ok:RnG n) (i:Int) (hw:Sat R (NAt R p n::Hs) w):
  Gets Tryz.prog 159 #[.pointer (some ⟨p,0,none⟩),.int .i64 i] w fun v w'=>v=.tuple #[]∧∃ R',R.Ext R'∧Sat R' (NAt R' p (n.fresh i)::Hs) w':=by
 obtain ⟨L,hn,hw⟩:=NAt.iff.1 hw
 apply call159
 have go:∀ {n':Rn} {w:World},n'={ n with rfr:=if n.rfr==0||decide (i<n.rfr) then i else n.rfr }→Sat R (pts p (nCells n' L)::nHs R n L Hs) w→
   Calls Tryz.prog 36 #[.pointer (some ⟨p,0,none⟩)] w fun e w_2=>(e=.returned (.tuple #[]))∧(Value.tuple #[]=.tuple #[]∧∃ R',R.Ext R'∧Sat R' (NAt R' p (n.fresh i)::Hs) w_2):=fun {n' w} e hw=>by
  subst e
  refine (regroup_spec (n:={ n with rfr:=if n.rfr==0||decide (i<n.rfr) then i else n.rfr }) ok.lg ok.lb ok.sg ok.w1 ok.w64 (NAt.iff.2 ⟨L,⟨hn.g,hn.sg,hn.sd⟩,hw⟩)).use ?_
  rintro _ w ⟨rfl,R',e,hw⟩
  exact ⟨rfl,rfl,R',e,hw⟩
 refine NilP.mk rfl ⟨n.rfr,At.own (eqS hw) (by exact ⟨rfl,trivial⟩),Br.e (fun h=>NilP.mk rfl ?_) (fun h=>NilP.mk rfl ⟨n.rfr,At.own (eqS hw) (by exact ⟨rfl,trivial⟩),Br.d (fun h2=>NilP.mk rfl ?_) (fun h2=>?_)⟩)⟩
 ·refine store_rule hw (by kernel_rfl) rfl (by simp [Value.cells,putL_len]) fun w hw=>?_
  exact go (n':={ n with rfr:=i }) (by rw [if_pos (by simp [h])]) hw
 ·refine store_rule hw (by kernel_rfl) rfl (by simp [Value.cells,putL_len]) fun w hw=>?_
  exact go (n':={ n with rfr:=i }) (by rw [if_pos (by simp [h2])]) hw
 ·exact go (n':=n) (by rw [if_neg (by simp [h];omega)]) hw
theorem enter_spec {d:Sl} {dt:List Int} (ok:RnG n) (kd:Int) (hd:SlR R.m d (b8 dt)) (hdb:bytesOk dt) (hw:Sat R (NAt R p n::Hs) w):
  Gets Tryz.prog 92 #[.pointer (some ⟨p,0,none⟩),.int .i64 kd,.slice d.a d.len d.cap] w fun v w'=>v=.tuple #[.int .i64 (n.enter kd dt).1.1,.int .i64 (n.enter kd dt).1.2]∧∃ R',R.Ext R'∧Sat R' (NAt R' p (n.enter kd dt).2::Hs) w':=by
 obtain ⟨L,hn,hw⟩:=NAt.iff.1 hw
 apply call92
 have hl:=ok.lg.last_le
 have h0:=ok.lg.b0
 have hl0:0≤n.log.last:=by unfold Lg.last;omega
 refine NilP.mk rfl ⟨_,At.own (eqS hw) (by exact ⟨rfl,trivial⟩),?_⟩
 have hw:=hw.take (LgAt R L.lp n.log)
 refine (llast_spec ok.lg hw).use ?_
 clear hw
 rintro _ w ⟨rfl,hw⟩
 refine ⟨_,rfl,?_⟩
 rw [wrap64 (by omega) (by omega)]
 refine drw_rule' (Sat R [pts p (nCells n L),VC.tru]) hw (fun w hw=>hw.k1) fun w hw=>NilP.mk rfl ⟨_,At.own selfS (by exact ⟨rfl,trivial⟩),NilP.mk rfl ⟨_,At.own selfS (by exact ⟨rfl,trivial⟩),?_⟩⟩
 have hw:=hw.take (ElAt R L.ep n.e)
 refine (ehard_spec hw).use ?_
 clear hw
 rintro _ w ⟨rfl,hw⟩
 refine ⟨_,_,rfl,hw.k1,new_rule hw fun b w hw=>⟨hw.k1,?_⟩⟩
 obtain ⟨x,hx⟩:∃ x:Ey,x=⟨n.log.last + 1,n.e.hd.tm,kd,dt⟩:=⟨_,rfl⟩
 have hw:=hw.re (pts b (.cells (eRow (d,x)).toArray 52 (0,0))) (by rw [hx])
 have hw:=OwnN.of_pts (n:=4) (cap:=1) (rest:=[]) (rows:=[(d,x)].map eRow) (Wid.one rfl) rfl hw
 have hw:=hw.re (EntO ⟨some ⟨b,0,none⟩,1,1⟩ [(d,x)])
 have hw:=(hw.take (LgAt R L.lp n.log)).cons fun _ h=>h.take (EntO ⟨some ⟨b,0,none⟩,1,1⟩ [(d,x)])
 refine (ladd_spec ok.lg (Rdg.own (n:=4) (T:=52) (rows:=[(d,x)].map eRow)) (.one (by rw [hx];exact hd)) (by simp) hw).use ?_
 clear hw
 rintro _ w ⟨R2,e2,rfl,hw⟩
 have ee:erE [(d,x)]=[⟨n.log.last + 1,n.e.hd.tm,kd,dt⟩]:=by rw [hx];rfl
 rw [ee] at hw ⊢
 refine ⟨_,rfl,(e2.back hw).k1,?_⟩
 have hw:=(hw.take (EntO ⟨some ⟨b,0,none⟩,1,1⟩ [(d,x)])).drop
 unfold Rn.enter
 dsimp only
 obtain ⟨r,hr⟩:∃ r,r=n.log.add [⟨n.log.last + 1,n.e.hd.tm,kd,dt⟩]:=⟨_,rfl⟩
 have okr:LgOk r.2:=by rw [hr];exact ok.lg.add _
 have same:r.1≠0→r.2=n.log:=fun h=>by
  rw [hr] at h ⊢
  unfold Lg.add at h ⊢
  split
  ·rfl
  ·split
   ·rename_i h1 h2;rw [if_neg h1,if_pos h2] at h;exact absurd rfl h
   ·rfl
 have hbr:LgB r.2:=by
  rw [hr]
  unfold Lg.add
  split
  ·exact ok.lb
  ·split
   ·intro e he
    rcases List.mem_append.1 he with he|he
    ·exact ok.lb e he
    ·simp at he;subst he;exact hdb
   ·exact ok.lb
 rw [←hr] at hw ⊢
 have hw:Sat R2 (pts p (nCells { n with log:=r.2 } L)::ElAt R L.ep n.e::LgAt R2 L.lp r.2::PsAt L.pm n.ps::RsAt L.rs n.rs::MsAt R L.ms n.rms::RrAt L.rr n.rrd::Hs) w:=hw.arr
 have hw:=NAt.mkX (n:={ n with log:=r.2 }) ⟨hn.g,hn.sg,hn.sd⟩ e2 hw
 refine Br.ne (fun h=>?_) (fun h=>?_)
 ·rw [if_pos (by simpa using h)]
  refine ⟨rfl,R2,e2,?_⟩
  have e:{ n with log:=r.2 }=n:=by rw [same h]
  rwa [e] at hw
 ·rw [if_neg (by simpa using h)]
  refine (fresh_spec (n:={ n with log:=r.2 }) ⟨okr,hbr,ok.sg,ok.w1,ok.w64⟩ (n.log.last + 1) hw).use ?_
  rintro _ w ⟨rfl,R3,e3,hw⟩
  exact ⟨rfl,rfl,R3,e2.trans e3,hw⟩
end Go.Proofs.YthpmfnffkjjlnaaGreat
/- SL, part 22: append to a slice with no room left, which is only read. Condition: bounds on lengths. -/
namespace Go.VC
set_option linter.unusedVariables false
set_option linter.unusedSimpArgs false
variable {P:Program} {R:Cx} {Hs:List HP} {w:World} {s:Sl}
theorem append_grow {t1 t2 ty T:TypeId} {bytes:Nat} (E:El P t1 t2 T bytes) {base:Option Addr} {cap n:Nat} {xs ys:List Value} {src:Value} {K:Sl→World→Prop}
  (hs:Src P 1 t2 src n ys w) (hc:cap<xs.length + n) (hold:(Builtin.firstCells 1 xs.length (.slice base xs.length cap)).run P w.drew=.ok xs.toArray w.drew)
  (hb:2 * (xs.length + n) * bytes≤281474976710656) (hb':xs.length + n≤9223372036854775807) (hw:Sat R Hs w) (k:∀ s' w',Sat R (Own s' T (xs++ys)::Hs) w'→K s' w'):
  ∃ w',∃ t:Sl,(Builtin.append_ #[t1,t2] ty #[.slice base xs.length cap,src]).run P w=.ok (.slice t.a t.len t.cap) w'∧K t w':=by
 obtain ⟨i,z,hi,hz,hsize,hbytes,hzc⟩:=elB_out E.hi
 have hyn:ys.length=n:=by have:=hs.newsLen;simpa using this
 have hs':Src P i.size t2 src n ys w:=by rw [hsize];exact hs
 have fit:Builtin.nextslicecap (xs.length + n) cap * i.bytes≤281474976710656:=by
  have h2:Builtin.nextslicecap (xs.length + n) cap≤2 * (xs.length + n):=by
   unfold Builtin.nextslicecap
   split
   ·omega
   ·split
    ·omega
    ·have:=nextslicecap_le_wide hc
     unfold Builtin.nextslicecap at this
     rw [if_neg (by assumption),if_neg (by assumption)] at this
     omega
  rw [hbytes]
  exact Nat.le_trans (Nat.mul_le_mul_right _ h2) hb
 have hr:=run_append_grow_src w t1 t2 ty T i z E.ht hi hz base xs.length cap xs (by rw [hsize];exact hold) src n ys hs' hc (by omega) fit
 refine ⟨_,⟨some ⟨w.heap.size,0,none⟩,xs.length + n,grownCap w (xs.length + n) cap T⟩,hr,k _ _ ?_⟩
 have hz0:(Builtin.zeroCells z.cells (grownCap w (xs.length + n) cap T - (xs.length + n))).size=grownCap w (xs.length + n) cap T - (xs.length + n):=by
  simp [Builtin.zeroCells,hzc]
 have hg:=grownCap_ge w (xs.length + n) cap T
 have ho':Obj.cells ((xs++ys).toArray++Builtin.zeroCells z.cells (grownCap w (xs.length + n) cap T - (xs.length + n))) T=.cells ((xs++ys)++(Builtin.zeroCells z.cells (grownCap w (xs.length + n) cap T - (xs.length + n))).toList).toArray T (0,0):=by
  congr 1
  apply Array.ext';simp
 have:=Sat.alloc (Obj.cells ((xs++ys).toArray++Builtin.zeroCells z.cells (grownCap w (xs.length + n) cap T - (xs.length + n))) T) (Sat.drew hw)
 rw [ho'] at this ⊢
 have h3:=Own.of_pts this
 have e:(⟨some ⟨w.drew.heap.size,0,none⟩,(xs++ys).length,(xs++ys++(Builtin.zeroCells z.cells (grownCap w (xs.length + n) cap T - (xs.length + n))).toList).length⟩:Sl)=⟨some ⟨w.heap.size,0,none⟩,xs.length + n,grownCap w (xs.length + n) cap T⟩:=by
  simp only [List.length_append,Array.length_toList,hz0,World.size_drew,hyn]
  congr 1
  omega
 rw [e] at h3
 exact h3
theorem SlR.firsts {xs:List Value} (hr:SlR R.m s xs) (hw:Sat R Hs w):(Builtin.firstCells 1 xs.length (.slice s.a xs.length s.cap)).run P w.drew=.ok xs.toArray w.drew:=by
 by_cases hx:xs=[]
 ·subst hx
  cases ha:s.a with
  |none=>exact run_firstCells_none w.drew 1 0 0 s.cap
  |some a=>exact run_firstCells_some w.drew 1 0 a 0 s.cap [] rfl fun j u hj=>by simp at hj
 ·obtain ⟨b,off,l,T,fr,ha,hb,hl⟩:=hr.mem hx
  rw [ha]
  refine run_firstCells_some w.drew 1 xs.length ⟨b,off,none⟩ xs.length _ xs (by simp) fun j u hj=>?_
  have:=hw.of_ro hb
  rw [World.cell?_drew,add_off]
  simp only [World.cell?,this,Option.isSome_none,Bool.false_eq_true,if_false]
  exact hl j u hj
theorem pushFull_rule {t1 t2 ty T T':TypeId} {bytes:Nat} (E:El P t1 t2 T bytes) {xs:List Value} {x:Value} {b:Nat} {K:Sl→World→Prop}
  (hc:s.cap=s.len) (hx:x.oneCell'=true) (hb:2 * (xs.length + 1) * bytes≤281474976710656) (hb':xs.length + 1≤9223372036854775807) (hw:Sat R (Reads s xs::pts b (.cells [x].toArray T' (0,0))::Hs) w)
  (k:∀ s' w',Sat R (Own s' T (xs++[x])::Hs) w'→K s' w'):
  ∃ w',∃ t:Sl,(Builtin.append_ #[t1,t2] ty #[.slice s.a s.len s.cap,.slice (some ⟨b,0,none⟩) 1 1]).run P w=.ok (.slice t.a t.len t.cap) w'∧K t w':=by
 obtain ⟨y,hd,hs,hw2,hy⟩:=Reads.lend hw
 have hlen:=hs.len
 rw [hlen]
 refine append_grow E (Src_one E.hk 1 hw2 hx) (by omega) (hs.firsts hw2) hb hb' hw2 fun s' w' h=>k s' w' ?_
 have h2:=Reads.back hd hy h
 exact h2.drop.cons fun _ h=>h.drop
end Go.VC
/- What a leader knows of another node: walked. Condition: bounds on numbers. -/
namespace Go.Proofs.YthpmfnffkjjlnaaGreat
set_option linter.unusedVariables false
set_option linter.unusedSimpArgs false
open Go Go.VC
variable {R R' R1 R2:Cx} {Hs Rest Rest2:List HP} {w:World} {b:Nat} {x:Pe}
def Rise (l:List Int):Prop:=∀ i j (hj:j<l.length),(hij:i<j)→l[i]<l[j]
structure PeOk (x:Pe):Prop where
 st:x.st=0∨x.st=1∨x.st=2
 m0:0≤x.mt
 m1:x.mt≤1099511627775
 n0:1≤x.nx
 n1:x.nx≤1099511627776
 w0:1≤x.wn
 w1:x.wn≤64
 fl:Rise x.fl
 fn:∀ n∈x.fl,n<x.nx
 fw:(x.fl.length:Int)≤x.wn
 s0:0≤x.sn
 s1:x.sn≤1099511627775
theorem Rise.nil:Rise []:=fun _ _ hj _=>by simp at hj
theorem Rise.drop {l:List Int} (h:Rise l) (k:Nat):Rise (l.drop k):=fun i j hj hij=>by
 rw [List.getElem_drop,List.getElem_drop]
 exact h _ _ _ (by omega)
theorem Rise.snoc {l:List Int} (h:Rise l) {n:Int} (hn:∀ x∈l,x<n):Rise (l++[n]):=fun i j hj hij=>by
 rw [List.length_append,List.length_singleton] at hj
 by_cases hjl:j<l.length
 ·rw [List.getElem_append_left (by omega),List.getElem_append_left hjl]
  exact h i j hjl hij
 ·rw [List.getElem_append_left (show i<l.length by omega),List.getElem_append_right (by omega)]
  simp only [List.getElem_singleton]
  exact hn _ (List.getElem_mem _)
theorem PeOk.new {nx wn:Int} (h0:1≤nx) (h1:nx≤1099511627776) (h2:1≤wn) (h3:wn≤64):PeOk (Pe.new nx wn):=
 ⟨.inl rfl,Int.le_refl _,by show (0:Int)≤_;omega,h0,h1,h2,h3,.nil,(fun _ h=>by cases h),by show ((0:Nat):Int)≤wn;omega,Int.le_refl _,by show (0:Int)≤_;omega⟩
theorem PeOk.probe {x:Pe} (h:PeOk x) {i:Int} (h0:1≤i) (h1:i≤1099511627776):PeOk (x.probe i):=
 { h with st:=.inl rfl,n0:=h0,n1:=h1,fl:=.nil,fn:=(fun _ h=>by cases h),fw:=by have:=h.w0;show ((0:Nat):Int)≤x.wn;omega }
theorem PeOk.sent {x:Pe} (h:PeOk x) (last:Int):PeOk (x.sent last):=by
 unfold Pe.sent
 split
 ·exact h
 ·rename_i hc
  simp only [Bool.or_eq_true,Bool.not_eq_true',decide_eq_true_eq,not_or,Bool.not_eq_false] at hc
  split
  ·exact { h with }
  ·split
   ·rename_i h1 h2
    have hn:=h.n0
    have hmay:=hc.1.1
    unfold Pe.may at hmay
    rw [if_neg h1] at hmay
    refine { h with n0:=by show 1≤last + 1;omega,n1:=by show last + 1≤_;omega,fl:=h.fl.snoc fun y hy=>by have:=h.fn y hy;omega,fn:=fun y hy=>?_,fw:=?_ }
    ·show y<last + 1
     rcases List.mem_append.1 hy with hy|hy
     ·have:=h.fn y hy;omega
     ·simp at hy;omega
    ·show ((x.fl++[last]).length:Int)≤x.wn
     rw [List.length_append,List.length_singleton]
     split at hmay
     ·simp only [decide_eq_true_eq] at hmay;omega
     ·cases hmay
   ·exact h
theorem PeOk.install {x:Pe} (h:PeOk x) (i:Int):PeOk (x.install i):=by
 unfold Pe.install
 split
 ·exact h
 ·exact { h with st:=.inr (.inr rfl),s0:=by show 0≤i;omega,s1:=by show i≤_;omega,fl:=.nil,fn:=(fun _ h=>by cases h),fw:=by have:=h.w0;show ((0:Nat):Int)≤x.wn;omega }
theorem PeOk.beat {x:Pe} (h:PeOk x):PeOk x.beat:=by
 unfold Pe.beat
 split
 ·exact { h with }
 ·split
  ·refine { h with fl:=h.fl.drop 1,fn:=fun n hn=>h.fn n (List.mem_of_mem_drop hn),fw:=?_ }
   have:=h.fw
   show ((x.fl.drop 1).length:Int)≤x.wn
   rw [List.length_drop];omega
  ·exact h
theorem PeOk.over {x:Pe} (h:PeOk x) (o:Bool):PeOk (x.over o):=by
 have:=h.m0
 have:=h.m1
 have:=h.s0
 have:=h.s1
 unfold Pe.over
 split
 ·exact h
 ·split<;>exact h.probe (by omega) (by omega)
theorem pstate_spec (hw:Sat R (PeAt b x::Hs) w):Gets Tryz.prog 43 #[.pointer (some ⟨b,0,none⟩)] w fun v w'=>v=.int .i64 x.st∧Sat R (PeAt b x::Hs) w':=by
 obtain ⟨s,hw⟩:=PeAt.iff.1 hw
 apply call43
 exact NilP.mk rfl ⟨_,At.own (eqS hw) (by exact ⟨rfl,trivial⟩),rfl,PeAt.iff.2 ⟨s,hw⟩⟩
theorem pmatch_spec (hw:Sat R (PeAt b x::Hs) w):Gets Tryz.prog 106 #[.pointer (some ⟨b,0,none⟩)] w fun v w'=>v=.int .i64 x.mt∧Sat R (PeAt b x::Hs) w':=by
 obtain ⟨s,hw⟩:=PeAt.iff.1 hw
 apply call106
 exact NilP.mk rfl ⟨_,At.own (eqS hw) (by exact ⟨rfl,trivial⟩),rfl,PeAt.iff.2 ⟨s,hw⟩⟩
theorem pnext_spec (hw:Sat R (PeAt b x::Hs) w):Gets Tryz.prog 108 #[.pointer (some ⟨b,0,none⟩)] w fun v w'=>v=.int .i64 x.nx∧Sat R (PeAt b x::Hs) w':=by
 obtain ⟨s,hw⟩:=PeAt.iff.1 hw
 apply call108
 exact NilP.mk rfl ⟨_,At.own (eqS hw) (by exact ⟨rfl,trivial⟩),rfl,PeAt.iff.2 ⟨s,hw⟩⟩
theorem FlAt.len {s:Sl} {xs:List Int} (hw:Sat R (FlAt s xs::Hs) w):s.len=xs.length∧s.len≤s.cap:=by
 obtain ⟨y,_,hs,_,_⟩:=Reads.lend (FlAt.reads hw)
 have:=hs.len
 exact ⟨by simpa using this,hs.cap⟩
theorem pmay_spec (hw:Sat R (PeAt b x::Hs) w):Gets Tryz.prog 107 #[.pointer (some ⟨b,0,none⟩)] w fun v w'=>v=.bool x.may∧Sat R (PeAt b x::Hs) w':=by
 obtain ⟨s,hw⟩:=PeAt.iff.1 hw
 have hl:=(FlAt.len hw.swap).1
 apply call107
 unfold Pe.may
 refine NilP.mk rfl ⟨_,At.own (eqS hw) (by exact ⟨rfl,trivial⟩),Br.e (fun h=>NilP.mk rfl ⟨_,At.own (eqS hw) (by exact ⟨rfl,trivial⟩),by rw [if_pos (by simp [h])],PeAt.iff.2 ⟨s,hw⟩⟩) (fun h=>Br.e (fun h2=>?_) (fun h2=>⟨by rw [if_neg (by simp [h]),if_neg (by simp [h2])],PeAt.iff.2 ⟨s,hw⟩⟩))⟩
 refine drw_rule hw fun w hw=>NilP.mk rfl ⟨s,At.own selfS (by exact ⟨rfl,trivial⟩),NilP.mk rfl ⟨_,At.own selfS (by exact ⟨rfl,trivial⟩),?_,PeAt.iff.2 ⟨s,hw⟩⟩⟩
 rw [if_neg (by simp [h]),if_pos (by simp [h2]),hl]
theorem pinstall_spec (i:Int) (hw:Sat R (PeAt b x::Hs) w):Gets Tryz.prog 109 #[.pointer (some ⟨b,0,none⟩),.int .i64 i] w fun v w'=>(∃ t:Int,v=.int .i64 t)∧Sat R (PeAt b (x.install i)::Hs) w':=by
 apply call109
 unfold Pe.install
 refine ⟨fun w=>¬ (i<0∨i>1099511627775)∧Sat R (PeAt b x::Hs) w,Br.d (fun h=>⟨⟨_,rfl⟩,by rw [if_pos (.inl h)];exact hw⟩) (fun h=>Br.d (fun h2=>⟨⟨_,rfl⟩,by rw [if_pos (.inr h2)];exact hw⟩) (fun h2=>⟨by omega,hw⟩)),?_⟩
 clear hw
 rintro _ w ⟨hc,hw⟩
 rw [if_neg hc]
 obtain ⟨s,hw⟩:=PeAt.iff.1 hw
 refine NilP.mk rfl ?_
 refine store_rule hw (by kernel_rfl) rfl (by simp [Value.cells,putL_len]) fun w hw=>?_
 refine NilP.mk rfl ?_
 refine store_rule hw (by kernel_rfl) rfl (by simp [Value.cells,putL_len]) fun w hw=>?_
 refine NilP.mk rfl ?_
 refine store_rule hw (by kernel_rfl) rfl (by simp [Value.cells,putL_len]) fun w hw=>?_
 refine NilP.mk rfl ?_
 refine store_rule hw (by kernel_rfl) rfl (by simp [Value.cells,putL_len]) fun w hw=>?_
 have hw:=hw.re (pts b (peCells { x with st:=2,sn:=i,wt:=false,fl:=[] } ⟨none,0,0⟩))
 exact ⟨⟨_,rfl⟩,PeAt.iff.2 ⟨⟨none,0,0⟩,hw.cons fun _ h=>FlAt.own (Own.nil h.drop)⟩⟩
theorem psent_spec (ok:PeOk x) (last:Int) (hw:Sat R (PeAt b x::Hs) w):Gets Tryz.prog 110 #[.pointer (some ⟨b,0,none⟩),.int .i64 last] w fun v w'=>(∃ t:Int,v=.int .i64 t)∧Sat R (PeAt b (x.sent last)::Hs) w':=by
 have h0:=ok.n0
 have h1:=ok.n1
 apply call110
 unfold Pe.sent
 obtain ⟨c,hc⟩:∃ c,c=(!x.may||decide (last<x.nx - 1)||decide (last>1099511627775)):=⟨_,rfl⟩
 rw [←hc]
 refine ⟨fun t w=>t=c∧Sat R (PeAt b x::Hs) w,?_,?_⟩
 ·refine (pmay_spec hw).use ?_
  clear hw
  rintro _ w ⟨rfl,hw⟩
  refine ⟨_,rfl,Br.nb (fun h=>⟨by rw [hc,h];rfl,hw⟩) (fun h=>?_)⟩
  obtain ⟨s,hw⟩:=PeAt.iff.1 hw
  refine NilP.mk rfl ⟨_,At.own (eqS hw) (by exact ⟨rfl,trivial⟩),?_⟩
  rw [wrap64 (by omega) (by omega)]
  refine Br.d (fun h2=>⟨by rw [hc,h,decide_eq_true h2];rfl,PeAt.iff.2 ⟨s,hw⟩⟩) (fun h2=>⟨by rw [hc,h,decide_eq_false h2];rfl,PeAt.iff.2 ⟨s,hw⟩⟩)
 clear hw
 rintro _ t w ⟨rfl,hw⟩
 refine Br.mk (fun h=>⟨⟨_,rfl⟩,by rw [if_pos h];exact hw⟩) (fun h=>?_)
 rw [if_neg (by rw [h];simp)]
 rw [h] at hc
 have hc:=hc.symm
 simp only [Bool.or_eq_false_iff,Bool.not_eq_false',decide_eq_false_iff_not] at hc
 obtain ⟨s,hw⟩:=PeAt.iff.1 hw
 refine NilP.mk rfl ⟨_,At.own (eqS hw) (by exact ⟨rfl,trivial⟩),Br.e (fun h2=>NilP.mk rfl ?_) (fun h2=>NilP.mk rfl ⟨_,At.own (eqS hw) (by exact ⟨rfl,trivial⟩),Br.d (fun h3=>NilP.mk rfl ?_) (fun h3=>⟨⟨_,rfl⟩,?_⟩)⟩)⟩
 ·refine store_rule hw (by kernel_rfl) rfl (by simp [Value.cells,putL_len]) fun w hw=>?_
  rw [if_pos (by simp [h2])]
  exact ⟨⟨_,rfl⟩,PeAt.iff.2 ⟨s,hw⟩⟩
 ·rw [wrap64 (by omega) (by omega)]
  refine store_rule hw (by kernel_rfl) rfl (by simp [Value.cells,putL_len]) fun w hw=>?_
  rw [if_neg (by simp [h2]),if_pos h3]
  have hw:=hw.re (pts b (peCells { x with nx:=last + 1 } s))
  refine NilP.mk rfl ⟨s,At.own (eqS hw) (by exact ⟨rfl,trivial⟩),new_rule hw fun b2 w hw=>?_⟩
  have hfw:=ok.fw
  have hw1:=ok.w1
  have fin:∀ s' w',Sat R (Own s' 3 (ints x.fl++[.int .i64 last])::pts b (peCells { x with nx:=last + 1 } s)::Hs) w'→
    NilP (some ⟨b,0,none⟩) fun a_t51=>∃ w_7:World,((Instr.storeAt 30 (.pointer ((some ⟨a_t51.block,a_t51.off + 5,none⟩))) (.slice s'.a s'.len s'.cap)).run Tryz.prog w'=.ok () w_7)∧
     (∃ t:Int,Value.int .i64 0=.int .i64 t)∧Sat R (PeAt b { x with nx:=last + 1,fl:=x.fl++[last] }::Hs) w_7:=fun s' w' hw=>by
   refine NilP.mk rfl ?_
   have hw:=hw.swap
   refine store_rule hw (by kernel_rfl) rfl (by simp [Value.cells,putL_len]) fun w hw=>?_
   have hw:=hw.re (pts b (peCells { x with nx:=last + 1,fl:=x.fl++[last] } s'))
   exact ⟨⟨_,rfl⟩,PeAt.iff.2 ⟨s',hw.cons fun _ h=>FlAt.own (by show Sat _ (Own s' 3 (ints (x.fl++[last]))::Hs) _;rw [show ints (x.fl++[last])=ints x.fl++[Value.int .i64 last] from List.map_append];exact h)⟩⟩
  have hw:=hw.take (FlAt s x.fl)
  rcases FlAt.cases hw with h4|⟨h4,hcap⟩
  ·refine append_rule el_int h4 (Src_one el_int.hk 1 h4 rfl) (oneAll_ints _) (by rw [List.length_map];omega) (by rw [List.length_map];omega) fun s' w' h=>fin s' w' ?_
   exact h.cons fun _ h=>h.drop
  ·exact pushFull_rule el_int hcap rfl (by rw [List.length_map];omega) (by rw [List.length_map];omega) h4 fun s' w' h=>fin s' w' h
 ·rw [if_neg (by simp [h2]),if_neg h3]
  exact PeAt.iff.2 ⟨s,hw⟩
end Go.Proofs.YthpmfnffkjjlnaaGreat
/- A node of a group: one peer taken out; beats. Condition: bounds on numbers. -/
namespace Go.Proofs.YthpmfnffkjjlnaaGreat
set_option linter.unusedVariables false
set_option linter.unusedSimpArgs false
open Go Go.VC
open Go.Rf (Ey Lg LgOk)
variable {R R' R1 R2:Cx} {Hs Rest Rest2:List HP} {w:World} {p:Nat} {n:Rn}
def NAtG (R:Cx) (p:Nat) (n:Rn) (pm:Option Nat) (P:HP):HP:=exs fun L:NLo=>Star (pur (NIn R n L∧L.pm=pm)::pts p (nCells n L)::[ElAt R L.ep n.e,LgAt R L.lp n.log,P,RsAt L.rs n.rs,MsAt R L.ms n.rms,RrAt L.rr n.rrd])
theorem NAtG.iff {pm:Option Nat} {P:HP}:Sat R (NAtG R1 p n pm P::Hs) w↔∃ L,(NIn R1 n L∧L.pm=pm)∧Sat R (pts p (nCells n L)::ElAt R1 L.ep n.e::LgAt R1 L.lp n.log::P::RsAt L.rs n.rs::MsAt R1 L.ms n.rms::RrAt L.rr n.rrd::Hs) w:=by
 constructor
 ·intro h
  obtain ⟨L,h⟩:=Sat.exs.1 h
  obtain ⟨h1,h⟩:=Sat.pur.1 (Sat.star.1 h)
  exact ⟨L,h1,h⟩
 ·rintro ⟨L,h1,h⟩
  exact Sat.exs.2 ⟨L,Sat.star.2 (Sat.pur.2 ⟨h1,h⟩)⟩
theorem NAtG.of (hw:Sat R (NAt R1 p n::Hs) w):∃ pm,Sat R (NAtG R1 p n pm (PsAt pm n.ps)::Hs) w:=by
 obtain ⟨L,hn,hw⟩:=NAt.iff.1 hw
 exact ⟨L.pm,NAtG.iff.2 ⟨L,⟨hn,rfl⟩,hw⟩⟩
theorem NAtG.to {pm:Option Nat} (hw:Sat R (NAtG R1 p n pm (PsAt pm n.ps)::Hs) w):Sat R (NAt R1 p n::Hs) w:=by
 obtain ⟨L,⟨hn,rfl⟩,hw⟩:=NAtG.iff.1 hw
 exact NAt.iff.2 ⟨L,hn,hw⟩
theorem NAtG.ext {pm:Option Nat} {P:HP} (hw:Sat R (NAtG R1 p n pm P::Hs) w) (e:R1.Ext R2):Sat R (NAtG R2 p n pm P::Hs) w:=by
 obtain ⟨L,hn,hw⟩:=NAtG.iff.1 hw
 refine NAtG.iff.2 ⟨L,⟨hn.1.ext e,hn.2⟩,hw.cons fun _ h=>?_⟩
 exact Sat.cons (fun _ h=>Sat.cons (fun _ h=>h.cons fun _ h=>h.cons fun _ h=>MsAt.ext h e) (LgAt.ext h e)) (ElAt.ext h e)
theorem NAtG.mkX {L:NLo} {pm:Option Nat} {P:HP} (hn:NIn R1 n L) (hp:L.pm=pm) (e:R1.Ext R) (hw:Sat R (pts p (nCells n L)::ElAt R1 L.ep n.e::LgAt R L.lp n.log::P::RsAt L.rs n.rs::MsAt R1 L.ms n.rms::RrAt L.rr n.rrd::Hs) w):Sat R (NAtG R p n pm P::Hs) w:=
 NAtG.iff.2 ⟨L,⟨hn.ext e,hp⟩,hw.cons fun _ h=>Sat.cons (fun _ h=>h.cons fun _ h=>h.cons fun _ h=>h.cons fun _ h=>MsAt.ext h e) (ElAt.ext h e)⟩
theorem putG_spec {pm:Option Nat} {P:HP} {m:Mg} {L:MLo} (hm:MgIn R m L) (hl:n.rms.length≤1000000000) (hw:Sat R (NAtG R p n pm P::Hs) w):
  Gets Tryz.prog 105 #[.pointer (some ⟨p,0,none⟩),mgVal (L,m)] w fun v w'=>v=.tuple #[]∧Sat R (NAtG R p (n.put m) pm P::Hs) w':=by
 obtain ⟨N,hn,hw⟩:=NAtG.iff.1 hw
 apply call105
 refine new_rule hw fun b w hw=>?_
 refine drw_rule' (Sat R [pts p (nCells n N),VC.tru]) hw (fun w hw=>hw.k1) fun w hw=>NilP.mk rfl ⟨n.id,At.own selfS (by exact ⟨rfl,trivial⟩),NilP.mk rfl ⟨_,At.own selfS (by exact ⟨rfl,trivial⟩),?_⟩⟩
 have hw:=hw.take (ElAt R N.ep n.e)
 refine (ehard_spec hw).use ?_
 clear hw
 rintro _ w ⟨rfl,hw⟩
 refine ⟨_,_,rfl,hw.k1,?_⟩
 refine store_rule hw (by kernel_rfl) rfl (by simp [Value.cells,putL_len]) fun w hw=>?_
 refine ⟨hw.k1,?_⟩
 refine store_rule hw (by kernel_rfl) rfl (by simp [Value.cells,putL_len]) fun w hw=>?_
 have hw:=hw.re (pts b (.cells (mgRow (L,{ m with fr:=n.id,tm:=n.e.hd.tm })).toArray 71 (0,0)))
 refine drw_rule' (Sat R [pts b (.cells (mgRow (L,{ m with fr:=n.id,tm:=n.e.hd.tm })).toArray 71 (0,0)),pts p (nCells n N),VC.tru]) hw (fun w hw=>hw.k2) fun w hw=>NilP.mk rfl ⟨N.ms,At.own selfS (by exact ⟨rfl,trivial⟩),?_⟩
 refine ⟨_,_,_,_,_,_,_,_,_,_,L.e,_,_,L.v,L.l,L.d,At.own selfS (by exact ⟨rfl,rfl,rfl,rfl,rfl,rfl,rfl,rfl,rfl,rfl,rfl,rfl,rfl,rfl,rfl,rfl,trivial⟩),new_rule hw fun b2 w hw=>⟨hw.k2,?_⟩⟩
 have hw:Sat R (pts b2 (.cells (mgRow (L,{ m with fr:=n.id,tm:=n.e.hd.tm })).toArray 71 (0,0))::_) w:=hw
 have hw:=hw.cons fun _ h=>h.take (MsAt R N.ms n.rms)
 refine MsAt.push (m:={ m with fr:=n.id,tm:=n.e.hd.tm }) (L:=L) ⟨hm.es,hm.dr,hm.ee,hm.g,hm.d⟩ hl hw fun s2 w hw=>⟨hw.k2,NilP.mk rfl ?_⟩
 refine store_rule hw (by kernel_rfl) rfl (by simp [Value.cells,putL_len]) fun w hw=>?_
 have hw:=hw.re (pts p (nCells (n.put m) { N with ms:=s2 }))
 have hw:=(hw.take (pts b (.cells (mgRow (L,{ m with fr:=n.id,tm:=n.e.hd.tm })).toArray 71 (0,0)))).drop
 refine ⟨rfl,NAtG.iff.2 ⟨{ N with ms:=s2 },⟨⟨hn.1.g,hn.1.sg,hn.1.sd⟩,hn.2⟩,?_⟩⟩
 have hw:Sat R (pts p (nCells (n.put m) { N with ms:=s2 })::MsAt R s2 (n.put m).rms::ElAt R N.ep (n.put m).e::LgAt R N.lp (n.put m).log::P::RsAt N.rs (n.put m).rs::RrAt N.rr (n.put m).rrd::Hs) w:=hw
 exact hw.arr
def PsHole (m:Nat) (q:Int) (b:Nat) (l:List (Int × Pe)):HP:=exs fun a:PL=>exs fun c:PL=>exs fun x:Pe=>
 Star (pur (l=(a++(q,b,x)::c).map pOf∧getM q (a.map pOf)=none)::MapAt m ((a++(q,b,x)::c).map pEn)::(a.map pHP++c.map pHP))
theorem PsHole.iff {m b:Nat} {q:Int} {l:List (Int × Pe)}:Sat R (PsHole m q b l::Hs) w↔∃ (a c:PL) (x:Pe),(l=(a++(q,b,x)::c).map pOf∧getM q (a.map pOf)=none)∧Sat R (MapAt m ((a++(q,b,x)::c).map pEn)::((a.map pHP++c.map pHP)++Hs)) w:=by
 constructor
 ·intro h
  obtain ⟨a,h⟩:=Sat.exs.1 h
  obtain ⟨c,h⟩:=Sat.exs.1 h
  obtain ⟨x,h⟩:=Sat.exs.1 h
  obtain ⟨h1,h⟩:=Sat.pur.1 (Sat.star.1 h)
  exact ⟨a,c,x,h1,h⟩
 ·rintro ⟨a,c,x,h1,h⟩
  exact Sat.exs.2 ⟨a,Sat.exs.2 ⟨c,Sat.exs.2 ⟨x,Sat.star.2 (Sat.pur.2 ⟨h1,h⟩)⟩⟩⟩
theorem PsAt.hole {m:Nat} {l:List (Int × Pe)} {q:Int} {x:Pe} (hx:getM q l=some x) (hw:Sat R (PsAt (some m) (some l)::Hs) w):∃ b,Sat R (PeAt b x::PsHole m q b l::Hs) w:=by
 obtain ⟨pl,hpl,hw⟩:=PsAt.some'.1 hw
 have hpl:=Option.some.inj hpl
 rw [hpl,pOf_get] at hx
 obtain ⟨t,ht,rfl⟩:=Option.map_eq_some_iff.1 hx
 obtain ⟨a,c,e,hn⟩:=getM_split ht
 obtain ⟨b,x⟩:=t
 refine ⟨b,?_⟩
 subst e
 have h2:Sat R (PeAt b x::MapAt m ((a++(q,b,x)::c).map pEn)::((a.map pHP++c.map pHP)++Hs)) w:=by
  refine hw.perm ?_
  have e2:(a++(q,b,x)::c).map pHP++Hs=a.map pHP++(pHP (q,b,x)::(c.map pHP++Hs)):=by rw [List.map_append,List.map_cons,List.append_assoc];rfl
  rw [e2,List.append_assoc (a.map pHP)]
  exact (List.Perm.cons _ (List.perm_middle (l₁:=a.map pHP) (a:=pHP (q,b,x)) (l₂:=c.map pHP++Hs))).trans (List.Perm.swap _ _ _)
 exact h2.cons fun _ h=>PsHole.iff.2 ⟨a,c,x,⟨hpl,by rw [pOf_get,hn];rfl⟩,h⟩
theorem PsHole.close {m b:Nat} {q:Int} {l:List (Int × Pe)} {y:Pe} (hw:Sat R (PeAt b y::PsHole m q b l::Hs) w):Sat R (PsAt (some m) (some (setM q y l))::Hs) w:=by
 obtain ⟨a,c,x,⟨e,hn⟩,hw⟩:=PsHole.iff.1 hw.swap
 refine PsAt.some'.2 ⟨a++(q,b,y)::c,?_,?_⟩
 ·rw [e,List.map_append,List.map_cons,List.map_append,List.map_cons]
  rw [show pOf (q,b,x)=(q,x) from rfl,setM_app hn (by simp)]
 ·have h2:Sat R (MapAt m ((a++(q,b,y)::c).map pEn)::((a.map pHP++c.map pHP)++(PeAt b y::Hs))) w:=by
   rw [show (a++(q,b,y)::c).map pEn=(a++(q,b,x)::c).map pEn by rw [List.map_append,List.map_append];rfl]
   exact hw
  refine h2.cons fun _ h=>h.perm ?_
  have e2:(a++(q,b,y)::c).map pHP++Hs=a.map pHP++(pHP (q,b,y)::(c.map pHP++Hs)):=by rw [List.map_append,List.map_cons,List.append_assoc];rfl
  rw [e2,List.append_assoc (a.map pHP)]
  refine List.Perm.append_left _ ?_
  exact List.perm_middle
theorem PsHole.look {m b:Nat} {q:Int} {l:List (Int × Pe)} (hw:Sat R (PsHole m q b l::Hs) w) (c:Bool):
  (Instr.lookup 55 (.map (some m)) (.int .i64 q) c).run Tryz.prog w=.ok (if c then .tuple #[.pointer (some ⟨b,0,none⟩),.bool true] else .pointer (some ⟨b,0,none⟩)) w:=by
 obtain ⟨a,d,x,⟨_,hn⟩,hw⟩:=PsHole.iff.1 hw
 have h:=MapAt.look mapP hw q c
 have e:getM q ((a++(q,b,x)::d).map pEn)=some (.pointer (some ⟨b,0,none⟩)):=by
  rw [List.map_append,List.map_cons]
  refine getM_app ?_ (by simp)
  have h1:getM q (a.map pOf)=(getM q a).map (·.2):=pOf_get q a
  have h2:getM q (a.map pEn)=(getM q a).map fun t=>Value.pointer (some ⟨t.1,0,none⟩):=getM_map (fun t:Nat × Pe=>Value.pointer (some ⟨t.1,0,none⟩)) q a
  rw [h1] at hn
  rw [h2]
  cases hq:getM q a with
  |none=>rfl
  |some t=>rw [hq] at hn;cases hn
 rw [e] at h
 exact h
theorem NAt.focus {l:List (Int × Pe)} {q:Int} {x:Pe} (hp:n.ps=some l) (hx:getM q l=some x) (hw:Sat R (NAt R1 p n::Hs) w):∃ m b,Sat R (PeAt b x::NAtG R1 p n (some m) (PsHole m q b l)::Hs) w:=by
 obtain ⟨pm,hw⟩:=NAtG.of hw
 obtain ⟨L,hn,hw⟩:=NAtG.iff.1 hw
 have hw:=hw.take (PsAt pm n.ps)
 rw [hp] at hw
 cases pm with
 |none=>exact absurd (PsAt.none'.1 hw).1 (by simp)
 |some m=>
  obtain ⟨b,hw⟩:=PsAt.hole hx hw
  exact ⟨m,b,hw.cons fun _ h=>NAtG.iff.2 ⟨L,hn,h.arr⟩⟩
theorem NAtG.close {m b:Nat} {l:List (Int × Pe)} {q:Int} {y:Pe} (hp:n.ps=some l) (hw:Sat R (PeAt b y::NAtG R1 p n (some m) (PsHole m q b l)::Hs) w):Sat R (NAt R1 p (n.setP q y)::Hs) w:=by
 obtain ⟨L,hn,hw⟩:=NAtG.iff.1 hw.swap
 have hw:=hw.take (PsHole m q b l)
 have hw:=PsHole.close (hw.take (PeAt b y))
 have e:(n.setP q y).ps=some (setM q y l):=by unfold Rn.setP;rw [hp];rfl
 rw [←e] at hw
 exact NAtG.to (NAtG.iff.2 ⟨L,⟨⟨hn.1.g,hn.1.sg,hn.1.sd⟩,hn.2⟩,(show Sat R (PsAt (some m) (n.setP q y).ps::pts p (nCells (n.setP q y) L)::ElAt R1 L.ep (n.setP q y).e::LgAt R1 L.lp (n.setP q y).log::RsAt L.rs (n.setP q y).rs::MsAt R1 L.ms (n.setP q y).rms::RrAt L.rr (n.setP q y).rrd::Hs) w from hw).arr⟩)
theorem setM_same {β:Type} {k:Int} {v:β}:∀ {l:List (Int × β)},getM k l=some v→setM k v l=l
 |[],h=>by cases h
 |e::l,h=>by
  unfold getM at h
  unfold setM
  by_cases h1:(k==e.1)=true
  ·rw [if_pos h1] at h ⊢
   rw [←Option.some.inj h]
  ·rw [if_neg h1] at h ⊢
   rw [setM_same h]
theorem setP_same {l:List (Int × Pe)} {q:Int} {x:Pe} (hp:n.ps=some l) (hx:getM q l=some x):n.setP q x=n:=by
 unfold Rn.setP
 rw [hp,Option.map_some,setM_same hx,←hp]
def ml0:MLo:=⟨⟨none,0,0⟩,[],⟨none,0,0⟩,⟨none,0,0⟩,⟨none,0,0⟩⟩
theorem MgIn.nil {m:Mg} (h1:m.es=[]) (h2:m.sn=sn0):MgIn R m ml0:=by
 refine ⟨⟨Wid.nil,rfl,fun h=>absurd rfl h⟩,.nil,h1.symm,?_,?_⟩
 ·rw [h2];exact ⟨⟨rfl,by simp [sn0],fun h=>absurd rfl h⟩,⟨rfl,by simp [sn0],fun h=>absurd rfl h⟩⟩
 ·rw [h2];exact ⟨rfl,Nat.le_refl _,fun h=>absurd rfl h⟩
theorem beat_spec {l:List (Int × Pe)} {q:Int} {x:Pe} (hp:n.ps=some l) (hx:getM q l=some x) (hl:n.rms.length≤1000000000) (hw:Sat R (NAt R p n::Hs) w):
  Gets Tryz.prog 45 #[.pointer (some ⟨p,0,none⟩),.int .i64 q] w fun v w'=>v=.tuple #[]∧Sat R (NAt R p (n.beat q)::Hs) w':=by
 obtain ⟨m,b,hw⟩:=NAt.focus hp hx hw
 obtain ⟨L,hn,hw⟩:=NAtG.iff.1 hw.swap
 apply call45
 refine drw_rule' (Sat R [PsHole m q b l,pts p (nCells n L),VC.tru]) hw (fun w hw=>hw.k2) fun w hw=>NilP.mk rfl ⟨some m,by rw [←hn.2];exact At.own (eqS hw) (by exact ⟨rfl,trivial⟩),some ⟨b,0,none⟩,fun w' h=>by subst h;exact PsHole.look (hw.take (PsHole m q b l)) false,NilP.mk rfl ⟨_,At.own selfS (by exact ⟨rfl,trivial⟩),NilP.mk rfl ⟨n.rnd,At.own selfS (by exact ⟨rfl,trivial⟩),?_⟩⟩⟩
 refine (pmatch_spec (hw.take (PeAt b x))).use ?_
 clear hw
 rintro _ w ⟨rfl,hw⟩
 refine ⟨_,rfl,hw.k2,?_⟩
 refine (lcommitted_spec (hw.take (LgAt R L.lp n.log))).use ?_
 clear hw
 rintro _ w ⟨rfl,hw⟩
 refine ⟨_,rfl,hw.k2,?_⟩
 have hw:Sat R (NAtG R p n (some m) (PsHole m q b l)::PeAt b x::Hs) w:=NAtG.iff.2 ⟨L,hn,hw.arr⟩
 have em:(if n.log.com<x.mt then n.log.com else x.mt)=min x.mt n.log.com:=by split<;>omega
 rw [em]
 refine (putG_spec (m:={ kd:=7,to':=q,com:=min x.mt n.log.com,rnd:=n.rnd }) (MgIn.nil rfl rfl) hl hw).use ?_
 rintro _ w ⟨rfl,hw⟩
 refine ⟨rfl,rfl,?_⟩
 have h2:=NAtG.close (n:=n.put { kd:=7,to':=q,com:=min x.mt n.log.com,rnd:=n.rnd }) hp hw.swap
 rw [setP_same (n:=n.put _) hp hx] at h2
 have e:n.beat q=n.put { kd:=7,to':=q,com:=min x.mt n.log.com,rnd:=n.rnd }:=by
  unfold Rn.beat Rn.peer
  rw [hp,Option.getD_some,hx];rfl
 rw [e]
 exact h2
theorem beats_ps (l:List Int):∀ n:Rn,(l.foldl Rn.beat n).ps=n.ps∧(l.foldl Rn.beat n).rms.length=n.rms.length + l.length∧(l.foldl Rn.beat n).log=n.log∧(l.foldl Rn.beat n).id=n.id:=by
 induction l with
 |nil=>intro n;exact ⟨rfl,rfl,rfl,rfl⟩
 |cons q l ih=>
  intro n
  obtain ⟨h1,h2,h3,h4⟩:=ih (n.beat q)
  refine ⟨h1.trans rfl,?_,h3.trans rfl,h4.trans rfl⟩
  show ((l.foldl Rn.beat (n.beat q)).rms.length=_)
  rw [h2,List.length_cons]
  show (n.rms++[_]).length + l.length=_
  rw [List.length_append,List.length_singleton];omega
theorem getM_key {β:Type} {k:Int} {l:List (Int × β)} (h:k∈l.map (·.1)):∃ v,getM k l=some v:=by
 induction l with
 |nil=>cases h
 |cons e l ih=>
  unfold getM
  by_cases h1:(k==e.1)=true
  ·rw [if_pos h1];exact ⟨_,rfl⟩
  ·rw [if_neg h1]
   refine ih ?_
   rcases List.mem_cons.1 h with h|h
   ·exact absurd (by simp [h]) h1
   ·exact h
theorem mem_keys {l:List (Int × Pe)} (hp:n.ps=some l):∀ q∈n.mem,∃ x,getM q l=some x:=fun q hq=>by
 unfold Rn.mem at hq
 rw [hp] at hq
 exact getM_key ((sortL_perm _).mem_iff.1 hq)
theorem mem_len {l:List (Int × Pe)} (hp:n.ps=some l) (hk:PKeys n.id l):n.mem.length≤15:=by
 unfold Rn.mem
 rw [hp,sortL_len,Option.getD_some,List.length_map]
 exact hk.len
theorem beats_spec {l:List (Int × Pe)} (hp:n.ps=some l) (hk:PKeys n.id l) (hl:n.rms.length≤999999000) (hw:Sat R (NAt R p n::Hs) w):
  Gets Tryz.prog 52 #[.pointer (some ⟨p,0,none⟩)] w fun v w'=>v=.tuple #[]∧Sat R (NAt R p n.beats::Hs) w':=by
 apply call52
 refine (members_spec hp hk hw).use ?_
 clear hw
 rintro _ w ⟨s,rfl,hw⟩
 have h15:=mem_len hp hk
 have hsl:=Own.len hw
 rw [List.length_map] at hsl
 refine ⟨s,rfl,?_⟩
 refine ⟨fun i w=>∃ k:Nat,i=k∧k≤n.mem.length∧Sat R (Own s 3 (ints n.mem)::NAt R p ((n.mem.take k).foldl Rn.beat n)::Hs) w,fun i _=>n.mem.length - i.toNat,⟨0,rfl,Nat.zero_le _,hw⟩,?_⟩
 clear hw
 rintro _ _ w ⟨k,rfl,hk',hw⟩
 refine Br.d (fun h=>?_) (fun h=>?_)
 ·have hkl:k<n.mem.length:=by omega
  refine Own.idx hw (eqS hw) hkl ?_
  obtain ⟨h1,h2,_,_⟩:=beats_ps (n.mem.take k) n
  obtain ⟨x,hx⟩:=mem_keys hp _ (List.getElem_mem hkl)
  refine (beat_spec (h1.trans hp) hx (by rw [h2,List.length_take];omega) hw.swap).use ?_
  clear hw
  rintro _ w ⟨rfl,hw⟩
  rw [wrap64 (by omega) (by omega)]
  refine ⟨rfl,⟨k + 1,by omega,hkl,?_⟩,by dsimp only;omega⟩
  rw [foldl_snoc Rn.beat n hkl]
  exact hw.swap
 ·have:k=n.mem.length:=by omega
  subst this
  rw [List.take_length] at hw
  exact ⟨rfl,hw.drop⟩
end Go.Proofs.YthpmfnffkjjlnaaGreat
/- A node of a group: it sends. Condition: bounds on numbers. -/
namespace Go.Proofs.YthpmfnffkjjlnaaGreat
set_option linter.unusedVariables false
set_option linter.unusedSimpArgs false
open Go Go.VC
open Go.Rf (Ey Lg LgOk)
variable {R R' R1 R2:Cx} {Hs Rest Rest2:List HP} {w:World} {p:Nat} {n m:Rn}
def AllPe (n:Rn):Prop:=∀ l,n.ps=some l→∀ t∈l,PeOk t.2
structure Snd (n m:Rn) (k:Nat):Prop where
 eq:m={ n with rms:=m.rms,ps:=m.ps }
 keys:m.ps.map (fun l=>l.map (·.1))=n.ps.map (fun l=>l.map (·.1))
 len:m.rms.length≤n.rms.length + k
 pe:AllPe n→AllPe m
theorem Snd.refl:Snd n n 0:=⟨rfl,rfl,Nat.le_refl _,id⟩
theorem Snd.trans {m':Rn} {k k':Nat} (h:Snd n m k) (h':Snd m m' k'):Snd n m' (k + k'):=
 ⟨by rw [h'.eq,h.eq],h'.keys.trans h.keys,by have:=h.len;have:=h'.len;omega,fun x=>h'.pe (h.pe x)⟩
theorem Snd.put (x:Mg):Snd n (n.put x) 1:=⟨rfl,rfl,by show (n.rms++[_]).length≤_;simp,fun h=>h⟩
theorem setM_keys {β:Type} {k:Int} {v:β}:∀ l:List (Int × β),(setM k v l).map (·.1)=l.map (·.1)
 |[]=>rfl
 |e::l=>by
  unfold setM
  split
  ·rfl
  ·rw [List.map_cons,List.map_cons,setM_keys l]
theorem setM_mem {β:Type} {k:Int} {v:β} {t:Int × β}:∀ {l:List (Int × β)},t∈setM k v l→t.2=v∨t∈l
 |e::l,h=>by
  unfold setM at h
  split at h
  ·rcases List.mem_cons.1 h with h|h
   ·left;rw [h]
   ·right;exact List.mem_cons_of_mem _ h
  ·rcases List.mem_cons.1 h with h|h
   ·right;rw [h];exact List.mem_cons_self
   ·exact (setM_mem h).imp id (List.mem_cons_of_mem _)
theorem Snd.setP (q:Int) {y:Pe} (hy:AllPe n→PeOk y):Snd n (n.setP q y) 0:=by
 refine ⟨rfl,?_,Nat.le_refl _,fun h=>?_⟩
 ·show (n.ps.map (setM q y)).map _=_
  rw [Option.map_map]
  congr 1
  funext l
  exact setM_keys l
 ·intro l hl t ht
  have hl:n.ps.map (setM q y)=some l:=hl
  obtain ⟨l0,h0,rfl⟩:=Option.map_eq_some_iff.1 hl
  rcases setM_mem ht with h2|h2
  ·rw [h2];exact hy h
  ·exact h l0 h0 t h2
theorem peer_ok {q:Int} {x:Pe} (h:AllPe n) (hx:n.peer q=some x):PeOk x:=by
 unfold Rn.peer at hx
 cases hp:n.ps with
 |none=>rw [hp] at hx;cases hx
 |some l=>rw [hp] at hx;exact h l hp _ (getM_mem hx)
theorem Snd.sendF (q:Int):∀ (k:Nat) (n:Rn),Snd n (Rn.sendF q k n) k
 |0,n=>.refl
 |k + 1,n=>by
  unfold Rn.sendF
  split
  ·exact ⟨rfl,rfl,Nat.le_add_right _ _,id⟩
  ·rename_i x hx
   split
   ·dsimp only
    split
    ·have:=(Snd.put { kd:=9,to':=q,ix:=n.sn.ix,lt:=n.sn.tm,sn:=n.sn }).trans (Snd.setP q (n:=n.put { kd:=9,to':=q,ix:=n.sn.ix,lt:=n.sn.tm,sn:=n.sn }) (y:=x.install n.sn.ix) fun h=>(peer_ok (n:=n) h hx).install _)
     exact ⟨this.eq,this.keys,by have:=this.len;omega,this.pe⟩
    ·split
     ·exact ⟨rfl,rfl,Nat.le_add_right _ _,id⟩
     ·obtain ⟨m,hm⟩:∃ m,m=(n.put { kd:=5,to':=q,ix:=x.nx - 1,lt:=(n.log.term (x.nx - 1)).1,com:=n.log.com,es:=n.log.get (x.nx - 1 + 1) 8 }).setP q (x.sent (x.nx - 1 + (n.log.get (x.nx - 1 + 1) 8).length)):=⟨_,rfl⟩
      have h1:Snd n m 1:=by
       rw [hm]
       exact (Snd.put _).trans (Snd.setP q fun h=>(peer_ok (n:=n) h hx).sent _)
      rw [←hm]
      split
      ·have:=h1.trans (Snd.sendF q k m)
       exact ⟨this.eq,this.keys,by have:=this.len;omega,this.pe⟩
      ·exact ⟨h1.eq,h1.keys,by have:=h1.len;omega,h1.pe⟩
   ·exact ⟨rfl,rfl,Nat.le_add_right _ _,id⟩
theorem Snd.send (q:Int):Snd n (n.send q) 66:=.sendF q 66 n
theorem Snd.pkeys {k:Nat} {l:List (Int × Pe)} (h:Snd n m k) (hp:n.ps=some l) (hk:PKeys n.id l):∃ l',m.ps=some l'∧PKeys m.id l':=by
 have h1:=h.keys
 rw [hp] at h1
 obtain ⟨l',h2,h3⟩:=Option.map_eq_some_iff.1 h1
 have e:m.id=n.id:=by rw [h.eq]
 exact ⟨l',h2,by rw [h3];exact hk.nd,by rw [h3,e];exact hk.rg⟩
theorem Snd.rng {k:Nat} (h:Snd n m k) (g:RnG n):RnG m:=by rw [h.eq];exact ⟨g.lg,g.lb,g.sg,g.w1,g.w64⟩
theorem PsHole.set {mm b:Nat} {q:Int} {l:List (Int × Pe)} (y:Pe) (hw:Sat R (PsHole mm q b l::Hs) w):Sat R (PsHole mm q b (setM q y l)::Hs) w:=by
 obtain ⟨a,c,x,⟨e,hn⟩,hw⟩:=PsHole.iff.1 hw
 refine PsHole.iff.2 ⟨a,c,y,⟨?_,hn⟩,?_⟩
 ·rw [e,List.map_append,List.map_cons,List.map_append,List.map_cons]
  rw [show pOf (q,b,x)=(q,x) from rfl,setM_app hn (by simp)]
 ·rw [show (a++(q,b,y)::c).map pEn=(a++(q,b,x)::c).map pEn by rw [List.map_append,List.map_append];rfl]
  exact hw
def flyLen (b:Nat) (w:World):Nat:=match w.heap[b]? with
 |some (.cells l _ _)=>(match l[5]? with
  |some (Value.slice _ k _)=>k
  |_=>0)
 |_=>0
theorem flyLen_eq {b:Nat} {x:Pe} (hw:Sat R (PeAt b x::Hs) w):flyLen b w=x.fl.length:=by
 obtain ⟨s,hw⟩:=PeAt.iff.1 hw
 have h:=(FlAt.len hw.swap).1
 unfold flyLen
 rw [hw.at]
 exact h
theorem getM_set {k:Int} {v:Pe} {l:List (Int × Pe)} {x:Pe} (h:getM k l=some x):getM k (setM k v l)=some v:=by
 rw [getM_setM' (by rw [h];rfl)];simp
structure SndSt (R:Cx) (Hs:List HP) (p mm b:Nat) (q:Int) (n:Rn) (more:Bool) (w:World) (j:Nat) (R':Cx) (m:Rn) (x:Pe) (l:List (Int × Pe)):Prop where
 e:R.Ext R'
 s:Snd n m j
 ps:m.ps=some l
 gx:getM q l=some x
 r:n.send q=if more then Rn.sendF q (66 - j) m else m
 f:more=true→j≤x.fl.length
 j:j≤65
 w:Sat R' (PeAt b x::NAtG R' p m (some mm) (PsHole mm q b l)::Hs) w
theorem send_spec {l:List (Int × Pe)} {q:Int} {x:Pe} (g:RnG n) (hsn:rightSn n.sn=true) (hlast:n.log.last≤1099511627775) (hpe:AllPe n) (hp:n.ps=some l) (hx:getM q l=some x) (hl:n.rms.length≤999999000) (hw:Sat R (NAt R p n::Hs) w):
  Gets Tryz.prog 46 #[.pointer (some ⟨p,0,none⟩),.int .i64 q] w fun v w'=>v=.tuple #[]∧∃ R',R.Ext R'∧Sat R' (NAt R' p (n.send q)::Hs) w':=by
 obtain ⟨mm,b,hw⟩:=NAt.focus hp hx hw
 obtain ⟨L,hn,hw⟩:=NAtG.iff.1 hw.swap
 apply call46
 refine NilP.mk rfl ⟨some mm,by rw [←hn.2];exact At.own (eqS hw) (by exact ⟨rfl,trivial⟩),some ⟨b,0,none⟩,fun w' h=>by subst h;exact PsHole.look (hw.take (PsHole mm q b l)) false,?_⟩
 have hw:Sat R (NAtG R p n (some mm) (PsHole mm q b l)::PeAt b x::Hs) w:=NAtG.iff.2 ⟨L,hn,hw.arr⟩
 refine ⟨fun more w=>∃ j R' m y l',SndSt R Hs p mm b q n more w j R' m y l',fun more w=>if more then 100 - flyLen b w else 0,
  ⟨0,R,n,x,l,.refl,.refl,hp,hx,by rw [if_pos rfl];rfl,fun _=>Nat.zero_le _,by omega,hw.swap⟩,?_⟩
 clear hw
 rintro _ more w ⟨j,R1,m,x,l,st⟩
 obtain ⟨e1,hs,hp,hx,hr,hf,hj,hw⟩:=st
 have gm:=hs.rng g
 have pem:=hs.pe hpe
 have elog:m.log=n.log:=by rw [hs.eq]
 have hpx:m.peer q=some x:=by unfold Rn.peer;rw [hp];exact hx
 have xok:=peer_ok pem hpx
 have hlen:=hs.len
 have hfw:=xok.fw
 have hxw:=xok.w1
 have hnx0:=xok.n0
 have hnx1:=xok.n1
 have hll:=gm.lg.last_le
 have hb0:=gm.lg.b0
 have hl0:0≤m.log.last:=by unfold Lg.last;omega
 have fin:∀ {w:World} {R2:Cx} {m':Rn} {y:Pe},R1.Ext R2→n.send q=m'.setP q y→m'.ps=some l→Sat R2 (PeAt b y::NAtG R2 p m' (some mm) (PsHole mm q b l)::Hs) w→∃ R',R.Ext R'∧Sat R' (NAt R' p (n.send q)::Hs) w:=fun {w R2 m' y} e h1 h2 h3=>⟨R2,e1.trans e,by rw [h1];exact NAtG.close h2 h3⟩
 refine ⟨fun w=>(more=true∧x.may=true∧x.nx≤m.log.last + 1)∧Sat R1 (PeAt b x::NAtG R1 p m (some mm) (PsHole mm q b l)::Hs) w,?_,?_⟩
 ·obtain ⟨L,hn,hw⟩:=NAtG.iff.1 hw.swap
  refine drw_rule' (Sat R1 [pts p (nCells m L),VC.tru]) hw (fun w hw=>hw.k1) fun w hw=>Br.mk (fun hm=>?_) (fun hm=>?_)
  ·rw [if_pos hm] at hr
   have hf:=hf hm
   obtain ⟨k,hk⟩:∃ k,66 - j=k + 1:=⟨65 - j,by omega⟩
   rw [hk] at hr
   have un:(x.may && decide (x.nx≤m.log.last + 1))=false→n.send q=m.setP q x:=fun h=>by
    rw [hr,setP_same hp hx]
    unfold Rn.sendF
    simp only [hpx]
    rw [if_neg (by rw [h];simp)]
   refine (pmay_spec (hw.take (PeAt b x))).use ?_
   clear hw
   rintro _ w ⟨rfl,hw⟩
   refine ⟨_,rfl,hw.k1,Br.mk (fun h=>NilP.mk rfl ⟨_,At.own selfS (by exact ⟨rfl,trivial⟩),?_⟩) (fun h=>⟨rfl,fin .refl (un (by rw [h];rfl)) hp (hw.cons fun _ h=>NAtG.iff.2 ⟨L,hn,h.arr⟩)⟩)⟩
   refine (pnext_spec hw).use ?_
   clear hw
   rintro _ w ⟨rfl,hw⟩
   refine ⟨_,rfl,hw.k1,?_⟩
   refine (llast_spec gm.lg (hw.take (LgAt R1 L.lp m.log))).use ?_
   clear hw
   rintro _ w ⟨rfl,hw⟩
   have hw:Sat R1 (PeAt b x::NAtG R1 p m (some mm) (PsHole mm q b l)::Hs) w:=(hw.take (PeAt b x)).cons fun _ h=>NAtG.iff.2 ⟨L,hn,h.arr⟩
   refine ⟨_,rfl,?_⟩
   rw [wrap64 (by omega) (by omega)]
   exact Br.d (fun h2=>⟨⟨hm,h,h2⟩,hw⟩) (fun h2=>⟨rfl,fin .refl (un (by rw [h,decide_eq_false h2];rfl)) hp hw⟩)
  ·rw [if_neg (by rw [hm];simp)] at hr
   refine ⟨rfl,fin .refl (by rw [hr,setP_same hp hx]) hp ?_⟩
   exact (hw.take (PeAt b x)).cons fun _ h=>NAtG.iff.2 ⟨L,hn,h.arr⟩
 have hflw:=flyLen_eq hw
 clear hw
 rintro _ w ⟨⟨hm,hmay,hnl⟩,hw⟩
 rw [if_pos hm] at hr
 have hf:=hf hm
 obtain ⟨k,hk⟩:∃ k,66 - j=k + 1:=⟨65 - j,by omega⟩
 rw [hk] at hr
 unfold Rn.sendF at hr
 simp only [hpx] at hr
 rw [if_pos (by rw [hmay,decide_eq_true hnl];rfl)] at hr
 refine (pnext_spec hw).use ?_
 clear hw
 rintro _ w ⟨rfl,hw⟩
 obtain ⟨L,hn,hw⟩:=NAtG.iff.1 hw.swap
 refine ⟨_,rfl,NilP.mk rfl ⟨_,At.own (eqS hw) (by exact ⟨rfl,trivial⟩),?_⟩⟩
 rw [wrap64 (by omega) (by omega),wrap64 (x:=x.nx - 1 + 1) (by omega) (by omega)]
 refine (lterm_spec gm.lg _ (hw.take (LgAt R1 L.lp m.log))).use ?_
 clear hw
 rintro _ w ⟨rfl,hw⟩
 have hw:=hw.take (pts p (nCells m L))
 refine ⟨_,_,rfl,Br.nb (fun h=>?_) (fun h=>?_)⟩
 ·rw [if_pos (by rw [h];rfl)] at hr
  have esn:m.sn=n.sn:=by rw [hs.eq]
  have hsn':rightSn m.sn=true:=by rw [esn];exact hsn
  unfold rightSn rightN at hsn'
  simp only [Bool.and_eq_true,decide_eq_true_eq] at hsn'
  have hv:=rises_len15 (right_rises hsn'.1.2)
  have hl2:=rises_len15 (right_risesL hsn'.1.2)
  refine drw_rule' (Sat R1 [pts p (nCells m L),VC.tru]) hw (fun w hw=>hw.k1) fun w hw=>NilP.mk rfl ⟨m.sn.ix,At.own selfS (by exact ⟨rfl,trivial⟩),NilP.mk rfl ⟨m.sn.tm,At.own selfS (by exact ⟨rfl,trivial⟩),NilP.mk rfl ⟨m.sn.ix,m.sn.tm,L.sv,L.sl,L.sd,At.own (eqS hw) (by exact ⟨rfl,rfl,rfl,rfl,rfl,trivial⟩),?_⟩⟩⟩
  refine (snCopied_spec (s:=m.sn) hn.1.sg hn.1.sd (by omega) (by omega) (by omega) hw).use ?_
  clear hw
  rintro _ w ⟨R2,v',l',d',e2,hg',hd',rfl,hw⟩
  refine ⟨_,_,v',l',d',rfl,(e2.back hw).k1,?_⟩
  have hw:Sat R2 (NAtG R2 p m (some mm) (PsHole mm q b l)::PeAt b x::Hs) w:=NAtG.ext (NAtG.iff.2 ⟨L,hn,hw.arr⟩) e2
  refine (putG_spec (m:={ kd:=9,to':=q,ix:=m.sn.ix,lt:=m.sn.tm,sn:=m.sn }) (L:=⟨⟨none,0,0⟩,[],v',l',d'⟩) ⟨⟨Wid.nil,rfl,fun h=>absurd rfl h⟩,.nil,rfl,hg',hd'⟩ (by omega) hw).use ?_
  clear hw
  rintro _ w ⟨rfl,hw⟩
  obtain ⟨L2,hn2,hw⟩:=NAtG.iff.1 hw
  refine ⟨rfl,NilP.mk rfl ⟨m.sn.ix,At.own (eqS hw) (by exact ⟨rfl,trivial⟩),?_⟩⟩
  refine (pinstall_spec m.sn.ix (hw.take (PeAt b x))).use ?_
  clear hw
  rintro _ w ⟨⟨t,rfl⟩,hw⟩
  exact ⟨t,rfl,rfl,fin e2 hr hp (hw.cons fun _ h=>NAtG.iff.2 ⟨L2,hn2,h.arr⟩)⟩
 rw [if_neg (by rw [h];simp)] at hr
 refine NilP.mk rfl ⟨_,At.own (eqS hw) (by exact ⟨rfl,trivial⟩),?_⟩
 refine (lget_spec gm.lg _ 8 (hw.take (LgAt R1 L.lp m.log))).use ?_
 clear hw
 rintro _ w ⟨R2,t,ds,e2,hd,he,rfl,hw⟩
 obtain ⟨R3,e3,ht,hw⟩:=OwnN.leak hw
 have hlen8:t.len=(m.log.get (x.nx - 1 + 1) 8).length:=by rw [←he,List.length_map];have:=ht.len;simpa using this
 have h8:(m.log.get (x.nx - 1 + 1) 8).length≤8:=by
  unfold Lg.get
  split
  ·simp
  ·rw [List.length_take];show min 8 _≤8;omega
 refine ⟨t,rfl,?_⟩
 have e13:=e2.trans e3
 have hn3:NIn R3 m L:=hn.1.ext e13
 have hw:Sat R3 (pts p (nCells m L)::ElAt R1 L.ep m.e::LgAt R3 L.lp m.log::PsHole mm q b l::RsAt L.rs m.rs::MsAt R1 L.ms m.rms::RrAt L.rr m.rrd::PeAt b x::Hs) w:=by
  have h2:=LgAt.ext hw e3
  exact h2.arr
 have hw:=NAtG.mkX hn.1 hn.2 e13 hw
 refine (pstate_spec hw.swap).use ?_
 clear hw
 rintro _ w ⟨rfl,hw⟩
 refine ⟨_,rfl,?_⟩
 refine ⟨fun w=>(x.st==1 && (m.log.get (x.nx - 1 + 1) 8).isEmpty)=false∧Sat R3 (PeAt b x::NAtG R3 p m (some mm) (PsHole mm q b l)::Hs) w,?_,?_⟩
 ·refine Br.e (fun h2=>?_) (fun h2=>⟨by rw [show (x.st==1)=false by simp [h2]];rfl,hw⟩)
  rw [hlen8]
  refine Br.e (fun h3=>⟨rfl,fin e13 ?_ hp hw⟩) (fun h3=>⟨?_,hw⟩)
  ·have h4:(m.log.get (x.nx - 1 + 1) 8)=[]:=List.length_eq_zero_iff.1 (by omega)
   rw [if_pos (by rw [h4];simp [h2])] at hr
   rw [hr,setP_same hp hx]
  ·cases hc:m.log.get (x.nx - 1 + 1) 8 with
   |nil=>rw [hc] at h3;exact absurd rfl h3
   |cons a c=>simp
 clear hw
 rintro _ w ⟨hne,hw⟩
 rw [if_neg (by rw [hne];simp)] at hr
 obtain ⟨L2,hn2,hw⟩:=NAtG.iff.1 hw.swap
 refine NilP.mk rfl ⟨_,At.own (eqS hw) (by exact ⟨rfl,trivial⟩),?_⟩
 refine (lcommitted_spec (hw.take (LgAt R3 L2.lp m.log))).use ?_
 clear hw
 rintro _ w ⟨rfl,hw⟩
 have hw:Sat R3 (NAtG R3 p m (some mm) (PsHole mm q b l)::PeAt b x::Hs) w:=NAtG.iff.2 ⟨L2,hn2,hw.arr⟩
 refine ⟨_,rfl,?_⟩
 have hmg:MgIn R3 { kd:=5,to':=q,ix:=x.nx - 1,lt:=(m.log.term (x.nx - 1)).1,com:=m.log.com,es:=m.log.get (x.nx - 1 + 1) 8 } ⟨t,ds,⟨none,0,0⟩,⟨none,0,0⟩,⟨none,0,0⟩⟩:=by
  have h0:=MgIn.nil (R:=R3) (m:={ kd:=0 }) rfl rfl
  exact ⟨ht,hd.ext e3,he,h0.g,h0.d⟩
 refine (putG_spec hmg (by omega) hw).use ?_
 clear hw
 rintro _ w ⟨rfl,hw⟩
 refine ⟨rfl,?_⟩
 rw [hlen8,wrap64 (by omega) (by omega)]
 obtain ⟨m2,hm2⟩:∃ m2,m2=m.put { kd:=5,to':=q,ix:=x.nx - 1,lt:=(m.log.term (x.nx - 1)).1,com:=m.log.com,es:=m.log.get (x.nx - 1 + 1) 8 }:=⟨_,rfl⟩
 rw [←hm2] at hw hr
 have hp2:m2.ps=some l:=by rw [hm2];exact hp
 have hs2:Snd n m2 (j + 1):=by rw [hm2];exact hs.trans (.put _)
 refine (psent_spec xok (x.nx - 1 + (m.log.get (x.nx - 1 + 1) 8).length) hw.swap).use ?_
 clear hw
 rintro _ w ⟨⟨t',rfl⟩,hw⟩
 obtain ⟨y,hy⟩:∃ y,y=x.sent (x.nx - 1 + (m.log.get (x.nx - 1 + 1) 8).length):=⟨_,rfl⟩
 rw [←hy] at hw hr
 refine ⟨t',rfl,?_⟩
 have yok:PeOk y:=by rw [hy];exact xok.sent _
 have hw2:Sat R3 (PeAt b y::NAtG R3 p (m2.setP q y) (some mm) (PsHole mm q b (setM q y l))::Hs) w:=hw.cons fun _ h=>by
  obtain ⟨L3,hn3,h⟩:=NAtG.iff.1 h
  have h:=PsHole.set y (h.take (PsHole mm q b l))
  exact NAtG.iff.2 ⟨L3,⟨⟨hn3.1.g,hn3.1.sg,hn3.1.sd⟩,hn3.2⟩,(show Sat _ (PsHole mm q b (setM q y l)::pts p (nCells (m2.setP q y) L3)::ElAt R3 L3.ep (m2.setP q y).e::LgAt R3 L3.lp (m2.setP q y).log::RsAt L3.rs (m2.setP q y).rs::MsAt R3 L3.ms (m2.setP q y).rms::RrAt L3.rr (m2.setP q y).rrd::Hs) _ from h).arr⟩
 have hs3:Snd n (m2.setP q y) (j + 1):=hs2.trans (.setP q fun _=>yok)
 have hp3:(m2.setP q y).ps=some (setM q y l):=by unfold Rn.setP;rw [hp2];rfl
 have hy1:x.st=1→y.fl.length=x.fl.length + 1:=fun h1=>by
  have hne2:(m.log.get (x.nx - 1 + 1) 8)≠[]:=fun h=>by rw [h,h1] at hne;cases hne
  have hpos:=List.length_pos_iff.2 hne2
  have hle:x.nx - 1 + ((m.log.get (x.nx - 1 + 1) 8).length:Int)≤m.log.last:=by
   unfold Lg.get at hpos ⊢
   split at hpos
   ·simp at hpos
   ·rename_i hc
    rw [if_neg hc]
    rw [List.length_take,List.length_drop,Rf.all_len] at hpos ⊢
    unfold Lg.last
    omega
  have elast:m.log.last=n.log.last:=by rw [elog]
  rw [hy]
  generalize (m.log.get (x.nx - 1 + 1) 8).length=len at hle hpos
  unfold Pe.sent
  rw [if_neg (by rw [hmay,decide_eq_false (by omega),decide_eq_false (by omega)];simp),if_neg (by simp [h1]),if_pos (by omega)]
  show (x.fl++[_]).length=_
  rw [List.length_append];rfl
 refine ⟨⟨j + 1,R3,m2.setP q y,y,setM q y l,e1.trans e13,hs3,hp3,getM_set hx,?_,fun h1=>?_,by omega,hw2⟩,?_⟩
 ·rw [hr]
  by_cases h1:x.st==1
  ·rw [if_pos h1,if_pos h1,show 66 - (j + 1)=k by omega]
  ·rw [if_neg h1,if_neg h1]
 ·have:=hy1 (by simpa using h1);omega
 ·dsimp only
  rw [if_pos hm,hflw]
  by_cases h1:x.st=1
  ·have:=hy1 h1
   have hfy:=flyLen_eq hw2
   rw [if_pos (by simp [h1]),hfy]
   omega
  ·rw [if_neg (by simp [h1])]
   omega
end Go.Proofs.YthpmfnffkjjlnaaGreat
