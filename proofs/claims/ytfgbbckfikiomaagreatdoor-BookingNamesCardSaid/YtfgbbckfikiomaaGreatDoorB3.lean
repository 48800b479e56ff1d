/- A flight in memory. Condition: none. -/
import Derived.Test.YtfgbbckfikiomaaGreatDoorB2
import Derived.Shelf.SlIterI.Nil
import Derived.Shelf.SlIterI.Collect
import Derived.Shelf.SlIterI.Sorted
import Derived.Shelf.SortM.Plain
import Derived.Shelf.SortM.SortNone
import Derived.Ground.GgzProg
import Derived.Ground.SlgmProg
import Derived.Test.YtfgbbckfikiomaaGreatDoorProg
import Derived.Test.YtfgbbckfikiomaaGreatDoorB1
namespace Go.Proofs.YtfgbbckfikiomaaGreatDoor
set_option linter.unusedVariables false
open Go Go.VC
variable {R:Cx} {Hs Rest:List HP} {w:World}
structure Hold where
 owner:Int
 cls:Int
 many:Int
 seats:List Int
structure PF where
 num:Int
 rows:Int
 grps:List Int
 lims:List Int
 sold:List Int
 hs:List (Int × Hold)
 own:List (Int × Int)
abbrev hCells (h:Hold) (s:Sl):Obj:=.cells [.int .i64 h.owner,.int .i64 h.cls,.int .i64 h.many,.slice s.a s.len s.cap].toArray 176 (0,0)
def HoldAt (b:Nat) (h:Hold):HP:=exs fun s:Sl=>Star [pts b (hCells h s),Own s 3 (intsI h.seats)]
abbrev HE:=Int × Nat × Hold
def HoldsAt (E:List HE):HP:=Star (E.map fun e=>HoldAt e.2.1 e.2.2)
abbrev hPtrs (E:List HE):List (Int × Value):=E.map fun e=>(e.1,.pointer (some ⟨e.2.1,0,none⟩))
abbrev hEr (E:List HE):List (Int × Hold):=E.map fun e=>(e.1,e.2.2)
abbrev oVals (l:List (Int × Int)):List (Int × Value):=l.map fun e=>(e.1,.int .i64 e.2)
abbrev fCells (f:PF) (sg sl ss:Sl) (hm om:Nat):Obj:=
 .cells [.int .i64 f.num,.int .i64 f.rows,.slice sg.a sg.len sg.cap,.slice sl.a sl.len sl.cap,.slice ss.a ss.len ss.cap,.map (some hm),.map (some om)].toArray 174 (0,0)
abbrev FO (p hm om:Nat) (sg sl ss:Sl) (E:List HE) (f:PF) (Hs:List HP):List HP:=
 pts p (fCells f sg sl ss hm om)::MapAt hm (hPtrs E)::MapAt om (oVals f.own)::HoldsAt E::Hs
structure FX where
 hm:Nat
 om:Nat
 sg:Sl
 sl:Sl
 ss:Sl
 E:List HE
def FlightAt (p:Nat) (f:PF):HP:=exs fun x:FX=>
 Star [pur (hEr x.E=f.hs),Reads x.sg (intsI f.grps),Reads x.sl (intsI f.lims),Reads x.ss (intsI f.sold),pts p (fCells f x.sg x.sl x.ss x.hm x.om),MapAt x.hm (hPtrs x.E),MapAt x.om (oVals f.own),HoldsAt x.E]
theorem Sat.flight {p:Nat} {f:PF}:Sat R (FlightAt p f::Hs) w↔∃ hm om sg sl ss E,hEr E=f.hs∧Sat R (Reads sg (intsI f.grps)::Reads sl (intsI f.lims)::Reads ss (intsI f.sold)::FO p hm om sg sl ss E f Hs) w:=by
 unfold FlightAt
 rw [Sat.exs]
 constructor
 ·rintro ⟨⟨hm,om,sg,sl,ss,E⟩,h⟩
  obtain ⟨h1,h2⟩:=Sat.pur.1 (Sat.star.1 h)
  exact ⟨hm,om,sg,sl,ss,E,h1,h2⟩
 ·rintro ⟨hm,om,sg,sl,ss,E,h1,h2⟩
  exact ⟨⟨hm,om,sg,sl,ss,E⟩,Sat.star.2 (Sat.pur.2 ⟨h1,h2⟩)⟩
theorem Sat.flightO {p:Nat} {f:PF} (hw:Sat R (FlightAt p f::Hs) w):∃ hm om sg sl ss E R',hEr E=f.hs∧R.Ext R'∧SlR R'.m sg (intsI f.grps)∧SlR R'.m sl (intsI f.lims)∧SlR R'.m ss (intsI f.sold)∧Sat R' (FO p hm om sg sl ss E f Hs) w∧
  ∀ Hs' w',Sat R' Hs' w'→Sat R (Reads sg (intsI f.grps)::Reads sl (intsI f.lims)::Reads ss (intsI f.sold)::Hs') w':=by
 obtain ⟨hm,om,sg,sl,ss,E,hE,hw⟩:=Sat.flight.1 hw
 obtain ⟨R1,e1,g1,hw,b1⟩:=Reads.out hw
 obtain ⟨R2,e2,g2,hw,b2⟩:=Reads.out hw
 obtain ⟨R3,e3,g3,hw,b3⟩:=Reads.out hw
 exact ⟨hm,om,sg,sl,ss,E,R3,hE,e1.trans (e2.trans e3),e3.slR (e2.slR g1),e3.slR g2,g3,hw,fun Hs' w' h=>b1 _ _ (b2 _ _ (b3 _ _ h))⟩
theorem Sat.flightC {p hm om:Nat} {sg sl ss:Sl} {E:List HE} {f:PF} (hE:hEr E=f.hs) (hw:Sat R (Reads sg (intsI f.grps)::Reads sl (intsI f.lims)::Reads ss (intsI f.sold)::FO p hm om sg sl ss E f Hs) w):Sat R (FlightAt p f::Hs) w:=
 Sat.flight.2 ⟨hm,om,sg,sl,ss,E,hE,hw⟩
theorem Sat.hold {b:Nat} {h:Hold}:Sat R (HoldAt b h::Hs) w↔∃ s:Sl,Sat R (pts b (hCells h s)::Own s 3 (intsI h.seats)::Hs) w:=by
 unfold HoldAt
 rw [Sat.exs]
 exact ⟨fun ⟨s,h⟩=>⟨s,Sat.star.1 h⟩,fun ⟨s,h⟩=>⟨s,Sat.star.2 h⟩⟩
theorem Sat.holds {a b:List HE} {e:HE}:Sat R (HoldsAt (a++e::b)::Hs) w↔Sat R (HoldAt e.2.1 e.2.2::HoldsAt (a++b)::Hs) w:=by
 have p:((a++e::b).map fun e:HE=>HoldAt e.2.1 e.2.2).Perm (HoldAt e.2.1 e.2.2::(a++b).map fun e:HE=>HoldAt e.2.1 e.2.2):=by
  rw [List.map_append,List.map_cons,List.map_append];exact List.perm_middle
 unfold HoldsAt
 constructor
 ·intro h
  have h1:=(Sat.star.1 h).perm (p.append_right Hs)
  exact h1.cons fun _ h=>Sat.star.2 h
 ·intro h
  have h1:Sat R ((HoldAt e.2.1 e.2.2::(a++b).map fun e:HE=>HoldAt e.2.1 e.2.2)++Hs) w:=h.cons fun _ h=>Sat.star.1 h
  exact Sat.star.2 (h1.perm (p.symm.append_right Hs))
abbrev hMap:MapT Tryz.prog 171 Int 3 207 (.pointer none):=⟨Tryz.underlying171,Tryz.underlying3,Tryz.zeroValue207⟩
abbrev oMap:MapT Tryz.prog 172 Int 3 3 (.int .i64 0):=⟨Tryz.underlying172,Tryz.underlying3,Tryz.zeroValue3⟩
theorem hPtrs_get (k:Int) (E:List HE):getM k (hPtrs E)=(getM k E).map fun x=>.pointer (some ⟨x.1,0,none⟩):=getM_map (fun x:Nat × Hold=>Value.pointer (some ⟨x.1,0,none⟩)) k E
theorem hEr_get (k:Int) (E:List HE):getM k (hEr E)=(getM k E).map (·.2):=getM_map (fun x:Nat × Hold=>x.2) k E
theorem oVals_get (k:Int) (l:List (Int × Int)):getM k (oVals l)=(getM k l).map (Value.int .i64):=getM_map (Value.int .i64) k l
theorem hold_look {m:Nat} {E:List HE} (hw:Sat R (MapAt m (hPtrs E)::Hs) w) (k:Int) (c:Bool):
  (Instr.lookup 171 (.map (some m)) (.int .i64 k) c).run Tryz.prog w=.ok (if c then .tuple #[.pointer ((getM k E).map fun x=>⟨x.1,0,none⟩),.bool (getM k E).isSome] else .pointer ((getM k E).map fun x=>⟨x.1,0,none⟩)) w:=by
 have h:=MapAt.look hMap hw k c
 rw [hPtrs_get] at h
 rw [show Value.int .i64 k=KeyK.enc k from rfl,h]
 cases getM k E<;>rfl
theorem own_look {m:Nat} {l:List (Int × Int)} (hw:Sat R (MapAt m (oVals l)::Hs) w) (k:Int) (c:Bool):
  (Instr.lookup 172 (.map (some m)) (.int .i64 k) c).run Tryz.prog w=.ok (if c then .tuple #[.int .i64 ((getM k l).getD 0),.bool (getM k l).isSome] else .int .i64 ((getM k l).getD 0)) w:=by
 have h:=MapAt.look oMap hw k c
 rw [oVals_get] at h
 rw [show Value.int .i64 k=KeyK.enc k from rfl,h]
 cases getM k l<;>rfl
end Go.Proofs.YtfgbbckfikiomaaGreatDoor
/- A flight: seats told, names, reading. Condition: bounds on lengths. -/
namespace Go.Proofs.YtfgbbckfikiomaaGreatDoor
set_option linter.unusedVariables false
open Go Go.VC
variable {R:Cx} {Hs Rest:List HP} {w:World}
theorem setM_map {α β γ:Type} [BEq α] (f:β→γ) (k:α) (v:β):∀ l:List (α × β),setM k (f v) (l.map fun e=>(e.1,f e.2))=(setM k v l).map fun e=>(e.1,f e.2)
 |[]=>rfl
 |e::l=>by
  simp only [List.map_cons,setM]
  split
  ·rfl
  ·rw [setM_map f k v l];rfl
theorem delM_map {α β γ:Type} [BEq α] (f:β→γ) (k:α):∀ l:List (α × β),delM k (l.map fun e=>(e.1,f e.2))=(delM k l).map fun e=>(e.1,f e.2)
 |[]=>rfl
 |e::l=>by
  simp only [List.map_cons,delM]
  split
  ·rfl
  ·rw [delM_map f k l];rfl
theorem putM_map {α β γ:Type} [BEq α] (f:β→γ) (k:α) (v:β) (l:List (α × β)):putM k (f v) (l.map fun e=>(e.1,f e.2))=(putM k v l).map fun e=>(e.1,f e.2):=by
 unfold putM
 rw [getM_map,Option.isSome_map]
 split
 ·exact setM_map f k v l
 ·simp
def Hold.put (h:Hold) (n:Int):Hold:={ h with seats:=insS n h.seats }
theorem tell_spec {p hm om b:Nat} {sg sl ss:Sl} {a c:List HE} {k n:Int} {h:Hold} {f:PF} (hr:Rise h.seats) (hl:h.seats.length≤1000000000) (hw:Sat R (FO p hm om sg sl ss (a++(k,b,h)::c) f Hs) w):
  Gets Tryz.prog 187 #[.pointer (some ⟨p,0,none⟩),.pointer (some ⟨b,0,none⟩),.int .i64 n] w fun v w'=>v=.tuple #[]∧Sat R (FO p hm om sg sl ss (a++(k,b,h.put n)::c) { f with own:=putM n h.owner f.own } Hs) w':=by
 have hw:=hw.take (HoldsAt (a++(k,b,h)::c))
 obtain ⟨s,hw⟩:=Sat.hold.1 (Sat.holds.1 hw)
 apply call187
 refine NilP.mk rfl ⟨s,At.own (eqS hw) (by exact ⟨rfl,trivial⟩),?_⟩
 obtain ⟨R',hro,_,hw',back⟩:=Own.lend (hw.take (Own s 3 (intsI h.seats))) (by rw [List.length_map];omega)
 refine (bsearch_spec (l:=h.seats) hro hr hl hw').use ?_
 clear hw hw'
 rintro _ w ⟨q,bb,rfl,hq,h1,h2,hw⟩
 have hw:=(back hw).swap
 refine ⟨_,_,rfl,NilP.mk rfl ⟨s,At.own (eqS hw) (by exact ⟨rfl,trivial⟩),?_⟩⟩
 refine new_rule hw fun bn w hw=>?_
 refine (insert_spec (T:=3) hl hq (hw.take (Own s 3 (intsI h.seats)))).use ?_
 clear hw
 rintro _ w ⟨t,rfl,hw⟩
 rw [←insS_at hq h1 h2] at hw
 refine ⟨_,rfl,NilP.mk rfl ?_⟩
 refine store_rule hw (by kernel_rfl) rfl (by simp [Value.cells]) fun w hw=>?_
 have hw:Sat R (pts b (hCells (h.put n) t)::Own t 3 (intsI (insS n h.seats))::pts bn (oneC n 3)::HoldsAt (a++c)::pts p (fCells f sg sl ss hm om)::MapAt hm (hPtrs (a++(k,b,h)::c))::MapAt om (oVals f.own)::Hs) w:=hw
 refine drw_rule hw fun w hw=>?_
 refine NilP.mk rfl ⟨some om,At.own selfS (by exact ⟨rfl,trivial⟩),NilP.mk rfl ⟨h.owner,by rw [add_off];exact At.own selfS (by exact ⟨rfl,trivial⟩),?_⟩⟩
 refine MapAt.put oMap (hw.take (MapAt om (oVals f.own))) n (.int .i64 h.owner) fun w hw=>⟨rfl,?_⟩
 rw [putM_map (Value.int .i64) n h.owner f.own] at hw
 have hw:=(hw.take (pts bn (oneC n 3))).drop
 have hw:Sat R (pts b (hCells (h.put n) t)::Own t 3 (intsI (h.put n).seats)::MapAt om (oVals (putM n h.owner f.own))::HoldsAt (a++c)::pts p (fCells f sg sl ss hm om)::MapAt hm (hPtrs (a++(k,b,h)::c))::Hs) w:=
  (hw.take (Own t 3 (intsI (insS n h.seats)))).take (pts b (hCells (h.put n) t))
 have hw:=Sat.hold.2 ⟨t,hw⟩
 have hw:=(Sat.holds (e:=((k,b,h.put n):HE)) (a:=a) (b:=c)).2 (hw.cons fun _ h=>h.take (HoldsAt (a++c)))
 have e:hPtrs (a++(k,b,h.put n)::c)=hPtrs (a++(k,b,h)::c):=by simp [hPtrs]
 show Sat R (pts p (fCells f sg sl ss hm om)::MapAt hm (hPtrs (a++(k,b,h.put n)::c))::MapAt om (oVals (putM n h.owner f.own))::HoldsAt (a++(k,b,h.put n)::c)::Hs) w
 rw [e]
 exact ((hw.take (MapAt om (oVals (putM n h.owner f.own)))).take (MapAt hm (hPtrs (a++(k,b,h)::c)))).take (pts p (fCells f sg sl ss hm om))
def labsF (n:Int) (g:List Int) (l:List Int):List ByteArray:=l.map fun k=>(labT n g k).1
theorem elStr:El Tryz.prog 29 29 9 16:=⟨Tryz.underlying29,⟨_,Tryz.underlying29⟩,by kernel_rfl⟩
theorem oneAll_str (l:List ByteArray):oneAll (l.map Value.string)=true:=by unfold oneAll;simp [Value.oneCell']
theorem labels_spec {p hm om:Nat} {sg sl ss sq:Sl} {f:PF} {l:List Int} [tk:TakeP p Hs (fCells f sg sl ss hm om) Rest] (hg:RoI R sg f.grps) (hl:RoI R sq l) (hlen:l.length≤1000000) (hw:Sat R Hs w):
  Gets Tryz.prog 190 #[.pointer (some ⟨p,0,none⟩),.slice sq.a sq.len sq.cap] w fun v w'=>∃ t:Sl,v=.slice t.a t.len t.cap∧Sat R (Own t 9 ((labsF f.rows f.grps l).map Value.string)::Hs) w':=by
 have hll:=hl.len
 apply call190
 refine ⟨fun so i w=>∃ j:Nat,i=j∧j≤l.length∧Sat R (Own so 9 ((labsF f.rows f.grps (l.take j)).map Value.string)::Hs) w,fun _ i _=>l.length - i.toNat,⟨0,rfl,by omega,Own.nil hw⟩,?_⟩
 clear hw
 rintro _ so _ w ⟨j,rfl,hj,hw⟩
 refine Br.d (fun h=>?_) (fun h=>?_)
 ·have hj2:j<l.length:=by omega
  refine Ro.ix hl (eqS hw) j rfl hj2 ?_
  refine NilP.mk rfl ⟨f.rows,sg,At.own (l:=[.int .i64 f.num,.int .i64 f.rows,.slice sg.a sg.len sg.cap,.slice sl.a sl.len sl.cap,.slice ss.a ss.len ss.cap,.map (some hm),.map (some om)]) (t:=TakeP.tail (t:=tk)) (eqS hw) (by exact ⟨rfl,rfl,trivial⟩),?_⟩
  refine (label_spec hg hw).use ?_
  rintro _ w ⟨rfl,hw⟩
  have hlab:(labsF f.rows f.grps (l.take j)).length=j:=by unfold labsF;rw [List.length_map,List.length_take];omega
  refine ⟨_,_,rfl,?_⟩
  refine push_rule elStr hw (oneAll_str _) rfl (by rw [List.length_map,hlab];omega) (by rw [List.length_map,hlab];omega) fun t w hw=>?_
  rw [wrap64 (by omega) (by omega)]
  refine ⟨⟨j + 1,by omega,by omega,?_⟩,by dsimp only;omega⟩
  have e:(labsF f.rows f.grps (l.take (j + 1))).map Value.string=(labsF f.rows f.grps (l.take j)).map Value.string++[.string (labT f.rows f.grps l[j]).1]:=by
   unfold labsF
   rw [List.take_add_one,List.getElem?_eq_getElem hj2,Option.toList_some,List.map_append,List.map_append]
   rfl
  rw [e];exact hw
 ·rw [List.take_of_length_le (by omega)] at hw
  exact ⟨so,rfl,hw⟩
end Go.Proofs.YtfgbbckfikiomaaGreatDoor
/- A flight: a new one. Condition: bounds on lengths. -/
namespace Go.Proofs.YtfgbbckfikiomaaGreatDoor
set_option linter.unusedVariables false
open Go Go.VC
variable {R:Cx} {Hs Rest:List HP} {w:World}
theorem map_rule {K:Nat→World→Prop} (hw:Sat R Hs w) (k:∀ m w',Sat R (MapAt (α:=Int) m []::Hs) w'→K m w'):New (.map #[] 0) K w:=
 new_rule hw fun m w hw=>k m w (MapAt.new rfl hw)
theorem zer_rule {n:Nat} {K:Sl→World→Prop} (hn:n≤1000) (hw:Sat R Hs w) (k:∀ s w',Sat R (Own s 3 (intsI (List.replicate n 0))::Hs) w'→K s w'):
  ∃ w',∃ t:Sl,(Instr.makeSlice 28 (.int .i64 (n:Int)) (.int .i64 (n:Int))).run Tryz.prog w=.ok (.slice t.a t.len t.cap) w'∧K t w':=
 make_rule (bytes:=8) (z:=.int .i64 0) Tryz.underlying28 (by kernel_rfl) Tryz.zeroValue3 rfl (by omega) (by omega) hw fun s w hw=>k s w (by
  rw [show intsI (List.replicate n 0)=List.replicate n (.int .i64 0) by simp [intsI]];exact hw)
def emptyF (num rows:Int) (grps lims:List Int):PF:=⟨num,rows,grps,lims,List.replicate lims.length 0,[],[]⟩
theorem empty_spec {num rows:Int} {sg sl:Sl} {grps lims:List Int} (hl:lims.length≤1000) (hw:Sat R (Reads sg (intsI grps)::Reads sl (intsI lims)::Hs) w):
  Gets Tryz.prog 159 #[.int .i64 num,.agg #[.int .i64 rows,.slice sg.a sg.len sg.cap],.slice sl.a sl.len sl.cap] w fun v w'=>∃ p,v=.pointer (some ⟨p,0,none⟩)∧Sat R (FlightAt p (emptyF num rows grps lims)::Hs) w':=by
 have hlen:sl.len=lims.length:=by
  obtain ⟨_,_,h,_⟩:=Reads.out hw.swap
  have:=h.len
  rw [List.length_map] at this;exact this
 apply call159
 refine new_rule hw fun b4 w hw=>?_
 have hw:Sat R (pts b4 (layC rows sg)::Reads sg (intsI grps)::Reads sl (intsI lims)::Hs) w:=hw
 refine drw_rule hw fun w hw=>?_
 rw [hlen]
 have fin:∀ {hm om:Nat} {ss:Sl} {w:World} (_:Sat R (MapAt (α:=Int) om []::MapAt (α:=Int) hm []::Own ss 3 (intsI (List.replicate lims.length 0))::pts b4 (layC rows sg)::Reads sg (intsI grps)::Reads sl (intsI lims)::Hs) w),
   New (.cells #[.int .i64 num,.int .i64 rows,.slice sg.a sg.len sg.cap,.slice sl.a lims.length sl.cap,.slice ss.a ss.len ss.cap,.map (some hm),.map (some om)] 174 (0,0))
    (fun p w=>Sat R (pts b4 (layC rows sg)::Reads sg (intsI grps)::Reads sl (intsI lims)::Hs) w∧∃ p',Value.pointer (some ⟨p,0,none⟩)=.pointer (some ⟨p',0,none⟩)∧Sat R (FlightAt p' (emptyF num rows grps lims)::Hs) w) w:=fun {hm om ss w} hw=>by
  refine new_rule hw fun p w hw=>⟨hw.drop.drop.drop.drop,p,rfl,?_⟩
  refine Sat.flight.2 ⟨hm,om,sg,sl,ss,[],rfl,?_⟩
  have ec:(Obj.cells #[.int .i64 num,.int .i64 rows,.slice sg.a sg.len sg.cap,.slice sl.a lims.length sl.cap,.slice ss.a ss.len ss.cap,.map (some hm),.map (some om)] 174 (0,0))=fCells (emptyF num rows grps lims) sg sl ss hm om:=by rw [←hlen];rfl
  rw [ec] at hw
  have hw:=(hw.take (pts b4 (layC rows sg))).drop
  have hw:=hw.take (Own ss 3 (intsI (List.replicate lims.length 0)))
  have hw:Sat R (Reads ss (intsI (List.replicate lims.length 0))::pts p (fCells (emptyF num rows grps lims) sg sl ss hm om)::MapAt (α:=Int) om []::MapAt (α:=Int) hm []::Reads sg (intsI grps)::Reads sl (intsI lims)::Hs) w:=Own.reads hw
  have h2:Sat R (HoldsAt []::Reads ss (intsI (List.replicate lims.length 0))::pts p (fCells (emptyF num rows grps lims) sg sl ss hm om)::MapAt (α:=Int) om []::MapAt (α:=Int) hm []::Reads sg (intsI grps)::Reads sl (intsI lims)::Hs) w:=Sat.star.2 hw
  have h3:=(((((((h2.take (HoldsAt [])).take (MapAt (α:=Int) om [])).take (MapAt (α:=Int) hm [])).take (pts p (fCells (emptyF num rows grps lims) sg sl ss hm om))).take (Reads ss (intsI (List.replicate lims.length 0)))).take (Reads sl (intsI lims))).take (Reads sg (intsI grps)))
  exact h3
 refine ⟨rows,sg,At.own selfS (by exact ⟨rfl,rfl,trivial⟩),?_,?_,?_⟩
 ·refine zer_rule hl hw fun ss w hw=>⟨hw.drop,?_,?_⟩
  ·refine map_rule hw fun hm w hw=>⟨hw.drop.drop,map_rule hw fun om w hw=>⟨hw.drop.drop.drop,fin hw⟩⟩
  ·refine map_rule hw fun om w hw=>⟨hw.drop.drop,map_rule hw fun hm w hw=>⟨hw.drop.drop.drop,fin hw.swap⟩⟩
 ·refine map_rule hw fun hm w hw=>⟨hw.drop,?_,?_⟩
  ·refine zer_rule hl hw fun ss w hw=>⟨hw.drop.drop,map_rule hw fun om w hw=>⟨hw.drop.drop.drop,fin ((hw.take (MapAt (α:=Int) hm [])).take (MapAt (α:=Int) om []))⟩⟩
  ·refine map_rule hw fun om w hw=>⟨hw.drop.drop,zer_rule hl hw fun ss w hw=>⟨hw.drop.drop.drop,fin ((hw.take (MapAt (α:=Int) hm [])).take (MapAt (α:=Int) om []))⟩⟩
 ·refine map_rule hw fun om w hw=>⟨hw.drop,?_,?_⟩
  ·refine zer_rule hl hw fun ss w hw=>⟨hw.drop.drop,map_rule hw fun hm w hw=>⟨hw.drop.drop.drop,fin ((hw.take (MapAt (α:=Int) hm [])).take (MapAt (α:=Int) om []))⟩⟩
  ·refine map_rule hw fun hm w hw=>⟨hw.drop.drop,zer_rule hl hw fun ss w hw=>⟨hw.drop.drop.drop,fin ((hw.take (MapAt (α:=Int) hm [])).take (MapAt (α:=Int) om []))⟩⟩
end Go.Proofs.YtfgbbckfikiomaaGreatDoor
/- A flight: New, Take. Condition: bounds on lengths. -/
namespace Go.Proofs.YtfgbbckfikiomaaGreatDoor
set_option linter.unusedVariables false
open Go Go.VC
variable {R:Cx} {Hs Rest:List HP} {w:World}
def newOk (num rows:Int) (grps:List Int) (parts:List Nat):Prop:=1≤num∧num≤9999∧layOk rows grps=true∧(limitsT (layN rows grps) parts).2=0
theorem limits_len {s:Int} {parts:List Nat}:(limitsT s parts).1.length≤8:=by
 unfold limitsT
 split
 ·simp
 ·simp only [List.length_cons,limGo_len,List.length_tail];omega
theorem fnew_spec' {num rows:Int} {sg sp:Sl} {grps:List Int} {parts:List Nat} (hg:RoI R sg grps) (hp:SlR R.m sp (flts parts)) (hw:Sat R Hs w):
  Gets Tryz.prog 109 #[.int .i64 num,.agg #[.int .i64 rows,.slice sg.a sg.len sg.cap],.slice sp.a sp.len sp.cap] w fun v w'=>
   (¬ newOk num rows grps parts∧v=.tuple #[.pointer none,.int .i64 1]∧Sat R Hs w')∨
   (newOk num rows grps parts∧∃ p,v=.tuple #[.pointer (some ⟨p,0,none⟩),.int .i64 0]∧Sat R (FlightAt p (emptyF num rows grps (limitsT (layN rows grps) parts).1)::Hs) w'):=by
 apply call109
 refine new_rule hw fun b4 w hw=>?_
 have hw:Sat R (pts b4 (layC rows sg)::Hs) w:=hw
 refine ⟨rows,sg,At.own (eqS hw) (by exact ⟨rfl,rfl,trivial⟩),?_⟩
 refine (count_spec hg hw).use ?_
 rintro _ w ⟨rfl,hw⟩
 refine ⟨_,rfl,?_⟩
 refine (limits_spec hp hw).use ?_
 rintro _ w ⟨t,rfl,hw⟩
 have bad:¬ newOk num rows grps parts→∀ {w},Sat R (Own t 3 (intsI (limitsT (layN rows grps) parts).1)::pts b4 (layC rows sg)::Hs) w→(¬ newOk num rows grps parts∧Value.tuple #[.pointer none,.int .i64 1]=.tuple #[.pointer none,.int .i64 1]∧Sat R Hs w)∨
   (newOk num rows grps parts∧∃ p,Value.tuple #[.pointer none,.int .i64 1]=.tuple #[.pointer (some ⟨p,0,none⟩),.int .i64 0]∧Sat R (FlightAt p (emptyF num rows grps (limitsT (layN rows grps) parts).1)::Hs) w):=fun h w hw=>.inl ⟨h,rfl,hw.drop.drop⟩
 refine ⟨_,_,rfl,Br.d (fun h=>bad (fun h2=>by have:=h2.1;omega) hw) (fun h1=>Br.d (fun h=>bad (fun h2=>by have:=h2.2.1;omega) hw) (fun h2=>?_))⟩
 refine ⟨rows,sg,At.own (eqS hw) (by exact ⟨rfl,rfl,trivial⟩),?_⟩
 refine (right_spec hg hw).use ?_
 rintro _ w ⟨rfl,hw⟩
 refine ⟨_,rfl,Br.nb (fun h=>bad (fun h2=>by have h5:=h2.2.2.1;rw [h] at h5;cases h5) hw) (fun h3=>Br.ne (fun h=>bad (fun h2=>h h2.2.2.2) hw) (fun h4=>?_))⟩
 refine ⟨sg,At.own (eqS hw) (by exact ⟨rfl,trivial⟩),?_⟩
 obtain ⟨l1,_,_⟩:=layOk_iff.1 h3
 refine (cloneI_spec hg (by omega) hw).use ?_
 rintro _ w ⟨tg,rfl,hw⟩
 refine ⟨tg,rfl,?_⟩
 refine store_rule hw (by kernel_rfl) rfl (by simp [Value.cells]) fun w hw=>?_
 have hw:Sat R (pts b4 (layC rows tg)::Own tg 3 (intsI grps)::Own t 3 (intsI (limitsT (layN rows grps) parts).1)::Hs) w:=hw
 refine ⟨rows,tg,At.own (eqS hw) (by exact ⟨rfl,rfl,trivial⟩),?_⟩
 have hw:Sat R (Reads tg (intsI grps)::Reads t (intsI (limitsT (layN rows grps) parts).1)::Hs) w:=Sat.cons (fun _ h=>Own.reads h) (Own.reads hw.drop)
 refine (empty_spec (by have:=limits_len (s:=layN rows grps) (parts:=parts);omega) hw).use ?_
 rintro _ w ⟨p,rfl,hw⟩
 exact ⟨_,rfl,.inr ⟨⟨by omega,by omega,h3,h4⟩,p,rfl,hw⟩⟩
def takeF (f:PF) (owner cls many:Int):PF × Int:=
 if owner<1∨owner>28629151 then (f,1) else if (getM owner f.hs).isSome then (f,7)
 else if (sellT f.lims f.sold cls many).2=0 then ({ f with sold:=(sellT f.lims f.sold cls many).1,hs:=f.hs++[(owner,⟨owner,cls,many,[]⟩)] },0) else (f,(sellT f.lims f.sold cls many).2)
theorem take_fspec {p:Nat} {f:PF} {owner cls many:Int} (hl:f.lims.length≤1000) (hs:f.sold.length≤1000) (hw:Sat R (FlightAt p f::Hs) w):
  Gets Tryz.prog 112 #[.pointer (some ⟨p,0,none⟩),.int .i64 owner,.int .i64 cls,.int .i64 many] w fun v w'=>v=.int .i64 (takeF f owner cls many).2∧Sat R (FlightAt p (takeF f owner cls many).1::Hs) w':=by
 obtain ⟨hm,om,sg,sl,ss,E,R',hE,_,_,rl,rs,hw,back⟩:=Sat.flightO hw
 have same:∀ {w},Sat R' (FO p hm om sg sl ss E f Hs) w→Sat R (FlightAt p f::Hs) w:=fun hw=>Sat.flightC hE (back _ _ hw)
 have eget:(getM owner f.hs).isSome=(getM owner E).isSome:=by rw [←hE,hEr_get,Option.isSome_map]
 apply call112
 refine NilP.mk rfl ⟨some hm,At.own (eqS hw) (by exact ⟨rfl,trivial⟩),(getM owner E).map (fun x=>⟨x.1,0,none⟩),(getM owner E).isSome,fun w' e=>by rw [show w'=w from e];exact hold_look (hw.take (MapAt hm (hPtrs E))) owner true,?_⟩
 refine ⟨fun w=>(1≤owner∧owner≤28629151∧(getM owner E).isSome=false)∧Sat R' (FO p hm om sg sl ss E f Hs) w,?_,?_⟩
 ·refine Br.d (fun h=>?_) (fun h1=>Br.d (fun h=>?_) (fun h2=>Br.mk (fun h=>?_) (fun h=>⟨⟨by omega,by omega,h⟩,hw⟩)))
  ·rw [show takeF f owner cls many=(f,1) by unfold takeF;rw [if_pos (.inl h)]];exact ⟨rfl,same hw⟩
  ·rw [show takeF f owner cls many=(f,1) by unfold takeF;rw [if_pos (.inr h)]];exact ⟨rfl,same hw⟩
  ·rw [show takeF f owner cls many=(f,7) by unfold takeF;rw [if_neg (by omega),if_pos (by rw [eget];exact h)]];exact ⟨rfl,same hw⟩
 clear hw
 rintro _ w ⟨⟨h1,h2,h3⟩,hw⟩
 have e:takeF f owner cls many=if (sellT f.lims f.sold cls many).2=0 then ({ f with sold:=(sellT f.lims f.sold cls many).1,hs:=f.hs++[(owner,⟨owner,cls,many,[]⟩)] },0) else (f,(sellT f.lims f.sold cls many).2):=by
  unfold takeF;rw [if_neg (by omega),if_neg (by rw [eget,h3];simp)]
 rw [e]
 refine drw_rule hw fun w hw=>?_
 refine NilP.mk rfl ⟨sl,At.own selfS (by exact ⟨rfl,trivial⟩),NilP.mk rfl ⟨ss,At.own selfS (by exact ⟨rfl,trivial⟩),?_⟩⟩
 refine (sell_spec (rl.ro (by rw [List.length_map];omega)) (rs.ro (by rw [List.length_map];omega)) hw).use ?_
 rintro _ w ⟨t,rfl,hw⟩
 refine ⟨_,_,rfl,Br.e (fun h4=>?_) (fun h4=>?_)⟩
 ·rw [if_pos h4,h4]
  refine NilP.mk rfl ?_
  refine store_rule hw (by kernel_rfl) rfl (by simp [Value.cells]) fun w hw=>?_
  have hw:Sat R' (pts p (fCells f sg sl t hm om)::Own t 3 (intsI (sellT f.lims f.sold cls many).1)::MapAt hm (hPtrs E)::MapAt om (oVals f.own)::HoldsAt E::Hs) w:=hw
  refine NilP.mk rfl ⟨some hm,At.own (eqS hw) (by exact ⟨rfl,trivial⟩),?_⟩
  refine new_rule hw fun b w hw=>?_
  have hw:Sat R' (pts b (hCells ⟨owner,cls,many,[]⟩ ⟨none,0,0⟩)::pts p (fCells f sg sl t hm om)::Own t 3 (intsI (sellT f.lims f.sold cls many).1)::MapAt hm (hPtrs E)::MapAt om (oVals f.own)::HoldsAt E::Hs) w:=hw
  refine MapAt.put hMap (hw.take (MapAt hm (hPtrs E))) owner (.pointer (some ⟨b,0,none⟩)) fun w hw=>⟨rfl,?_⟩
  have ep:putM owner (Value.pointer (some ⟨b,0,none⟩)) (hPtrs E)=hPtrs (E++[(owner,b,⟨owner,cls,many,[]⟩)]):=by
   unfold putM
   rw [hPtrs_get,Option.isSome_map,h3]
   simp [hPtrs]
  rw [ep] at hw
  have hw:=hw.take (HoldsAt E)
  have hw:=hw.take (pts b (hCells ⟨owner,cls,many,[]⟩ ⟨none,0,0⟩))
  have hw:=(Sat.hold (b:=b) (h:=⟨owner,cls,many,[]⟩)).2 ⟨⟨none,0,0⟩,hw.cons fun _ h=>Own.nil (T:=3) h⟩
  rw [←List.append_nil E] at hw
  have hw:=(Sat.holds (e:=((owner,b,⟨owner,cls,many,[]⟩):HE)) (a:=E) (b:=[])).2 hw
  rw [List.append_nil] at hw
  have hw:=hw.take (Own t 3 (intsI (sellT f.lims f.sold cls many).1))
  have hw:=back _ _ (Own.reads hw)
  refine Sat.flight.2 ⟨hm,om,sg,sl,t,E++[(owner,b,⟨owner,cls,many,[]⟩)],by rw [←hE];simp [hEr],?_⟩
  have hw:=(hw.take (Reads ss (intsI f.sold))).drop
  exact (((((hw.take (HoldsAt (E++[(owner,b,⟨owner,cls,many,[]⟩)]))).take (MapAt om (oVals f.own))).take (MapAt hm (hPtrs (E++[(owner,b,⟨owner,cls,many,[]⟩)])))).take (pts p (fCells f sg sl t hm om))).take (Reads t (intsI (sellT f.lims f.sold cls many).1))).take (Reads sl (intsI f.lims))|>.take (Reads sg (intsI f.grps))
 ·rw [if_neg h4];exact ⟨rfl,same hw.drop⟩
end Go.Proofs.YtfgbbckfikiomaaGreatDoor
/- A flight: Seat, Labels. Condition: bounds on lengths. -/
namespace Go.Proofs.YtfgbbckfikiomaaGreatDoor
set_option linter.unusedVariables false
open Go Go.VC
variable {R:Cx} {Hs Rest:List HP} {w:World}
abbrev FO1 (p hm om b:Nat) (sg sl ss s:Sl) (E Er:List HE) (f:PF) (h:Hold) (own:List (Int × Int)) (Hs:List HP):List HP:=
 pts b (hCells h s)::Own s 3 (intsI h.seats)::HoldsAt Er::pts p (fCells f sg sl ss hm om)::MapAt hm (hPtrs E)::MapAt om (oVals own)::Hs
theorem FO.open {p hm om b:Nat} {sg sl ss:Sl} {a c:List HE} {k:Int} {h:Hold} {f:PF} (hw:Sat R (FO p hm om sg sl ss (a++(k,b,h)::c) f Hs) w):∃ s,Sat R (FO1 p hm om b sg sl ss s (a++(k,b,h)::c) (a++c) f h f.own Hs) w:=
 Sat.hold.1 (Sat.holds.1 (hw.take (HoldsAt (a++(k,b,h)::c))))
theorem FO.close {p hm om b:Nat} {sg sl ss s:Sl} {a c:List HE} {k:Int} {h h':Hold} {f:PF} {own:List (Int × Int)} (hw:Sat R (FO1 p hm om b sg sl ss s (a++(k,b,h)::c) (a++c) f h' own Hs) w):
  Sat R (FO p hm om sg sl ss (a++(k,b,h')::c) { f with own:=own } Hs) w:=by
 have hw:=(Sat.hold (b:=b) (h:=h')).2 ⟨s,hw⟩
 have hw:=(Sat.holds (e:=((k,b,h'):HE)) (a:=a) (b:=c)).2 hw
 have e:hPtrs (a++(k,b,h')::c)=hPtrs (a++(k,b,h)::c):=by simp [hPtrs]
 show Sat R (pts p (fCells f sg sl ss hm om)::MapAt hm (hPtrs (a++(k,b,h')::c))::MapAt om (oVals own)::HoldsAt (a++(k,b,h')::c)::Hs) w
 rw [e]
 exact ((hw.take (MapAt om (oVals own))).take (MapAt hm (hPtrs (a++(k,b,h)::c)))).take (pts p (fCells f sg sl ss hm om))
theorem both_spec {p hm om:Nat} {sg sl ss:Sl} {E:List HE} {f:PF} {owner:Int} {lab:ByteArray} (hg:RoI R sg f.grps) (hsz:lab.size≤9223372036854775807) (hw:Sat R (FO p hm om sg sl ss E f Hs) w):
  Gets Tryz.prog 186 #[.pointer (some ⟨p,0,none⟩),.int .i64 owner,.string lab] w fun v w'=>
   v=.tuple #[.pointer ((getM owner E).map fun x=>⟨x.1,0,none⟩),.int .i64 (findT f.rows f.grps lab).1,.bool ((getM owner E).isSome && (findT f.rows f.grps lab).2==0)]∧Sat R (FO p hm om sg sl ss E f Hs) w':=by
 apply call186
 refine NilP.mk rfl ⟨some hm,At.own (eqS hw) (by exact ⟨rfl,trivial⟩),(getM owner E).map (fun x=>⟨x.1,0,none⟩),(getM owner E).isSome,fun w' e=>by rw [show w'=w from e];exact hold_look (hw.take (MapAt hm (hPtrs E))) owner true,?_⟩
 refine NilP.mk rfl ⟨f.rows,sg,At.own (eqS hw) (by exact ⟨rfl,rfl,trivial⟩),?_⟩
 refine (find_spec hg hsz hw).use ?_
 rintro _ w ⟨rfl,hw⟩
 refine ⟨_,_,rfl,Br.mk (fun h=>⟨?_,hw⟩) (fun h=>⟨?_,hw⟩)⟩
 ·rw [h];rfl
 ·rw [h];rfl
def seatF (f:PF) (owner:Int) (lab:ByteArray):PF × Int:=
 match getM owner f.hs with
 |none=>(f,2)
 |some h=>if (findT f.rows f.grps lab).2≠0 then (f,2) else if (h.seats.length:Int) ≥ h.many then (f,7)
  else if (getM (findT f.rows f.grps lab).1 f.own).isSome then (f,3)
  else ({ f with hs:=setM owner (h.put (findT f.rows f.grps lab).1) f.hs,own:=putM (findT f.rows f.grps lab).1 h.owner f.own },0)
theorem hEr_app (a:List HE) (k:Int) (b:Nat) (h:Hold) (c:List HE):hEr (a++(k,b,h)::c)=hEr a++(k,h)::hEr c:=by simp [hEr]
theorem int_rfl (k:Int):(k==k)=true:=beq_self_eq_true k
theorem seat_fspec {p:Nat} {f:PF} {owner:Int} {lab:ByteArray} (hgl:f.grps.length≤1000) (hsz:lab.size≤9223372036854775807) (hR:∀ e∈f.hs,Rise e.2.seats∧e.2.seats.length≤1000000) (hw:Sat R (FlightAt p f::Hs) w):
  Gets Tryz.prog 117 #[.pointer (some ⟨p,0,none⟩),.int .i64 owner,.string lab] w fun v w'=>v=.int .i64 (seatF f owner lab).2∧Sat R (FlightAt p (seatF f owner lab).1::Hs) w':=by
 obtain ⟨hm,om,sg,sl,ss,E,R',hE,_,rg,_,_,hw,back⟩:=Sat.flightO hw
 have same:∀ {w},Sat R' (FO p hm om sg sl ss E f Hs) w→Sat R (FlightAt p f::Hs) w:=fun hw=>Sat.flightC hE (back _ _ hw)
 apply call117
 refine (both_spec (rg.ro (by rw [List.length_map];omega)) hsz hw).use ?_
 clear hw
 rintro _ w ⟨rfl,hw⟩
 refine ⟨_,_,_,rfl,NilP.mk rfl ⟨some om,At.own (eqS hw) (by exact ⟨rfl,trivial⟩),(getM (findT f.rows f.grps lab).1 f.own).getD 0,(getM (findT f.rows f.grps lab).1 f.own).isSome,fun w' e=>by rw [show w'=w from e];exact own_look (hw.take (MapAt om (oVals f.own))) _ true,?_⟩⟩
 cases hget:getM owner E with
 |none=>
  have e:seatF f owner lab=(f,2):=by unfold seatF;rw [←hE,hEr_get,hget];rfl
  rw [e]
  exact Br.t rfl ⟨rfl,same hw⟩
 |some x=>
  obtain ⟨b,h⟩:=x
  have hgf:getM owner f.hs=some h:=by rw [←hE,hEr_get,hget];rfl
  obtain ⟨a,c,rfl,hna⟩:=getM_split hget
  obtain ⟨hr,hl⟩:=hR (owner,h) (by rw [←hE,hEr_app];simp)
  by_cases h2:(findT f.rows f.grps lab).2=0
  ·refine Br.f (by rw [h2];rfl) ?_
   obtain ⟨s,hw⟩:=FO.open hw
   have hsl:=Own.len (hw.take (Own s 3 (intsI h.seats)))
   rw [List.length_map] at hsl
   refine drw_rule hw fun w hw=>?_
   refine NilP.mk rfl ⟨s,At.own selfS (by exact ⟨rfl,trivial⟩),NilP.mk rfl ⟨h.many,At.own selfS (by exact ⟨rfl,trivial⟩),?_⟩⟩
   refine Br.d (fun h3=>?_) (fun h3=>?_)
   ·have e:seatF f owner lab=(f,7):=by unfold seatF;rw [hgf];dsimp only;rw [if_neg (by rw [h2];simp),if_pos (by omega)]
    rw [e];exact ⟨rfl,same (FO.close hw)⟩
   ·refine Br.mk (fun h4=>?_) (fun h4=>?_)
    ·have e:seatF f owner lab=(f,3):=by unfold seatF;rw [hgf];dsimp only;rw [if_neg (by rw [h2];simp),if_neg (by omega),if_pos h4]
     rw [e];exact ⟨rfl,same (FO.close hw)⟩
    ·have e:seatF f owner lab=({ f with hs:=setM owner (h.put (findT f.rows f.grps lab).1) f.hs,own:=putM (findT f.rows f.grps lab).1 h.owner f.own },0):=by
      unfold seatF;rw [hgf];dsimp only;rw [if_neg (by rw [h2];simp),if_neg (by omega),if_neg (by rw [h4];simp)]
     rw [e]
     have hw:Sat R' (FO p hm om sg sl ss (a++(owner,b,h)::c) f Hs) w:=FO.close hw
     refine (tell_spec hr (by omega) hw).use ?_
     rintro _ w ⟨rfl,hw⟩
     refine ⟨rfl,rfl,?_⟩
     refine Sat.flight.2 ⟨hm,om,sg,sl,ss,a++(owner,b,h.put (findT f.rows f.grps lab).1)::c,?_,back _ _ hw⟩
     show _=setM owner _ f.hs
     rw [←hE,hEr_app,hEr_app,setM_app (by rw [hEr_get,hna];rfl) (int_rfl owner)]
  ·have e:seatF f owner lab=(f,2):=by unfold seatF;rw [hgf];dsimp only;rw [if_pos h2]
   rw [e]
   exact Br.t (by simp [h2]) ⟨rfl,same hw⟩
end Go.Proofs.YtfgbbckfikiomaaGreatDoor
/- A flight: Labels, Unseat. Condition: bounds on lengths. -/
namespace Go.Proofs.YtfgbbckfikiomaaGreatDoor
set_option linter.unusedVariables false
open Go Go.VC
variable {R:Cx} {Hs Rest:List HP} {w:World}
def labelsF (f:PF) (owner:Int):List ByteArray:=match getM owner f.hs with|none=>[]|some h=>labsF f.rows f.grps h.seats
theorem labels_fspec {p:Nat} {f:PF} {owner:Int} (hgl:f.grps.length≤1000) (hR:∀ e∈f.hs,e.2.seats.length≤1000000) (hw:Sat R (FlightAt p f::Hs) w):
  Gets Tryz.prog 130 #[.pointer (some ⟨p,0,none⟩),.int .i64 owner] w fun v w'=>∃ t:Sl,v=.slice t.a t.len t.cap∧Sat R (Own t 9 ((labelsF f owner).map Value.string)::FlightAt p f::Hs) w':=by
 obtain ⟨hm,om,sg,sl,ss,E,R',hE,_,rg,_,_,hw,back⟩:=Sat.flightO hw
 apply call130
 refine NilP.mk rfl ⟨some hm,At.own (eqS hw) (by exact ⟨rfl,trivial⟩),(getM owner E).map (fun x=>⟨x.1,0,none⟩),(getM owner E).isSome,fun w' e=>by rw [show w'=w from e];exact hold_look (hw.take (MapAt hm (hPtrs E))) owner true,?_⟩
 cases hget:getM owner E with
 |none=>
  have e:labelsF f owner=[]:=by unfold labelsF;rw [←hE,hEr_get,hget];rfl
  rw [e]
  exact Br.t rfl ⟨⟨none,0,0⟩,rfl,Own.nil (Sat.flightC hE (back _ _ hw))⟩
 |some x=>
  obtain ⟨b,h⟩:=x
  have hgf:getM owner f.hs=some h:=by rw [←hE,hEr_get,hget];rfl
  have e:labelsF f owner=labsF f.rows f.grps h.seats:=by unfold labelsF;rw [hgf]
  rw [e]
  obtain ⟨a,c,rfl,hna⟩:=getM_split hget
  have hl:h.seats.length≤1000000:=hR (owner,h) (by rw [←hE,hEr_app];simp)
  refine Br.f rfl (NilP.mk rfl ?_)
  obtain ⟨s,hw⟩:=FO.open hw
  refine ⟨s,At.own (eqS hw) (by exact ⟨rfl,trivial⟩),?_⟩
  obtain ⟨R2,hro,hmono,hw2,back2⟩:=Own.lend (hw.take (Own s 3 (intsI h.seats))) (by rw [List.length_map];omega)
  refine (labels_spec (f:=f) (hm:=hm) (om:=om) (sg:=sg) (sl:=sl) (ss:=ss) (hmono _ _ (rg.ro (by rw [List.length_map];omega))) hro hl hw2).use ?_
  clear hw hw2
  rintro _ w ⟨t,rfl,hw⟩
  refine ⟨t,rfl,t,rfl,?_⟩
  have hw:=(back2 hw).swap
  have hw:=back _ _ (Sat.cons (fun _ h5=>FO.close (f:=f) (h5.take (pts b (hCells h s)))) hw)
  exact Sat.cons (fun _ h5=>Sat.flightC hE h5) (hw.take (Own t 9 ((labsF f.rows f.grps h.seats).map Value.string)))
def Hold.cut (h:Hold) (n:Int):Hold:={ h with seats:=h.seats.filter fun x=>!(x==n) }
end Go.Proofs.YtfgbbckfikiomaaGreatDoor
/- A flight: Left, Give. Condition: bounds on lengths. -/
namespace Go.Proofs.YtfgbbckfikiomaaGreatDoor
set_option linter.unusedVariables false
open Go Go.VC
variable {R:Cx} {Hs Rest:List HP} {w:World}
def leftsF (f:PF):List Int:=(List.range f.lims.length).map fun (k:Nat)=>(leftT f.lims f.sold k).1
def leftsTo (f:PF) (j:Nat):List Int:=(List.range f.lims.length).map fun (k:Nat)=>if k<j then (leftT f.lims f.sold k).1 else 0
theorem leftsTo_set (f:PF) {j:Nat} (h:j<f.lims.length):(leftsTo f j).set j (leftT f.lims f.sold j).1=leftsTo f (j + 1):=by
 apply List.ext_getElem
 ·simp [leftsTo]
 ·intro i h1 h2
  simp only [leftsTo,List.length_set,List.length_map,List.length_range] at h1 h2
  rw [List.getElem_set]
  simp only [leftsTo,List.getElem_map,List.getElem_range]
  split
  ·rename_i h3;subst h3;rw [if_pos (by omega)]
  ·by_cases h4:i<j
   ·rw [if_pos h4,if_pos (by omega)]
   ·rw [if_neg h4,if_neg (by omega)]
theorem left_fspec {p:Nat} {f:PF} (hl:f.lims.length≤1000) (hs:f.sold.length≤1000) (hw:Sat R (FlightAt p f::Hs) w):
  Gets Tryz.prog 58 #[.pointer (some ⟨p,0,none⟩)] w fun v w'=>∃ t:Sl,v=.slice t.a t.len t.cap∧Sat R (Own t 3 (intsI (leftsF f))::FlightAt p f::Hs) w':=by
 obtain ⟨hm,om,sg,sl,ss,E,R',hE,_,_,rl,rs,hw,back⟩:=Sat.flightO hw
 have hsl:sl.len=f.lims.length:=by have:=rl.len;rw [List.length_map] at this;exact this
 apply call58
 refine NilP.mk rfl ⟨sl,At.own (eqS hw) (by exact ⟨rfl,trivial⟩),?_⟩
 rw [hsl]
 refine zer_rule hl hw fun t w hw=>?_
 have e0:List.replicate f.lims.length (0:Int)=leftsTo f 0:=by
  apply List.ext_getElem
  ·simp [leftsTo]
  ·intro i h1 h2;simp [leftsTo]
 rw [e0] at hw
 refine ⟨fun i w=>∃ j:Nat,i=j∧j≤f.lims.length∧Sat R' (Own t 3 (intsI (leftsTo f j))::FO p hm om sg sl ss E f Hs) w,fun i _=>f.lims.length - i.toNat,⟨0,rfl,by omega,hw⟩,?_⟩
 clear hw
 rintro _ _ w ⟨j,rfl,hj,hw⟩
 have htl:=Own.len hw
 simp only [leftsTo,List.length_map,List.length_range] at htl
 refine Br.d (fun h=>?_) (fun h=>?_)
 ·have hj2:j<f.lims.length:=by omega
  refine drw_rule hw fun w hw=>?_
  refine NilP.mk rfl ⟨sl,At.own selfS (by exact ⟨rfl,trivial⟩),NilP.mk rfl ⟨ss,At.own selfS (by exact ⟨rfl,trivial⟩),?_⟩⟩
  refine (left_spec (rl.ro (by rw [List.length_map];omega)) (rs.ro (by rw [List.length_map];omega)) hw).use ?_
  rintro _ w ⟨rfl,hw⟩
  refine ⟨_,_,rfl,?_⟩
  refine Own.store (by kernel_rfl) hw (by simp [leftsTo];exact hj2) fun w hw=>?_
  rw [leftsTo_set f hj2] at hw
  rw [wrap64 (by omega) (by omega)]
  exact ⟨⟨j + 1,by omega,by omega,hw⟩,by dsimp only;omega⟩
 ·obtain rfl:j=f.lims.length:=by omega
  have e1:leftsTo f f.lims.length=leftsF f:=by
   unfold leftsTo leftsF
   refine List.map_congr_left fun k hk=>?_
   rw [if_pos (List.mem_range.1 hk)]
  rw [e1] at hw
  refine ⟨t,rfl,?_⟩
  have hw:=back _ _ hw
  exact Sat.cons (fun _ h5=>Sat.flightC hE h5) (hw.take (Own t 3 (intsI (leftsF f))))
def delAll (l:List Int) (own:List (Int × Int)):List (Int × Int):=l.foldl (fun o n=>delM n o) own
def giveF (f:PF) (owner:Int):PF × Int:=
 match getM owner f.hs with
 |none=>(f,2)
 |some h=>({ f with own:=delAll h.seats f.own,sold:=(backT f.lims f.sold h.cls h.many).1,hs:=delM owner f.hs },0)
theorem give_fspec {p:Nat} {f:PF} {owner:Int} (hll:f.lims.length≤1000) (hls:f.sold.length≤1000) (hR:∀ e∈f.hs,e.2.seats.length≤1000000) (hw:Sat R (FlightAt p f::Hs) w):
  Gets Tryz.prog 115 #[.pointer (some ⟨p,0,none⟩),.int .i64 owner] w fun v w'=>v=.int .i64 (giveF f owner).2∧Sat R (FlightAt p (giveF f owner).1::Hs) w':=by
 obtain ⟨hm,om,sg,sl,ss,E,R',hE,_,_,rl,rs,hw,back⟩:=Sat.flightO hw
 apply call115
 refine NilP.mk rfl ⟨some hm,At.own (eqS hw) (by exact ⟨rfl,trivial⟩),(getM owner E).map (fun x=>⟨x.1,0,none⟩),(getM owner E).isSome,fun w' e=>by rw [show w'=w from e];exact hold_look (hw.take (MapAt hm (hPtrs E))) owner true,?_⟩
 cases hget:getM owner E with
 |none=>
  have e:giveF f owner=(f,2):=by unfold giveF;rw [←hE,hEr_get,hget];rfl
  rw [e]
  exact Br.t rfl ⟨rfl,Sat.flightC hE (back _ _ hw)⟩
 |some x=>
  obtain ⟨b,h⟩:=x
  have hgf:getM owner f.hs=some h:=by rw [←hE,hEr_get,hget];rfl
  have e:giveF f owner=({ f with own:=delAll h.seats f.own,sold:=(backT f.lims f.sold h.cls h.many).1,hs:=delM owner f.hs },0):=by unfold giveF;rw [hgf]
  rw [e]
  obtain ⟨a,c,rfl,hna⟩:=getM_split hget
  have hl:h.seats.length≤1000000:=hR (owner,h) (by rw [←hE,hEr_app];simp)
  refine Br.f rfl (NilP.mk rfl ?_)
  obtain ⟨s,hw⟩:=FO.open hw
  have hsl:=Own.len (hw.take (Own s 3 (intsI h.seats)))
  rw [List.length_map] at hsl
  refine ⟨s,At.own (eqS hw) (by exact ⟨rfl,trivial⟩),?_⟩
  refine ⟨fun i w=>∃ j:Nat,i=j∧j≤h.seats.length∧Sat R' (FO1 p hm om b sg sl ss s (a++(owner,b,h)::c) (a++c) f h (delAll (h.seats.take j) f.own) Hs) w,fun i _=>h.seats.length - i.toNat,⟨0,rfl,by omega,hw⟩,?_⟩
  clear hw
  rintro _ _ w ⟨j,rfl,hj,hw⟩
  refine Br.d (fun h2=>?_) (fun h2=>?_)
  ·have hj2:j<h.seats.length:=by omega
   refine Own.ix (hw.take (Own s 3 (intsI h.seats))) (eqS (hw.take (Own s 3 (intsI h.seats)))) j rfl hj2 ?_
   refine NilP.mk rfl ⟨some om,At.own (eqS hw) (by exact ⟨rfl,trivial⟩),?_⟩
   refine MapAt.del oMap (hw.take (MapAt om (oVals (delAll (h.seats.take j) f.own)))) h.seats[j] fun w hw=>?_
   rw [delM_map (Value.int .i64) h.seats[j] (delAll (h.seats.take j) f.own)] at hw
   have ed:delM h.seats[j] (delAll (h.seats.take j) f.own)=delAll (h.seats.take (j + 1)) f.own:=by
    unfold delAll
    rw [List.take_add_one,List.getElem?_eq_getElem hj2,Option.toList_some,List.foldl_append];rfl
   rw [ed] at hw
   rw [wrap64 (by omega) (by omega)]
   refine ⟨⟨j + 1,by omega,by omega,?_⟩,by dsimp only;omega⟩
   exact ((((hw.take (MapAt hm (hPtrs (a++(owner,b,h)::c)))).take (pts p (fCells f sg sl ss hm om))).take (HoldsAt (a++c))).take (Own s 3 (intsI h.seats))).take (pts b (hCells h s))
  ·rw [List.take_of_length_le (by omega)] at hw
   refine drw_rule hw fun w hw=>?_
   refine NilP.mk rfl ⟨sl,At.own selfS (by exact ⟨rfl,trivial⟩),NilP.mk rfl ⟨ss,At.own selfS (by exact ⟨rfl,trivial⟩),NilP.mk rfl ⟨h.cls,At.own selfS (by exact ⟨rfl,trivial⟩),NilP.mk rfl ⟨h.many,At.own selfS (by exact ⟨rfl,trivial⟩),?_⟩⟩⟩⟩
   refine (back_spec (rl.ro (by rw [List.length_map];omega)) (rs.ro (by rw [List.length_map];omega)) hw).use ?_
   rintro _ w ⟨t,rfl,hw⟩
   refine ⟨_,_,rfl,NilP.mk rfl ?_⟩
   refine store_rule hw (by kernel_rfl) rfl (by simp [Value.cells]) fun w hw=>?_
   have hw:Sat R' (pts p (fCells f sg sl t hm om)::Own t 3 (intsI (backT f.lims f.sold h.cls h.many).1)::pts b (hCells h s)::Own s 3 (intsI h.seats)::HoldsAt (a++c)::MapAt hm (hPtrs (a++(owner,b,h)::c))::MapAt om (oVals (delAll h.seats f.own))::Hs) w:=hw
   refine NilP.mk rfl ⟨some hm,At.own (eqS hw) (by exact ⟨rfl,trivial⟩),?_⟩
   refine MapAt.del hMap (hw.take (MapAt hm (hPtrs (a++(owner,b,h)::c)))) owner fun w hw=>⟨rfl,?_⟩
   have ep:delM owner (hPtrs (a++(owner,b,h)::c))=hPtrs (a++c):=by
    rw [show hPtrs (a++(owner,b,h)::c)=hPtrs a++(owner,Value.pointer (some ⟨b,0,none⟩))::hPtrs c by simp [hPtrs],delM_app (by rw [hPtrs_get,hna];rfl) (int_rfl owner)]
    simp [hPtrs]
   rw [ep] at hw
   have hw:=(hw.take (pts b (hCells h s))).drop
   have hw:=(hw.take (Own s 3 (intsI h.seats))).drop
   have hw:=hw.take (Own t 3 (intsI (backT f.lims f.sold h.cls h.many).1))
   have hw:=back _ _ (Own.reads hw)
   have hw:=(hw.take (Reads ss (intsI f.sold))).drop
   refine Sat.flight.2 ⟨hm,om,sg,sl,t,a++c,?_,?_⟩
   ·show _=delM owner f.hs
    rw [←hE,hEr_app,delM_app (by rw [hEr_get,hna];rfl) (int_rfl owner)]
    simp [hEr]
   ·exact (((((hw.take (HoldsAt (a++c))).take (MapAt om (oVals (delAll h.seats f.own)))).take (MapAt hm (hPtrs (a++c)))).take (pts p (fCells f sg sl t hm om))).take (Reads t (intsI (backT f.lims f.sold h.cls h.many).1))).take (Reads sl (intsI f.lims))|>.take (Reads sg (intsI f.grps))
end Go.Proofs.YtfgbbckfikiomaaGreatDoor
/-
  DERIVED: THE SHELF's CONTRACTS AT THIS DUMP, IN PLAIN WORDS (tools/lay-plain.mjs out of 'TryIter.lean', which tools/lay-shelf.mjs wrote): THE SAME DECLARATIONS UNDER THE SAME NAMES: 'import', 'namespace', 'open', 'def', 'theorem' AND NOTHING ELSE: no command of the shelf's: FOR A HAND-IN. Each laying: the table of numbers ('.._ren') and one theorem, a field a fact of the dump's own or the kernel's comparison; each contract: ONE APPLICATION.
-/
namespace Go.Proofs
set_option linter.unusedVariables false
open Go.Shelf
def Tryz.sorted50_ren:Go.Shelf.Ren:=⟨fun|6=>50|8=>121|9=>122|11=>194|13=>196|12=>195|23=>252|24=>193|14=>243|15=>244|16=>245|17=>246|18=>247|19=>248|20=>249|21=>250|22=>251|25=>268|26=>269|27=>270|28=>271|29=>272|30=>259|31=>279|n=>n,fun|26=>3|28=>97|24=>28|0=>0|3=>3|37=>233|48=>274|50=>134|4=>4|40=>267|39=>266|45=>216|5=>5|9=>9|51=>280|55=>284|57=>288|58=>263|33=>158|n=>n,fun|n=>n⟩
theorem Tryz.sorted50:Go.Proofs.SlLaysZI.n6 Tryz.prog Tryz.sorted50_ren:={
  mixed:=by kernel_rfl
  f6:=⟨Tryz.f50.name,by decide,Tryz.func50.trans (congrArg some (by kernel_rfl))⟩
  f8:=⟨Tryz.f121.name,by decide,Tryz.func121.trans (congrArg some (by kernel_rfl))⟩
  f11:=⟨Tryz.f194.name,by decide,Tryz.func194.trans (congrArg some (by kernel_rfl))⟩
  t0:=Tryz.underlying0
  a0:=Tryz.isAgg0
  z0:=Tryz.sizeOf0
  v0:=Tryz.zeroValue0
  t24:=Tryz.underlying28
  a24:=Tryz.isAgg28
  z24:=Tryz.sizeOf28
  v24:=Tryz.zeroValue28
  t26:=Tryz.underlying3
  a26:=Tryz.isAgg3
  z26:=Tryz.sizeOf3
  v26:=Tryz.zeroValue3
  t28:=Tryz.underlying97
  a28:=Tryz.isAgg97
  z28:=Tryz.sizeOf97
  v28:=Tryz.zeroValue97
  i26:=by kernel_rfl }
def Tryz.sort122_ren:Go.Shelf.Ren:=⟨fun|5=>122|8=>196|7=>195|19=>252|20=>193|10=>243|11=>244|12=>245|13=>246|14=>247|15=>248|16=>249|17=>250|18=>251|30=>268|31=>269|32=>270|33=>271|34=>272|35=>259|40=>279|n=>n,fun|23=>28|25=>3|3=>3|32=>233|22=>28|0=>0|44=>274|46=>134|4=>4|36=>267|35=>266|41=>216|5=>5|9=>9|53=>280|57=>284|63=>288|64=>263|n=>n,fun|n=>n⟩
theorem Tryz.sort122:Go.Proofs.SlLaysM.n5 Tryz.prog Tryz.sort122_ren:={
  mixed:=by kernel_rfl
  f5:=⟨Tryz.f122.name,by decide,Tryz.func122.trans (congrArg some (by kernel_rfl))⟩
  f7:=⟨Tryz.f195.name,by decide,Tryz.func195.trans (congrArg some (by kernel_rfl))⟩
  f8:=Tryz.func196.trans (congrArg some (by kernel_rfl))
  f10:=⟨Tryz.f243.name,by decide,Tryz.func243.trans (congrArg some (by kernel_rfl))⟩
  f11:=⟨Tryz.f244.name,by decide,Tryz.func244.trans (congrArg some (by kernel_rfl))⟩
  f12:=⟨Tryz.f245.name,by decide,Tryz.func245.trans (congrArg some (by kernel_rfl))⟩
  f13:=⟨Tryz.f246.name,by decide,Tryz.func246.trans (congrArg some (by kernel_rfl))⟩
  f14:=⟨Tryz.f247.name,by decide,Tryz.func247.trans (congrArg some (by kernel_rfl))⟩
  f15:=⟨Tryz.f248.name,by decide,Tryz.func248.trans (congrArg some (by kernel_rfl))⟩
  f16:=⟨Tryz.f249.name,by decide,Tryz.func249.trans (congrArg some (by kernel_rfl))⟩
  f17:=⟨Tryz.f250.name,by decide,Tryz.func250.trans (congrArg some (by kernel_rfl))⟩
  f18:=⟨Tryz.f251.name,by decide,Tryz.func251.trans (congrArg some (by kernel_rfl))⟩
  f19:=Tryz.func252.trans (congrArg some (by kernel_rfl))
  f20:=Tryz.func193.trans (congrArg some (by kernel_rfl))
  f30:=⟨Tryz.f268.name,by decide,Tryz.func268.trans (congrArg some (by kernel_rfl))⟩
  f31:=Tryz.func269.trans (congrArg some (by kernel_rfl))
  f32:=Tryz.func270.trans (congrArg some (by kernel_rfl))
  f33:=⟨Tryz.f271.name,by decide,Tryz.func271.trans (congrArg some (by kernel_rfl))⟩
  f34:=⟨Tryz.f272.name,by decide,Tryz.func272.trans (congrArg some (by kernel_rfl))⟩
  f35:=⟨Tryz.f259.name,by decide,Tryz.func259.trans (congrArg some (by kernel_rfl))⟩
  f40:=⟨Tryz.f279.name,by decide,Tryz.func279.trans (congrArg some (by kernel_rfl))⟩
  t0:=Tryz.underlying0
  a0:=Tryz.isAgg0
  z0:=Tryz.sizeOf0
  v0:=Tryz.zeroValue0
  t3:=Tryz.underlying3
  a3:=Tryz.isAgg3
  z3:=Tryz.sizeOf3
  v3:=Tryz.zeroValue3
  t4:=Tryz.underlying4
  a4:=Tryz.isAgg4
  z4:=Tryz.sizeOf4
  v4:=Tryz.zeroValue4
  t5:=Tryz.underlying5
  a5:=Tryz.isAgg5
  z5:=Tryz.sizeOf5
  v5:=Tryz.zeroValue5
  t9:=Tryz.underlying9
  a9:=Tryz.isAgg9
  z9:=Tryz.sizeOf9
  v9:=Tryz.zeroValue9
  t22:=Tryz.underlying28
  a22:=Tryz.isAgg28
  z22:=Tryz.sizeOf28
  v22:=Tryz.zeroValue28
  t23:=Tryz.underlying28
  a23:=Tryz.isAgg28
  z23:=Tryz.sizeOf28
  v23:=Tryz.zeroValue28
  t25:=Tryz.underlying3
  a25:=Tryz.isAgg3
  z25:=Tryz.sizeOf3
  v25:=Tryz.zeroValue3
  t32:=Tryz.underlying233
  a32:=Tryz.isAgg233
  z32:=Tryz.sizeOf233
  v32:=Tryz.zeroValue233
  t35:=Tryz.underlying266
  a35:=Tryz.isAgg266
  z35:=Tryz.sizeOf266
  v35:=Tryz.zeroValue266
  t36:=Tryz.underlying267
  a36:=Tryz.isAgg267
  z36:=Tryz.sizeOf267
  v36:=Tryz.zeroValue267
  t41:=Tryz.underlying216
  a41:=Tryz.isAgg216
  z41:=Tryz.sizeOf216
  v41:=Tryz.zeroValue216
  t44:=Tryz.underlying274
  a44:=Tryz.isAgg274
  z44:=Tryz.sizeOf274
  v44:=Tryz.zeroValue274
  t46:=Tryz.underlying134
  a46:=Tryz.isAgg134
  z46:=Tryz.sizeOf134
  v46:=Tryz.zeroValue134
  t53:=Tryz.underlying280
  a53:=Tryz.isAgg280
  z53:=Tryz.sizeOf280
  v53:=Tryz.zeroValue280
  t57:=Tryz.underlying284
  a57:=Tryz.isAgg284
  z57:=Tryz.sizeOf284
  v57:=Tryz.zeroValue284
  t63:=Tryz.underlying288
  a63:=Tryz.isAgg288
  z63:=Tryz.sizeOf288
  v63:=Tryz.zeroValue288
  t64:=Tryz.underlying263
  a64:=Tryz.isAgg263
  z64:=Tryz.sizeOf263
  v64:=Tryz.zeroValue263 }
open Go.RowKit Go.Maps Go.Sort Go.Shelf in
theorem Tryz.sorts50 (m:Nat):AnyZI.SortsIn Tryz.prog Tryz.sorted50_ren Fence.wide m:=
  ⟨fun blk off cap ss W hH hblk hsz=>callsIn_wide.2 (AnyM.slices_Sort_int Tryz.sort122 blk off cap ss W hH hblk hsz),
   fun p cap W=>callsIn_wide.2 (AnyM.slices_Sort_int_none Tryz.sort122 p cap W)⟩
def Tryz.collect121_ren:Go.Shelf.Ren:=⟨fun|8=>121|11=>194|n=>n,fun|26=>3|28=>97|24=>28|0=>0|33=>158|4=>4|n=>n,fun|n=>n⟩
theorem Tryz.collect121:Go.Proofs.SlLaysZI.n8 Tryz.prog Tryz.collect121_ren:={
  mixed:=by kernel_rfl
  f8:=⟨Tryz.f121.name,by decide,Tryz.func121.trans (congrArg some (by kernel_rfl))⟩
  f11:=⟨Tryz.f194.name,by decide,Tryz.func194.trans (congrArg some (by kernel_rfl))⟩
  t0:=Tryz.underlying0
  a0:=Tryz.isAgg0
  z0:=Tryz.sizeOf0
  v0:=Tryz.zeroValue0
  t24:=Tryz.underlying28
  a24:=Tryz.isAgg28
  z24:=Tryz.sizeOf28
  v24:=Tryz.zeroValue28
  t26:=Tryz.underlying3
  a26:=Tryz.isAgg3
  z26:=Tryz.sizeOf3
  v26:=Tryz.zeroValue3
  t28:=Tryz.underlying97
  a28:=Tryz.isAgg97
  z28:=Tryz.sizeOf97
  v28:=Tryz.zeroValue97
  i26:=by kernel_rfl }
def Tryz.keys55_ren:Go.Shelf.Ren:=⟨fun|7=>55|10=>128|n=>n,fun|23=>78|26=>3|3=>86|28=>97|0=>0|27=>96|33=>158|4=>4|n=>n,fun|n=>n⟩
theorem Tryz.keys55:Go.Proofs.SlLaysZI.n7 Tryz.prog Tryz.keys55_ren:={
  mixed:=by kernel_rfl
  f7:=⟨Tryz.f55.name,by decide,Tryz.func55.trans (congrArg some (by kernel_rfl))⟩
  f10:=⟨Tryz.f128.name,by decide,Tryz.func128.trans (congrArg some (by kernel_rfl))⟩
  t0:=Tryz.underlying0
  a0:=Tryz.isAgg0
  z0:=Tryz.sizeOf0
  v0:=Tryz.zeroValue0
  t4:=Tryz.underlying4
  a4:=Tryz.isAgg4
  z4:=Tryz.sizeOf4
  v4:=Tryz.zeroValue4
  t23:=Tryz.underlying78
  a23:=Tryz.isAgg78
  z23:=Tryz.sizeOf78
  v23:=Tryz.zeroValue78
  t26:=Tryz.underlying3
  a26:=Tryz.isAgg3
  z26:=Tryz.sizeOf3
  v26:=Tryz.zeroValue3
  t27:=Tryz.underlying96
  a27:=Tryz.isAgg96
  z27:=Tryz.sizeOf96
  v27:=Tryz.zeroValue96
  t28:=Tryz.underlying97
  a28:=Tryz.isAgg97
  z28:=Tryz.sizeOf97
  v28:=Tryz.zeroValue97
  t33:=Tryz.underlying158
  a33:=Tryz.isAgg158
  z33:=Tryz.sizeOf158
  v33:=Tryz.zeroValue158 }
open Go.RowKit Go.Maps Go.Sort Go.Shelf in
theorem Tryz.maps_Keys_55 (mb:Option Nat) (W:World):CallsIn Fence.wide 5 Tryz.prog 55 #[.map mb] W fun e w'=>e=.returned (.func (.func 128) #[] #[.pointer (some ⟨W.heap.size,0,none⟩)])∧w'=W.alloc (.cells #[.map mb] 78):=
  AnyZI.keys_in Tryz.keys55 Fence.wide 5 trivial rfl mb W
open Go.RowKit Go.Maps Go.Sort Go.Shelf in
theorem Tryz.slices_Sorted_keys_50_55 {H:Type} (b nn:Nat) (D0:DataW H) (R:Value→Option (DataW H × List MemPlace)) (w:World) (hown:w.ownsMap Tryz.prog 3 R b nn D0) (hmax:Maps.size D0≤maxLen) (hbytes:Maps.size D0 * 8≤140737488355328):
    CallsIn Fence.wide 5 Tryz.prog 50 #[.func (.func 128) #[] #[.pointer (some ⟨w.heap.size,0,none⟩)]] (w.alloc (.cells #[.map (some b)] 78)) fun e w'=>∃ (v:Value) (ss:List Int),e=.returned v∧ss.Perm (intKeys D0)∧
      w'.ownsRow (w.alloc (.cells #[.map (some b)] 78)).heap.size 3 1 v ss.length ((ss.mergeSort (fun x y=>decide (x≤y))).map encZ)∧(v=.slice none 0 0↔ss=[])∧Below (w.alloc (.cells #[.map (some b)] 78)).heap.size (w.alloc (.cells #[.map (some b)] 78)) w':=by
  have hbl:=hown.lt
  have hseq:SeqGives Fence.wide 2 Tryz.prog 128 #[.pointer (some ⟨w.heap.size,0,none⟩)] encZ (fun ss=>ss.Perm (intKeys D0)) (Maps.size D0) (w.alloc (.cells #[.map (some b)] 78)):=
    AnyZI.keys_gives (ρ:=Tryz.keys55_ren) { Tryz.keys55 with } Fence.wide _ trivial rfl (by omega) w.heap.size b nn D0 _ (by simp) (by simp) (by
      obtain ⟨es,clock,hb,Ft,hs,hD⟩:=hown
      exact ⟨es,clock,(Below.heap_alloc _ _ b hbl).trans hb,Ft,hs,hD⟩)
  exact AnyZI.sorted_in Tryz.sorted50 Fence.wide 5 trivial trivial trivial trivial rfl (by omega) (Tryz.sorts50 _) (enters_of Tryz.func122 (by kernel_rfl) rfl) 128 #[.pointer (some ⟨w.heap.size,0,none⟩)] trivial (enters_of Tryz.func128 (by kernel_rfl) rfl) _ _ hmax hbytes _ hseq
def Tryz.keys189_ren:Go.Shelf.Ren:=⟨fun|7=>189|10=>239|n=>n,fun|23=>172|26=>3|3=>3|28=>97|0=>0|27=>96|33=>158|4=>4|n=>n,fun|n=>n⟩
theorem Tryz.keys189:Go.Proofs.SlLaysZI.n7 Tryz.prog Tryz.keys189_ren:={
  mixed:=by kernel_rfl
  f7:=⟨Tryz.f189.name,by decide,Tryz.func189.trans (congrArg some (by kernel_rfl))⟩
  f10:=⟨Tryz.f239.name,by decide,Tryz.func239.trans (congrArg some (by kernel_rfl))⟩
  t0:=Tryz.underlying0
  a0:=Tryz.isAgg0
  z0:=Tryz.sizeOf0
  v0:=Tryz.zeroValue0
  t4:=Tryz.underlying4
  a4:=Tryz.isAgg4
  z4:=Tryz.sizeOf4
  v4:=Tryz.zeroValue4
  t23:=Tryz.underlying172
  a23:=Tryz.isAgg172
  z23:=Tryz.sizeOf172
  v23:=Tryz.zeroValue172
  t26:=Tryz.underlying3
  a26:=Tryz.isAgg3
  z26:=Tryz.sizeOf3
  v26:=Tryz.zeroValue3
  t27:=Tryz.underlying96
  a27:=Tryz.isAgg96
  z27:=Tryz.sizeOf96
  v27:=Tryz.zeroValue96
  t28:=Tryz.underlying97
  a28:=Tryz.isAgg97
  z28:=Tryz.sizeOf97
  v28:=Tryz.zeroValue97
  t33:=Tryz.underlying158
  a33:=Tryz.isAgg158
  z33:=Tryz.sizeOf158
  v33:=Tryz.zeroValue158 }
open Go.RowKit Go.Maps Go.Sort Go.Shelf in
theorem Tryz.maps_Keys_189 (mb:Option Nat) (W:World):CallsIn Fence.wide 5 Tryz.prog 189 #[.map mb] W fun e w'=>e=.returned (.func (.func 239) #[] #[.pointer (some ⟨W.heap.size,0,none⟩)])∧w'=W.alloc (.cells #[.map mb] 172):=
  AnyZI.keys_in Tryz.keys189 Fence.wide 5 trivial rfl mb W
open Go.RowKit Go.Maps Go.Sort Go.Shelf in
theorem Tryz.slices_Collect_keys_121_189 {H:Type} (b nn:Nat) (D0:DataW H) (R:Value→Option (DataW H × List MemPlace)) (w:World) (hown:w.ownsMap Tryz.prog 3 R b nn D0) (hmax:Maps.size D0≤maxLen) (hbytes:Maps.size D0 * 8≤140737488355328):
    CallsIn Fence.wide 4 Tryz.prog 121 #[.func (.func 239) #[] #[.pointer (some ⟨w.heap.size,0,none⟩)]] (w.alloc (.cells #[.map (some b)] 172)) fun e w'=>∃ (v:Value) (ss:List Int),e=.returned v∧ss.Perm (intKeys D0)∧
      w'.ownsRow (w.alloc (.cells #[.map (some b)] 172)).heap.size 3 1 v ss.length (ss.map encZ)∧(v=.slice none 0 0↔ss=[])∧Below (w.alloc (.cells #[.map (some b)] 172)).heap.size (w.alloc (.cells #[.map (some b)] 172)) w':=by
  have hbl:=hown.lt
  have hseq:SeqGives Fence.wide 2 Tryz.prog 239 #[.pointer (some ⟨w.heap.size,0,none⟩)] encZ (fun ss=>ss.Perm (intKeys D0)) (Maps.size D0) (w.alloc (.cells #[.map (some b)] 172)):=
    AnyZI.keys_gives (ρ:=Tryz.keys189_ren) { Tryz.keys189 with } Fence.wide _ trivial rfl (by omega) w.heap.size b nn D0 _ (by simp) (by simp) (by
      obtain ⟨es,clock,hb,Ft,hs,hD⟩:=hown
      exact ⟨es,clock,(Below.heap_alloc _ _ b hbl).trans hb,Ft,hs,hD⟩)
  exact AnyZI.collect_in Tryz.collect121 Fence.wide 4 trivial trivial rfl (by omega) 239 #[.pointer (some ⟨w.heap.size,0,none⟩)] trivial (enters_of Tryz.func239 (by kernel_rfl) rfl) _ _ hmax hbytes _ hseq
def Tryz.keys51_ren:Go.Shelf.Ren:=⟨fun|7=>51|10=>123|n=>n,fun|23=>77|26=>3|3=>102|28=>97|0=>0|27=>96|33=>158|4=>4|n=>n,fun|n=>n⟩
theorem Tryz.keys51:Go.Proofs.SlLaysZI.n7 Tryz.prog Tryz.keys51_ren:={
  mixed:=by kernel_rfl
  f7:=⟨Tryz.f51.name,by decide,Tryz.func51.trans (congrArg some (by kernel_rfl))⟩
  f10:=⟨Tryz.f123.name,by decide,Tryz.func123.trans (congrArg some (by kernel_rfl))⟩
  t0:=Tryz.underlying0
  a0:=Tryz.isAgg0
  z0:=Tryz.sizeOf0
  v0:=Tryz.zeroValue0
  t4:=Tryz.underlying4
  a4:=Tryz.isAgg4
  z4:=Tryz.sizeOf4
  v4:=Tryz.zeroValue4
  t23:=Tryz.underlying77
  a23:=Tryz.isAgg77
  z23:=Tryz.sizeOf77
  v23:=Tryz.zeroValue77
  t26:=Tryz.underlying3
  a26:=Tryz.isAgg3
  z26:=Tryz.sizeOf3
  v26:=Tryz.zeroValue3
  t27:=Tryz.underlying96
  a27:=Tryz.isAgg96
  z27:=Tryz.sizeOf96
  v27:=Tryz.zeroValue96
  t28:=Tryz.underlying97
  a28:=Tryz.isAgg97
  z28:=Tryz.sizeOf97
  v28:=Tryz.zeroValue97
  t33:=Tryz.underlying158
  a33:=Tryz.isAgg158
  z33:=Tryz.sizeOf158
  v33:=Tryz.zeroValue158 }
open Go.RowKit Go.Maps Go.Sort Go.Shelf in
theorem Tryz.maps_Keys_51 (mb:Option Nat) (W:World):CallsIn Fence.wide 5 Tryz.prog 51 #[.map mb] W fun e w'=>e=.returned (.func (.func 123) #[] #[.pointer (some ⟨W.heap.size,0,none⟩)])∧w'=W.alloc (.cells #[.map mb] 77):=
  AnyZI.keys_in Tryz.keys51 Fence.wide 5 trivial rfl mb W
open Go.RowKit Go.Maps Go.Sort Go.Shelf in
theorem Tryz.slices_Sorted_keys_50_51 {H:Type} (b nn:Nat) (D0:DataW H) (R:Value→Option (DataW H × List MemPlace)) (w:World) (hown:w.ownsMap Tryz.prog 3 R b nn D0) (hmax:Maps.size D0≤maxLen) (hbytes:Maps.size D0 * 8≤140737488355328):
    CallsIn Fence.wide 5 Tryz.prog 50 #[.func (.func 123) #[] #[.pointer (some ⟨w.heap.size,0,none⟩)]] (w.alloc (.cells #[.map (some b)] 77)) fun e w'=>∃ (v:Value) (ss:List Int),e=.returned v∧ss.Perm (intKeys D0)∧
      w'.ownsRow (w.alloc (.cells #[.map (some b)] 77)).heap.size 3 1 v ss.length ((ss.mergeSort (fun x y=>decide (x≤y))).map encZ)∧(v=.slice none 0 0↔ss=[])∧Below (w.alloc (.cells #[.map (some b)] 77)).heap.size (w.alloc (.cells #[.map (some b)] 77)) w':=by
  have hbl:=hown.lt
  have hseq:SeqGives Fence.wide 2 Tryz.prog 123 #[.pointer (some ⟨w.heap.size,0,none⟩)] encZ (fun ss=>ss.Perm (intKeys D0)) (Maps.size D0) (w.alloc (.cells #[.map (some b)] 77)):=
    AnyZI.keys_gives (ρ:=Tryz.keys51_ren) { Tryz.keys51 with } Fence.wide _ trivial rfl (by omega) w.heap.size b nn D0 _ (by simp) (by simp) (by
      obtain ⟨es,clock,hb,Ft,hs,hD⟩:=hown
      exact ⟨es,clock,(Below.heap_alloc _ _ b hbl).trans hb,Ft,hs,hD⟩)
  exact AnyZI.sorted_in Tryz.sorted50 Fence.wide 5 trivial trivial trivial trivial rfl (by omega) (Tryz.sorts50 _) (enters_of Tryz.func122 (by kernel_rfl) rfl) 123 #[.pointer (some ⟨w.heap.size,0,none⟩)] trivial (enters_of Tryz.func123 (by kernel_rfl) rfl) _ _ hmax hbytes _ hseq
end Go.Proofs
/- The keys of a map of ints: in any order, and sorted. Condition: bounds. -/
namespace Go.Proofs.YtfgbbckfikiomaaGreatDoor
set_option linter.unusedVariables false
open Go Go.VC
variable {R:Cx} {Hs Rest:List HP} {w:World}
theorem keysI_map {m c:Nat} {l:List (En Int)} {es:List (Int × Value)} (hs:strip l=es) (hst:StampsOk l c) (hu:(es.map (·.1)).Nodup) (hn:∀ k∈es.map (·.1),-1000000000≤k∧k≤1000000000) (hlen:es.length≤1000000)
  (hm:w.heap[m]? =some (.map (l.map mkE).toArray c)):
  ∃ D0:DataW Unit,w.ownsMap Tryz.prog 3 (fun _=>some (.nil,[])) m 1000000 D0∧Maps.size D0≤1000000∧∀ ss:List Int,ss.Perm (intKeys D0)→ss.Perm (es.map (·.1)):=by
 have hkeys:l.map (·.1)=es.map (·.1):=by rw [←hs];simp [strip,Function.comp_def]
 have hlen2:l.length=es.length:=by have:=congrArg List.length hkeys;simpa using this
 have hkey:∀ e∈l,keyOf Tryz.prog 3 (mkE e).key=some (.int .i64 e.1):=fun e he=>by
  have hm:e.1∈es.map (·.1):=by rw [←hkeys];exact List.mem_map_of_mem he
  have hsz:=hn _ hm
  have hwf:(Lit.int .i64 e.1).wf=true:=by
   have h1:IntKind.i64.min=-9223372036854775808:=by decide
   have h2:IntKind.i64.max=9223372036854775807:=by decide
   simp only [Lit.wf,Bool.and_eq_true,decide_eq_true_eq];omega
  simp only [keyOf,Tryz.underlying3,mkE,mapKey,KeyK.enc]
  rw [if_pos ⟨trivial,hwf⟩]
 have hrd:∀ e∈l,WideElems.rd Tryz.prog 3 (fun _=>some ((.nil:DataW Unit),[])) (mkE e)=some (.int .i64 e.1,.nil):=fun e he=>by
  unfold WideElems.rd
  rw [hkey e he];rfl
 have hrg:((l.map mkE).map (WideElems.rg Tryz.prog 3 (fun _=>some ((.nil:DataW Unit),[]))))=l.map fun e=>(.int .i64 e.1,.nil):=by
  rw [List.map_map]
  apply List.map_congr_left
  intro e he
  simp only [Function.comp,WideElems.rg,hrd e he,Option.getD_some]
 refine ⟨_,⟨(l.map mkE).toArray,c,hm,⟨by simp [maxLen];omega,?_,?_⟩,by simp;omega,rfl⟩,?_,?_⟩
 ·refine ⟨fun x hx=>?_,?_,?_⟩
  ·simp only [List.mem_map] at hx
   obtain ⟨e,he,rfl⟩:=hx
   exact hst.1 e he
  ·have:=hst.2;simpa [mkE,Function.comp_def] using this
  ·have h2:(l.map (·.1)).Nodup:=by rw [hkeys];exact hu
   have e1:((l.map mkE).toArray.toList.map (·.key))=(l.map (·.1)).map (Value.int .i64):=by simp [mkE,Function.comp_def,KeyK.enc]
   rw [e1]
   exact List.Pairwise.map _ (fun a b hab h=>hab (by injection h)) h2
 ·intro x hx
  simp only [List.mem_map] at hx
  obtain ⟨e,he,rfl⟩:=hx
  exact ⟨_,hrd e he⟩
 ·simp only [Maps.size,hrg]
  rw [(WideShapes.sorted_perm _).length_eq];simp;omega
 ·intro ss hss
  refine hss.trans ?_
  simp only [intKeys,hrg]
  refine ((WideShapes.sorted_perm _).map _).trans ?_
  rw [List.map_map,←hkeys]
  exact List.Perm.of_eq (List.map_congr_left fun e _=>rfl)
end Go.Proofs.YtfgbbckfikiomaaGreatDoor
/- The keys of a map of ints, by the library's calls. Condition: bounds. -/
namespace Go.Proofs.YtfgbbckfikiomaaGreatDoor
set_option linter.unusedVariables false
open Go Go.VC
variable {R:Cx} {Hs Rest:List HP} {w:World}
def sortI (l:List Int):List Int:=l.mergeSort fun x y=>decide (x≤y)
theorem sortI_perm {a b:List Int} (h:a.Perm b):sortI a=sortI b:=by
 have tr:∀ a b c:Int,decide (a≤b)=true→decide (b≤c)=true→decide (a≤c)=true:=fun a b c h1 h2=>by simp only [decide_eq_true_eq] at *;omega
 have to:∀ a b:Int,(decide (a≤b)||decide (b≤a))=true:=fun a b=>by simp only [Bool.or_eq_true,decide_eq_true_eq];omega
 have s1:=List.pairwise_mergeSort tr to a
 have s2:=List.pairwise_mergeSort tr to b
 have p:(a.mergeSort fun x y=>decide (x≤y)).Perm (b.mergeSort fun x y=>decide (x≤y)):=(List.mergeSort_perm a _).trans (h.trans (List.mergeSort_perm b _).symm)
 exact List.Perm.eq_of_pairwise (fun a b _ _ h1 h2=>by simp only [decide_eq_true_eq] at h1 h2;omega) s1 s2 p
theorem collectO_rule {m:Nat} {es:List (Int × Value)} {S:World→Prop} {K:Sl→World→Prop} (hu:(es.map (·.1)).Nodup) (hn:∀ k∈es.map (·.1),-1000000000≤k∧k≤1000000000) (hlen:es.length≤1000000) (hw:Sat R (MapAt m es::Hs) w)
  (hS:∀ w',Sat R (MapAt m es::Hs) w'→S w')
  (k:∀ s ks w',ks.Perm (es.map (·.1))→Sat R (Own s 3 (intsI ks)::MapAt m es::Hs) w'→K s w'):
  Calls Tryz.prog 189 #[.map (some m)] w fun e w1=>∃ t:Value,e=.returned t∧S w1∧Calls Tryz.prog 121 #[t] w1 fun e w2=>∃ t:Sl,e=.returned (.slice t.a t.len t.cap)∧S w2∧K t w2:=by
 obtain ⟨l,c,hs,hst,hp⟩:=MapAt.iff.1 hw
 obtain ⟨D0,hown,hsz,hperm⟩:=keysI_map hs hst hu hn hlen hp.at
 refine (callsIn_wide.1 (Tryz.maps_Keys_189 (some m) w)).mono ?_
 rintro _ _ ⟨rfl,rfl⟩
 have hw1:Sat R (MapAt m es::Hs) (w.alloc (.cells #[.map (some m)] 172)):=(Sat.alloc _ hw).drop
 refine ⟨_,rfl,hS _ hw1,?_⟩
 refine (callsIn_wide.1 (Tryz.slices_Collect_keys_121_189 m _ D0 _ w hown (by unfold maxLen;omega) (by omega))).mono ?_
 rintro _ w' ⟨v,ss,rfl,hS2,hrow,hnil,hb⟩
 obtain ⟨s,rfl,h3⟩:=Sat.ownsRow hw1 hb hrow
 exact ⟨s,rfl,hS _ h3.drop,k s ss _ (hperm ss hS2) h3⟩
end Go.Proofs.YtfgbbckfikiomaaGreatDoor
/- A flight: Auto. Condition: bounds on lengths. -/
namespace Go.Proofs.YtfgbbckfikiomaaGreatDoor
set_option linter.unusedVariables false
open Go Go.VC
variable {R:Cx} {Hs Rest:List HP} {w:World}
theorem bestT_perm {n:Int} {g a b:List Int} {many:Int} (h:a.Perm b):bestT n g a many=bestT n g b many:=by
 have:usedF a=usedF b:=by
  funext j
  unfold usedF
  rw [decide_eq_decide]
  exact h.mem_iff
 unfold bestT
 rw [this]
theorem freeL_rise {u:Nat→Bool} {N i j:Nat} (hj:j<(freeL u N).length) (hij:i<j):(freeL u N)[i]<(freeL u N)[j]:=by
 have h1:=free_of (List.getElem?_eq_getElem (show i<(freeL u N).length by omega))
 have h2:=free_of (List.getElem?_eq_getElem hj)
 by_cases h:(freeL u N)[i]<(freeL u N)[j]
 ·exact h
 ·exfalso
  have h3:=free_ge (u:=u) (j:=(freeL u N)[j]) ((freeL u N)[i] - (freeL u N)[j])
  rw [show (freeL u N)[j] + ((freeL u N)[i] - (freeL u N)[j])=(freeL u N)[i] by omega,h1.2.2,h2.2.2] at h3
  omega
theorem bestF_cases (u z:Nat→Bool) (N many:Nat):(∃ k,(bestF u z N many).1=upTo k many)∨(bestF u z N many).1=[]∨(bestF u z N many).1=(freeL u N).take many:=by
 unfold bestF
 split
 ·exact .inl ⟨_,rfl⟩
 ·split
  ·exact .inr (.inl rfl)
  ·exact .inr (.inr rfl)
theorem rise_cast {l:List Nat} (h:∀ i j (hj:j<l.length) (hij:i<j),l[i]<l[j]):Rise (l.map fun (j:Nat)=>(j:Int)):=fun i j hj hij=>by
 rw [List.length_map] at hj
 simp only [List.getElem_map]
 have:=h i j hj hij
 omega
theorem best_rise {n:Int} {g taken:List Int} {many:Int}:Rise (bestT n g taken many).1:=by
 unfold bestT
 split
 ·intro i j hj hij;simp at hj
 ·dsimp only
  rcases bestF_cases (usedF taken) (zF g) (layN n g).toNat many.toNat with ⟨k,h⟩|h|h
  ·rw [h]
   exact rise_cast fun i j hj hij=>by simp only [upTo,List.getElem_map,List.getElem_range];omega
  ·rw [h];intro i j hj hij;simp at hj
  ·rw [h]
   exact rise_cast fun i j hj hij=>by
    rw [List.length_take] at hj
    simp only [List.getElem_take]
    exact freeL_rise (by omega) hij
theorem best_len {n:Int} {g taken:List Int} {many:Int}:(bestT n g taken many).1.length≤600:=by
 have hb:=layN_bd n g
 unfold bestT
 split
 ·simp
 rename_i hm
 simp only [List.length_map]
 unfold bestF
 split
 ·rw [upTo_len];omega
 ·split
  ·simp
  ·simp only [List.length_take];omega
theorem insS_end {n:Int}:∀ {l:List Int},(∀ x∈l,x<n)→insS n l=l++[n]
 |[],_=>rfl
 |x::l,h=>by
  unfold insS
  rw [if_pos (h x List.mem_cons_self),insS_end fun y hy=>h y (List.mem_cons_of_mem _ hy)];rfl
theorem rise_take {l:List Int} (h:Rise l) (j:Nat):Rise (l.take j):=fun i k hk hik=>by
 rw [List.length_take] at hk
 simp only [List.getElem_take]
 exact h i k (by omega) hik
theorem rise_ins {l:List Int} (h:Rise l) {j:Nat} (hj:j<l.length):insS l[j] (l.take j)=l.take (j + 1):=by
 rw [insS_end,List.take_add_one,List.getElem?_eq_getElem hj,Option.toList_some]
 intro x hx
 obtain ⟨i,hi,rfl⟩:=List.getElem_of_mem hx
 rw [List.length_take] at hi
 rw [List.getElem_take]
 exact h i j hj (by omega)
def putAll (o:Int) (l:List Int) (own:List (Int × Int)):List (Int × Int):=l.foldl (fun p n=>putM n o p) own
def autoF (f:PF) (owner:Int):PF × List ByteArray × Int:=
 match getM owner f.hs with
 |none=>(f,[],2)
 |some h=>if h.seats.length>0 then (f,[],7)
  else ({ f with hs:=setM owner { h with seats:=(bestT f.rows f.grps (f.own.map (·.1)) h.many).1 } f.hs,own:=putAll h.owner (bestT f.rows f.grps (f.own.map (·.1)) h.many).1 f.own },
   labsF f.rows f.grps (bestT f.rows f.grps (f.own.map (·.1)) h.many).1,(bestT f.rows f.grps (f.own.map (·.1)) h.many).2)
theorem auto_fspec {p:Nat} {f:PF} {owner:Int} (hgl:f.grps.length≤1000) (hu:(f.own.map (·.1)).Nodup) (hk:∀ k∈f.own.map (·.1),-1000000000≤k∧k≤1000000000) (hol:f.own.length≤1000000) (hw:Sat R (FlightAt p f::Hs) w):
  Gets Tryz.prog 118 #[.pointer (some ⟨p,0,none⟩),.int .i64 owner] w fun v w'=>∃ t:Sl,v=.tuple #[.slice t.a t.len t.cap,.int .i64 (autoF f owner).2.2]∧Sat R (Own t 9 ((autoF f owner).2.1.map Value.string)::FlightAt p (autoF f owner).1::Hs) w':=by
 obtain ⟨hm,om,sg,sl,ss,E,R',hE,_,rg,_,_,hw,back⟩:=Sat.flightO hw
 have rgo:RoI R' sg f.grps:=rg.ro (by rw [List.length_map];omega)
 apply call118
 refine NilP.mk rfl ⟨some hm,At.own (eqS hw) (by exact ⟨rfl,trivial⟩),(getM owner E).map (fun x=>⟨x.1,0,none⟩),(getM owner E).isSome,fun w' e=>by rw [show w'=w from e];exact hold_look (hw.take (MapAt hm (hPtrs E))) owner true,?_⟩
 cases hget:getM owner E with
 |none=>
  have e:autoF f owner=(f,[],2):=by unfold autoF;rw [←hE,hEr_get,hget];rfl
  rw [e]
  exact Br.t rfl ⟨⟨none,0,0⟩,rfl,Own.nil (Sat.flightC hE (back _ _ hw))⟩
 |some x=>
  obtain ⟨b,h⟩:=x
  have hgf:getM owner f.hs=some h:=by rw [←hE,hEr_get,hget];rfl
  obtain ⟨a,c,rfl,hna⟩:=getM_split hget
  refine Br.f rfl (NilP.mk rfl ?_)
  obtain ⟨s,hw⟩:=FO.open hw
  have hsl:=Own.len (hw.take (Own s 3 (intsI h.seats)))
  rw [List.length_map] at hsl
  refine ⟨s,At.own (eqS hw) (by exact ⟨rfl,trivial⟩),Br.d (fun h1=>?_) (fun h1=>?_)⟩
  ·have e:autoF f owner=(f,[],7):=by unfold autoF;rw [hgf];dsimp only;rw [if_pos (by omega)]
   rw [e]
   exact ⟨⟨none,0,0⟩,rfl,Own.nil (Sat.flightC hE (back _ _ (FO.close hw)))⟩
  have hse:h.seats=[]:=List.length_eq_zero_iff.1 (by omega)
  have e:autoF f owner=({ f with hs:=setM owner { h with seats:=(bestT f.rows f.grps (f.own.map (·.1)) h.many).1 } f.hs,own:=putAll h.owner (bestT f.rows f.grps (f.own.map (·.1)) h.many).1 f.own },
   labsF f.rows f.grps (bestT f.rows f.grps (f.own.map (·.1)) h.many).1,(bestT f.rows f.grps (f.own.map (·.1)) h.many).2):=by unfold autoF;rw [hgf];dsimp only;rw [if_neg (by omega)]
  rw [e]
  refine drw_rule hw fun w hw=>?_
  refine NilP.mk rfl ⟨f.rows,sg,At.own selfS (by exact ⟨rfl,rfl,trivial⟩),NilP.mk rfl ⟨some om,At.own selfS (by exact ⟨rfl,trivial⟩),NilP.mk rfl ⟨h.many,At.own selfS (by exact ⟨rfl,trivial⟩),?_⟩⟩⟩
  have hown:(oVals f.own).map (·.1)=f.own.map (·.1):=by simp [oVals,Function.comp_def]
  refine collectO_rule (es:=oVals f.own) (by rw [hown];exact hu) (by rw [hown];exact hk) (by rw [List.length_map];exact hol) (hw.take (MapAt om (oVals f.own)))
   (fun w' h5=>((((h5.take (MapAt hm (hPtrs (a++(owner,b,h)::c)))).take (pts p (fCells f sg sl ss hm om))).take (HoldsAt (a++c))).take (Own s 3 (intsI h.seats))).take (pts b (hCells h s))|>.perm (by
    refine List.Perm.cons _ (List.Perm.cons _ (List.Perm.cons _ (List.Perm.cons _ (List.Perm.refl _))))))
   fun tk ks w hks hw=>?_
  rw [hown] at hks
  obtain ⟨R2,hro,hmono,hw2,back2⟩:=Own.lend hw (by rw [List.length_map];have:=hks.length_eq;rw [List.length_map] at this;omega)
  refine (best_spec (taken:=ks) (hmono _ _ rgo) hro hw2).use ?_
  clear hw hw2
  rintro _ w ⟨t,rfl,hw⟩
  have hw:=(back2 hw).drop
  rw [bestT_perm hks] at hw ⊢
  have hri:=best_rise (n:=f.rows) (g:=f.grps) (taken:=f.own.map (·.1)) (many:=h.many)
  have hln:=best_len (n:=f.rows) (g:=f.grps) (taken:=f.own.map (·.1)) (many:=h.many)
  generalize bestT f.rows f.grps (f.own.map (·.1)) h.many=r at *
  refine ⟨_,_,rfl,?_,?_⟩
  ·exact ((((hw.drop.take (MapAt hm (hPtrs (a++(owner,b,h)::c)))).take (pts p (fCells f sg sl ss hm om))).take (HoldsAt (a++c))).take (Own s 3 (intsI h.seats))).take (pts b (hCells h s))|>.perm (by
    refine List.Perm.cons _ (List.Perm.cons _ (List.Perm.cons _ (List.Perm.cons _ (List.Perm.refl _)))))
  obtain ⟨R3,e3,ht,hw,back3⟩:=Reads.out hw
  have hto:RoI R3 t r.1:=ht.ro (by rw [List.length_map];omega)
  have htl:=hto.len
  have hw:Sat R3 (FO p hm om sg sl ss (a++(owner,b,h)::c) f Hs) w:=FO.close (((((hw.take (MapAt hm (hPtrs (a++(owner,b,h)::c)))).take (pts p (fCells f sg sl ss hm om))).take (HoldsAt (a++c))).take (Own s 3 (intsI h.seats))).take (pts b (hCells h s))|>.perm (by
    refine List.Perm.cons _ (List.Perm.cons _ (List.Perm.cons _ (List.Perm.cons _ (List.Perm.refl _))))))
  refine ⟨fun i w=>∃ j:Nat,i=j∧j≤r.1.length∧Sat R3 (FO p hm om sg sl ss (a++(owner,b,{ h with seats:=r.1.take j })::c) { f with own:=putAll h.owner (r.1.take j) f.own } Hs) w,fun i _=>r.1.length - i.toNat,⟨0,rfl,by omega,?_⟩,?_⟩
  ·have eh:({ h with seats:=r.1.take 0 }:Hold)=h:=by rw [List.take_zero,←hse]
   rw [eh];exact hw
  clear hw
  rintro _ _ w ⟨j,rfl,hj,hw⟩
  refine Br.d (fun h2=>?_) (fun h2=>?_)
  ·have hj2:j<r.1.length:=by omega
   refine Ro.ix hto (eqS hw) j rfl hj2 ?_
   refine (tell_spec (h:={ h with seats:=r.1.take j }) (rise_take hri j) (by simp only [List.length_take];omega) hw).use ?_
   rintro _ w ⟨rfl,hw⟩
   rw [wrap64 (by omega) (by omega)]
   refine ⟨rfl,⟨j + 1,by omega,by omega,?_⟩,by dsimp only;omega⟩
   have eh:Hold.put { h with seats:=r.1.take j } r.1[j]={ h with seats:=r.1.take (j + 1) }:=by unfold Hold.put;rw [rise_ins hri hj2]
   have eo:putM r.1[j] h.owner (putAll h.owner (r.1.take j) f.own)=putAll h.owner (r.1.take (j + 1)) f.own:=by
    unfold putAll
    rw [List.take_add_one,List.getElem?_eq_getElem hj2,Option.toList_some,List.foldl_append];rfl
   rw [eh] at hw
   rw [←eo]
   exact hw
  ·rw [List.take_of_length_le (by omega)] at hw
   refine (labels_spec (f:=f) (hm:=hm) (om:=om) (sg:=sg) (sl:=sl) (ss:=ss) (e3.ro rgo) hto (by omega) hw).use ?_
   rintro _ w ⟨t2,rfl,hw⟩
   refine ⟨t2,rfl,t2,rfl,?_⟩
   have hw:=(back3 _ _ hw).drop
   have hw:=back _ _ hw
   refine Sat.cons (fun R5 h5=>?_) (hw.take (Own t2 9 ((labsF f.rows f.grps r.1).map Value.string)))
   refine Sat.flight.2 ⟨hm,om,sg,sl,ss,a++(owner,b,{ h with seats:=r.1 })::c,?_,h5⟩
   show _=setM owner _ f.hs
   rw [←hE,hEr_app,hEr_app,setM_app (by rw [hEr_get,hna];rfl) (int_rfl owner)]
end Go.Proofs.YtfgbbckfikiomaaGreatDoor
/- Reference 15: putting a seat; whether two answers are the same. Condition: bounds. -/
namespace Go.Proofs.YtfgbbckfikiomaaGreatDoor
set_option linter.unusedVariables false
open Go Go.VC
variable {R:Cx} {Hs Rest:List HP} {w:World}
theorem insS_len (n:Int):∀ l:List Int,(insS n l).length=l.length + 1
 |[]=>rfl
 |x::l=>by
  unfold insS
  split
  ·simp only [List.length_cons,insS_len n l]
  ·rfl
end Go.Proofs.YtfgbbckfikiomaaGreatDoor

/- Numbers, one behind the other: Encode's inner function; reference 15's numbers. Condition: bounds on lengths. -/
namespace Go.Proofs.YtfgbbckfikiomaaGreatDoor
set_option linter.unusedVariables false
open Go Go.VC
variable {R:Cx} {Hs Rest:List HP} {w:World}
def numsB (l:List Int):List Int:=(l.map fun x=>numB x.toNat).flatten
theorem numsB_len:∀ {l:List Int},(∀ x∈l,0≤x∧x<18446744073709551616)→(numsB l).length≤9 * l.length
 |[],_=>by simp [numsB]
 |x::l,h=>by
  have h1:=h x (List.mem_cons_self ..)
  have:=numB_len (n:=x.toNat) (by omega)
  have h2:=numsB_len (l:=l) fun y hy=>h y (List.mem_cons_of_mem _ hy)
  unfold numsB at h2 ⊢
  rw [List.map_cons,List.flatten_cons,List.length_append,List.length_cons]
  omega
theorem numsB_bd:∀ {l:List Int},(∀ x∈l,0≤x∧x<18446744073709551616)→∀ y∈numsB l,0≤y∧y<256
 |[],_=>by simp [numsB]
 |x::l,h=>fun y hy=>by
  have h1:=h x (List.mem_cons_self ..)
  unfold numsB at hy
  rw [List.map_cons,List.flatten_cons,List.mem_append] at hy
  rcases hy with hy|hy
  ·exact numB_bd (n:=x.toNat) (by omega) y hy
  ·exact numsB_bd (fun y hy=>h y (List.mem_cons_of_mem _ hy)) y hy
theorem numsB_app (a b:List Int):numsB (a++b)=numsB a++numsB b:=by simp [numsB]
def OutB (p:Nat) (bs:List Int):HP:=exs fun s:Sl=>Star [lp p s,Own s 5 (b8 bs)]
theorem Sat.outB {p:Nat} {bs:List Int}:Sat R (OutB p bs::Hs) w↔∃ s:Sl,Sat R (lp p s::Own s 5 (b8 bs)::Hs) w:=by
 unfold OutB
 rw [Sat.exs]
 exact ⟨fun ⟨s,h⟩=>⟨s,Sat.star.1 h⟩,fun ⟨s,h⟩=>⟨s,Sat.star.2 h⟩⟩
end Go.Proofs.YtfgbbckfikiomaaGreatDoor
/- Lists of holds in memory. Condition: none. -/
namespace Go.Proofs.YtfgbbckfikiomaaGreatDoor
set_option linter.unusedVariables false
open Go Go.VC
variable {R:Cx} {Hs Rest:List HP} {w:World}
def rowH (h:Hold) (t:Sl):List Value:=[.int .i64 h.owner,.int .i64 h.cls,.int .i64 h.many,.slice t.a t.len t.cap]
def rowsH (L:List Hold) (ts:List Sl):List (List Value):=(L.zip ts).map fun x=>rowH x.1 x.2
def seatsH (L:List Hold) (ts:List Sl):List HP:=(L.zip ts).map fun x=>Reads x.2 (intsI x.1.seats)
def HoldsL (s:Sl) (L:List Hold):HP:=exs fun ts:List Sl=>Star (pur (ts.length=L.length)::OwnN 4 s 176 (rowsH L ts)::seatsH L ts)
theorem Sat.holdsL {s:Sl} {L:List Hold}:Sat R (HoldsL s L::Hs) w↔∃ ts:List Sl,ts.length=L.length∧Sat R (OwnN 4 s 176 (rowsH L ts)::(seatsH L ts++Hs)) w:=by
 unfold HoldsL
 rw [Sat.exs]
 constructor
 ·rintro ⟨ts,h⟩
  obtain ⟨h1,h2⟩:=Sat.pur.1 (Sat.star.1 h)
  exact ⟨ts,h1,h2⟩
 ·rintro ⟨ts,h1,h2⟩
  exact ⟨ts,Sat.star.2 (Sat.pur.2 ⟨h1,h2⟩)⟩
structure HsR (R:Cx) (s:Sl) (L:List Hold) (ts:List Sl):Prop where
 len:ts.length=L.length
 rows:RoN 4 R s (rowsH L ts)
 seats:∀ i (h:i<L.length) (h':i<ts.length),SlR R.m ts[i] (intsI L[i].seats)
theorem seats_leak:∀ {L:List Hold} {ts:List Sl} {R:Cx},ts.length=L.length→Sat R (seatsH L ts++Hs) w→∃ R':Cx,R.Ext R'∧(∀ i (h:i<L.length) (h':i<ts.length),SlR R'.m ts[i] (intsI L[i].seats))∧Sat R' Hs w
 |[],_,R,_,hw=>⟨R,Cx.Ext.refl,fun i h=>by simp at h,by simpa [seatsH] using hw⟩
 |h::L,[],R,hl,_=>by simp at hl
 |h::L,t::ts,R,hl,hw=>by
  have hw:Sat R (Reads t (intsI h.seats)::(seatsH L ts++Hs)) w:=hw
  obtain ⟨R1,e1,s1,hw⟩:=Reads.leak hw
  obtain ⟨R2,e2,s2,hw⟩:=seats_leak (by simpa using hl) hw
  refine ⟨R2,e1.trans e2,fun i h h'=>?_,hw⟩
  rcases i with _|i
  ·exact e2.slR s1
  ·exact s2 i (by simpa using h) (by simpa using h')
theorem HoldsL.leak {s:Sl} {L:List Hold} (hw:Sat R (HoldsL s L::Hs) w):∃ (R':Cx) (ts:List Sl),R.Ext R'∧HsR R' s L ts∧Sat R' Hs w:=by
 obtain ⟨ts,hl,hw⟩:=Sat.holdsL.1 hw
 obtain ⟨R1,e1,hr,hw⟩:=OwnN.leak hw
 obtain ⟨R2,e2,hs,hw⟩:=seats_leak hl hw
 exact ⟨R2,ts,e1.trans e2,⟨hl,e2.roN hr,hs⟩,hw⟩
end Go.Proofs.YtfgbbckfikiomaaGreatDoor
/- Whether two lists of holds are the same: reference 15. Condition: none. -/
namespace Go.Proofs.YtfgbbckfikiomaaGreatDoor
set_option linter.unusedVariables false
open Go Go.VC
variable {R:Cx} {Hs Rest:List HP} {w:World}
theorem rowsH_len {L:List Hold} {ts:List Sl} (h:ts.length=L.length):(rowsH L ts).length=L.length:=by simp [rowsH,h]
theorem rowsH_at {L:List Hold} {ts:List Sl} {k:Nat} (h:k<L.length) (h':k<ts.length) (h2:k<(rowsH L ts).length):(rowsH L ts)[k]=rowH L[k] ts[k]:=by simp [rowsH]
theorem HsR.fld {s:Sl} {L:List Hold} {ts:List Sl} {S:World→Prop} {k j:Nat} {v:Value} (hr:HsR R s L ts) (hS:∀ w,S w→Sat R Hs w) (hk:k<L.length) (hk':k<ts.length) (hv:(rowH L[k] ts[k])[j]? =some v) {F:Addr→Prop}
  (f:∀ a:Addr,a.spot=none→At S ⟨(a.add (mulS k 4)).block,(a.add (mulS k 4)).off + j,none⟩ [v]→F a):Rng (k:Int) s.len (NilP s.a F):=by
 have hl:=rowsH_len hr.len
 refine (hr.rows.reads hS).rng (k:=k) (by omega) fun b off ha hat=>f _ rfl ?_
 rw [elt_addr]
 refine hat j [v] ?_
 rw [rowsH_at hk hk']
 obtain ⟨hlt,he⟩:=List.getElem?_eq_some_iff.1 hv
 rw [List.drop_eq_getElem_cons hlt,he]
 exact ⟨rfl,trivial⟩
def holdEq (a b:Hold):Prop:=a.owner=b.owner∧a.cls=b.cls∧a.many=b.many∧a.seats=b.seats
theorem hold_ext {a b:Hold} (h:holdEq a b):a=b:=by
 obtain ⟨h1,h2,h3,h4⟩:=h
 cases a;cases b;simp_all
instance:DecidableEq Hold:=fun a b=>decidable_of_iff (a.owner=b.owner∧a.cls=b.cls∧a.many=b.many∧a.seats=b.seats) ⟨hold_ext,fun h=>by subst h;exact ⟨rfl,rfl,rfl,rfl⟩⟩
end Go.Proofs.YtfgbbckfikiomaaGreatDoor
/- Reference 15's flight in memory; place. Condition: none. -/
namespace Go.Proofs.YtfgbbckfikiomaaGreatDoor
set_option linter.unusedVariables false
open Go Go.VC
variable {R:Cx} {Hs Rest:List HP} {w:World}
structure RF where
 num:Int
 rows:Int
 grps:List Int
 lims:List Int
 L:List Hold
abbrev rCells (r:RF) (sg sl s:Sl):Obj:=.cells [.int .i64 r.num,.int .i64 r.rows,.slice sg.a sg.len sg.cap,.slice sl.a sl.len sl.cap,.slice s.a s.len s.cap].toArray 149 (0,0)
end Go.Proofs.YtfgbbckfikiomaaGreatDoor
/- A flight, plain: the document's steps; how the program's go with them. No program in sight. Condition: none. -/
namespace Go.Proofs.YtfgbbckfikiomaaGreatDoor
set_option linter.unusedVariables false
open Go Go.VC
def cntL (k:Int):List Hold→Int
 |[]=>0
 |h::L=>(if h.cls=k then h.many else 0) + cntL k L
def soldL (n:Nat) (L:List Hold):List Int:=(List.range n).map fun (k:Nat)=>cntL (k:Int) L
def takenL (L:List Hold):List Int:=L.flatMap Hold.seats
theorem cntL_cons (k:Int) (h:Hold) (L:List Hold):cntL k (h::L)=(if h.cls=k then h.many else 0) + cntL k L:=rfl
theorem cntL_app (k:Int):∀ A B:List Hold,cntL k (A++B)=cntL k A + cntL k B
 |[],B=>by simp [cntL]
 |h::A,B=>by simp only [List.cons_append,cntL,cntL_app k A B];omega
theorem cntL_perm {k:Int} {A B:List Hold} (h:A.Perm B):cntL k A=cntL k B:=by
 induction h with
 |nil=>rfl
 |cons x _ ih=>simp only [cntL,ih]
 |swap x y l=>simp only [cntL];exact Int.add_left_comm _ _ _
 |trans _ _ a b=>exact a.trans b
theorem soldL_len (n:Nat) (L:List Hold):(soldL n L).length=n:=by simp [soldL]
theorem soldL_get {n k:Nat} {L:List Hold} (h:k<(soldL n L).length):(soldL n L)[k]=cntL (k:Int) L:=by simp [soldL]
theorem soldL_getD {n k:Nat} {L:List Hold} (h:k<n):(soldL n L).getD k 0=cntL (k:Int) L:=by
 rw [List.getD_eq_getElem?_getD,List.getElem?_eq_getElem (by rw [soldL_len];exact h),soldL_get];rfl
theorem soldL_set {n:Nat} {L L':List Hold} {c:Int} {x:Int} (h0:0≤c) (h1:c<n) (hc:cntL c L'=x) (ho:∀ k:Nat,(k:Int)≠c→cntL (k:Int) L'=cntL (k:Int) L):(soldL n L).set c.toNat x=soldL n L':=by
 apply List.ext_getElem
 ·simp [soldL]
 ·intro i h2 h3
  rw [List.getElem_set]
  split
  ·rename_i e
   rw [soldL_get]
   rw [←hc]
   congr 1
   omega
  ·rename_i e
   rw [soldL_get,soldL_get]
   exact (ho i (by omega)).symm
theorem soldL_put {n:Nat} {h:Hold} {L L':List Hold} (p:L'.Perm (h::L)) (h0:0≤h.cls) (h1:h.cls<n):(soldL n L).set h.cls.toNat ((soldL n L).getD h.cls.toNat 0 + h.many)=soldL n L':=by
 refine soldL_set h0 h1 ?_ fun k hk=>?_
 ·rw [soldL_getD (by omega),cntL_perm p,show ((h.cls.toNat:Nat):Int)=h.cls by omega]
  rw [cntL_cons,if_pos rfl];omega
 ·rw [cntL_perm p]
  show (if h.cls=(k:Int) then h.many else 0) + cntL (k:Int) L=_
  rw [if_neg (fun e=>hk e.symm)];omega
theorem soldL_out {n:Nat} {h:Hold} {L L':List Hold} (p:L'.Perm (h::L)) (h0:0≤h.cls) (h1:h.cls<n):(soldL n L').set h.cls.toNat ((soldL n L').getD h.cls.toNat 0 - h.many)=soldL n L:=by
 refine soldL_set h0 h1 ?_ fun k hk=>?_
 ·rw [soldL_getD (by omega),cntL_perm p,show ((h.cls.toNat:Nat):Int)=h.cls by omega]
  show _=(if h.cls=h.cls then h.many else 0) + cntL h.cls L - h.many
  rw [if_pos rfl];omega
 ·rw [cntL_perm p]
  show _=(if h.cls=(k:Int) then h.many else 0) + cntL (k:Int) L
  rw [if_neg (fun e=>hk e.symm)];omega
def getO (o:Int):List Hold→Option Hold
 |[]=>none
 |h::L=>if h.owner=o then some h else getO o L
def setO (o:Int) (h':Hold):List Hold→List Hold
 |[]=>[]
 |h::L=>if h.owner=o then h'::L else h::setO o h' L
def delO (o:Int):List Hold→List Hold
 |[]=>[]
 |h::L=>if h.owner=o then L else h::delO o L
def insH (h:Hold):List Hold→List Hold
 |[]=>[h]
 |x::L=>if x.owner<h.owner then x::insH h L else h::x::L
theorem getO_cons (o:Int) (h:Hold) (L:List Hold):getO o (h::L)=if h.owner=o then some h else getO o L:=rfl
theorem getO_none {o:Int}:∀ {L:List Hold},getO o L=none↔∀ h∈L,h.owner≠o
 |[]=>by simp [getO]
 |h::L=>by
  rw [getO_cons]
  constructor
  ·intro e x hx
   split at e
   ·cases e
   ·rename_i hne
    rcases List.mem_cons.1 hx with rfl|hx
    ·exact hne
    ·exact getO_none.1 e x hx
  ·intro e
   rw [if_neg (e h List.mem_cons_self)]
   exact getO_none.2 fun x hx=>e x (List.mem_cons_of_mem _ hx)
theorem getO_split {o:Int} {h:Hold}:∀ {L:List Hold},getO o L=some h→∃ A C,L=A++h::C∧getO o A=none∧h.owner=o
 |[],e=>by cases e
 |x::L,e=>by
  rw [getO_cons] at e
  split at e
  ·rename_i hx;cases e;exact ⟨[],L,rfl,rfl,hx⟩
  ·rename_i hx
   obtain ⟨A,C,rfl,hA,ho⟩:=getO_split e
   exact ⟨x::A,C,rfl,by rw [getO_cons,if_neg hx];exact hA,ho⟩
theorem getO_app {o:Int} {h:Hold} {C:List Hold} (ho:h.owner=o):∀ {A:List Hold},getO o A=none→getO o (A++h::C)=some h
 |[],_=>by show getO o (h::C)=_;rw [getO_cons,if_pos ho]
 |x::A,e=>by
  rw [getO_cons] at e
  split at e
  ·cases e
  ·rename_i hx
   show getO o (x::(A++h::C))=_
   rw [getO_cons,if_neg hx];exact getO_app ho e
theorem setO_app {o:Int} {h h':Hold} {C:List Hold} (ho:h.owner=o):∀ {A:List Hold},getO o A=none→setO o h' (A++h::C)=A++h'::C
 |[],_=>by show setO o h' (h::C)=_;unfold setO;rw [if_pos ho];rfl
 |x::A,e=>by
  rw [getO_cons] at e
  split at e
  ·cases e
  ·rename_i hx
   show setO o h' (x::(A++h::C))=_
   unfold setO
   rw [if_neg hx,setO_app ho e];rfl
theorem delO_app {o:Int} {h:Hold} {C:List Hold} (ho:h.owner=o):∀ {A:List Hold},getO o A=none→delO o (A++h::C)=A++C
 |[],_=>by show delO o (h::C)=_;unfold delO;rw [if_pos ho];rfl
 |x::A,e=>by
  rw [getO_cons] at e
  split at e
  ·cases e
  ·rename_i hx
   show delO o (x::(A++h::C))=_
   unfold delO
   rw [if_neg hx,delO_app ho e];rfl
theorem insH_perm (h:Hold):∀ L:List Hold,(insH h L).Perm (h::L)
 |[]=>List.Perm.refl _
 |x::L=>by
  unfold insH
  split
  ·exact ((insH_perm h L).cons x).trans (List.Perm.swap _ _ _)
  ·exact List.Perm.refl _
def OwR (L:List Hold):Prop:=L.Pairwise fun a b=>a.owner<b.owner
theorem OwR.ne {L:List Hold} (h:OwR L):L.Pairwise fun a b=>a.owner≠b.owner:=h.imp fun h e=>by omega
theorem getO_iff {o:Int} {h:Hold}:∀ {L:List Hold},(L.Pairwise fun a b=>a.owner≠b.owner)→(getO o L=some h↔h∈L∧h.owner=o)
 |[],_=>by simp [getO]
 |x::L,hp=>by
  obtain ⟨h1,h2⟩:=List.pairwise_cons.1 hp
  rw [getO_cons]
  split
  ·rename_i hx
   constructor
   ·intro e;cases e;exact ⟨List.mem_cons_self,hx⟩
   ·rintro ⟨hm,ho⟩
    rcases List.mem_cons.1 hm with rfl|hm
    ·rfl
    ·exact absurd (hx.trans ho.symm) (h1 h hm)
  ·rename_i hx
   rw [getO_iff h2]
   constructor
   ·rintro ⟨a,b⟩;exact ⟨List.mem_cons_of_mem _ a,b⟩
   ·rintro ⟨hm,ho⟩
    rcases List.mem_cons.1 hm with rfl|hm
    ·exact absurd ho hx
    ·exact ⟨hm,ho⟩
theorem getO_perm {o:Int} {A B:List Hold} (p:A.Perm B) (h:A.Pairwise fun a b=>a.owner≠b.owner):getO o A=getO o B:=by
 have h':B.Pairwise fun a b=>a.owner≠b.owner:=(p.pairwise_iff fun h=>h.symm).1 h
 apply Option.ext
 intro x
 rw [getO_iff h,getO_iff h',p.mem_iff]
theorem insH_rise {h:Hold}:∀ {L:List Hold},OwR L→getO h.owner L=none→OwR (insH h L)
 |[],_,_=>by simp [OwR,insH]
 |x::L,hp,hn=>by
  obtain ⟨h1,h2⟩:=List.pairwise_cons.1 hp
  rw [getO_cons] at hn
  split at hn
  ·cases hn
  rename_i hx
  unfold insH
  split
  ·rename_i hlt
   refine List.pairwise_cons.2 ⟨fun y hy=>?_,insH_rise h2 hn⟩
   rcases List.mem_cons.1 ((insH_perm h L).mem_iff.1 hy) with rfl|hy
   ·exact hlt
   ·exact h1 y hy
  ·rename_i hlt
   refine List.pairwise_cons.2 ⟨fun y hy=>?_,hp⟩
   rcases List.mem_cons.1 hy with rfl|hy
   ·omega
   ·have:=h1 y hy;omega
theorem owR_mid {A C:List Hold} {h h':Hold} (ho:h'.owner=h.owner) (hp:OwR (A++h::C)):OwR (A++h'::C):=by
 unfold OwR at *
 rw [List.pairwise_append,List.pairwise_cons] at *
 refine ⟨hp.1,⟨fun y hy=>by rw [ho];exact hp.2.1.1 y hy,hp.2.1.2⟩,fun a ha b hb=>?_⟩
 rcases List.mem_cons.1 hb with rfl|hb
 ·rw [ho];exact hp.2.2 a ha h List.mem_cons_self
 ·exact hp.2.2 a ha b (List.mem_cons_of_mem _ hb)
theorem owR_cut {A C:List Hold} {h:Hold} (hp:OwR (A++h::C)):OwR (A++C):=by
 unfold OwR at *
 rw [List.pairwise_append,List.pairwise_cons] at hp
 rw [List.pairwise_append]
 exact ⟨hp.1,hp.2.1.2,fun a ha b hb=>hp.2.2 a ha b (List.mem_cons_of_mem _ hb)⟩
def RF.sold (r:RF):List Int:=soldL r.lims.length r.L
def rtakeF (r:RF) (owner cls many:Int):RF × Int:=
 if owner<1∨owner>28629151 then (r,1) else if (getO owner r.L).isSome then (r,7)
 else if (sellT r.lims r.sold cls many).2=0 then ({ r with L:=insH ⟨owner,cls,many,[]⟩ r.L },0) else (r,(sellT r.lims r.sold cls many).2)
def rgiveF (r:RF) (owner:Int):RF × Int:=
 match getO owner r.L with
 |none=>(r,2)
 |some _=>({ r with L:=delO owner r.L },0)
def rseatF (r:RF) (owner:Int) (lab:ByteArray):RF × Int:=
 match getO owner r.L with
 |none=>(r,2)
 |some h=>if (findT r.rows r.grps lab).2≠0 then (r,2) else if (h.seats.length:Int) ≥ h.many then (r,7)
  else if (findT r.rows r.grps lab).1∈takenL r.L then (r,3)
  else ({ r with L:=setO owner (h.put (findT r.rows r.grps lab).1) r.L },0)
def rautoF (r:RF) (owner:Int):RF × List ByteArray × Int:=
 match getO owner r.L with
 |none=>(r,[],2)
 |some h=>if h.seats.length>0 then (r,[],7)
  else if (bestT r.rows r.grps (takenL r.L) h.many).2=0 then ({ r with L:=setO owner { h with seats:=(bestT r.rows r.grps (takenL r.L) h.many).1 } r.L },labsF r.rows r.grps (bestT r.rows r.grps (takenL r.L) h.many).1,0)
  else (r,[],(bestT r.rows r.grps (takenL r.L) h.many).2)
def rlabelsF (r:RF) (owner:Int):List ByteArray:=match getO owner r.L with|none=>[]|some h=>labsF r.rows r.grps h.seats
def rleftsF (r:RF):List Int:=(List.range r.lims.length).map fun (k:Nat)=>(leftT r.lims r.sold k).1
structure HoldOk (n:Nat) (N:Int) (h:Hold):Prop where
 owner:1≤h.owner∧h.owner≤28629151
 cls:0≤h.cls∧h.cls<n
 many:1≤h.many
 rise:Rise h.seats
 few:(h.seats.length:Int)≤h.many
 seats:∀ x∈h.seats,0≤x∧x<N
structure Good (r:RF):Prop where
 num:1≤r.num∧r.num≤9999
 lay:layOk r.rows r.grps=true
 nest:nestOk r.lims r.sold=true
 l0:r.lims.getD 0 0=layN r.rows r.grps
 rise:OwR r.L
 each:∀ h∈r.L,HoldOk r.lims.length (layN r.rows r.grps) h
 apart:r.L.Pairwise fun a b=>∀ x∈a.seats,x ∉ b.seats
structure Tie (f:PF) (r:RF):Prop where
 num:f.num=r.num
 rows:f.rows=r.rows
 grps:f.grps=r.grps
 lims:f.lims=r.lims
 sold:f.sold=r.sold
 hs:(f.hs.map (·.2)).Perm r.L
 key:∀ e∈f.hs,e.2.owner=e.1
 own:∀ n o,getM n f.own=some o↔∃ h∈r.L,h.owner=o∧n∈h.seats
 nod:(f.own.map (·.1)).Nodup
theorem tie_get1 {o:Int}:∀ {hs:List (Int × Hold)},(∀ e∈hs,e.2.owner=e.1)→getM o hs=getO o (hs.map (·.2))
 |[],_=>rfl
 |e::hs,h=>by
  have h1:=h e List.mem_cons_self
  have ih:=tie_get1 (o:=o) fun x hx=>h x (List.mem_cons_of_mem _ hx)
  rw [List.map_cons,getO_cons,h1,←ih]
  show (if o==e.1 then some e.2 else getM o hs)=_
  by_cases he:e.1=o
  ·rw [if_pos he,if_pos (by rw [he];exact beq_self_eq_true o)]
  ·rw [if_neg he,if_neg (by rw [beq_iff_eq];exact fun e'=>he e'.symm)]
variable {f:PF} {r:RF}
theorem Tie.ne (t:Tie f r) (g:OwR r.L):(f.hs.map (·.2)).Pairwise fun a b=>a.owner≠b.owner:=(t.hs.pairwise_iff fun h=>h.symm).2 g.ne
theorem Tie.get (t:Tie f r) (g:OwR r.L) (o:Int):getM o f.hs=getO o r.L:=by
 rw [tie_get1 t.key,getO_perm t.hs (t.ne g)]
theorem Tie.taken (t:Tie f r) (n:Int):(getM n f.own).isSome=true↔n∈takenL r.L:=by
 unfold takenL
 rw [List.mem_flatMap,Option.isSome_iff_exists]
 constructor
 ·rintro ⟨o,h⟩
  obtain ⟨x,hx,_,hn⟩:=(t.own n o).1 h
  exact ⟨x,hx,hn⟩
 ·rintro ⟨x,hx,hn⟩
  exact ⟨x.owner,(t.own n x.owner).2 ⟨x,hx,rfl,hn⟩⟩
end Go.Proofs.YtfgbbckfikiomaaGreatDoor
/- A flight: Holds. Condition: bounds on lengths. -/
namespace Go.Proofs.YtfgbbckfikiomaaGreatDoor
set_option linter.unusedVariables false
open Go Go.VC
variable {R:Cx} {Hs Rest:List HP} {w:World}
def hold0:Hold:=⟨0,0,0,[]⟩
def holdOf (f:PF) (k:Int):Hold:=(getM k f.hs).getD hold0
def holdsF (f:PF):List Hold:=(sortI (f.hs.map (·.1))).map (holdOf f)
theorem HoldsL.nil (hw:Sat R Hs w):Sat R (HoldsL ⟨none,0,0⟩ []::Hs) w:=Sat.holdsL.2 ⟨[],rfl,OwnN.nil hw⟩
theorem rowsH_snoc {L:List Hold} {ts:List Sl} (hl:ts.length=L.length) (h:Hold) (t:Sl):rowsH (L++[h]) (ts++[t])=rowsH L ts++[rowH h t]:=by
 unfold rowsH
 rw [List.zip_append hl.symm,List.map_append];rfl
theorem seatsH_snoc {L:List Hold} {ts:List Sl} (hl:ts.length=L.length) (h:Hold) (t:Sl):seatsH (L++[h]) (ts++[t])=seatsH L ts++[Reads t (intsI h.seats)]:=by
 unfold seatsH
 rw [List.zip_append hl.symm,List.map_append];rfl
theorem HoldsL.snoc {s:Sl} {L:List Hold} {ts:List Sl} {h:Hold} {t:Sl} (hl:ts.length=L.length) (hw:Sat R (OwnN 4 s 176 (rowsH L ts++[rowH h t])::Reads t (intsI h.seats)::(seatsH L ts++Hs)) w):Sat R (HoldsL s (L++[h])::Hs) w:=by
 refine Sat.holdsL.2 ⟨ts++[t],by simp [hl],?_⟩
 rw [rowsH_snoc hl,seatsH_snoc hl,List.append_assoc]
 exact hw.cons fun _ h5=>h5.perm List.perm_middle.symm
end Go.Proofs.YtfgbbckfikiomaaGreatDoor
/- A flight's bytes. Condition: bounds on lengths. -/
namespace Go.Proofs.YtfgbbckfikiomaaGreatDoor
set_option linter.unusedVariables false
open Go Go.VC
variable {R:Cx} {Hs Rest:List HP} {w:World}
theorem _root_.Go.VC.Sat.allTru {Hs:List HP}:∀ {R:Cx},Sat R Hs w→Sat R [VC.tru] w:=by
 induction Hs with
 |nil=>exact fun h=>h.tru
 |cons A Hs ih=>exact fun h=>Sat.absorb (h.cons fun _ h=>ih h)
theorem _root_.Go.VC.Sat.restTru2 {A:HP} (h:Sat R (A::Hs) w):Sat R [A,VC.tru] w:=h.cons fun _ h=>h.allTru
theorem _root_.Go.VC.MapAt.len {P:Program} {α:Type} [BEq α] [KeyK α] {m:Nat} {es:List (α × Value)} {T ty:TypeId} (hT:P.underlying T=some (.map (P.mapKeyOf T) (P.mapElemOf T))) (hw:Sat R (MapAt m es::Hs) w):
  (Builtin.len_ #[T] ty #[.map (some m)]).run P w=.ok (.int .i64 es.length) w:=by
 obtain ⟨l,c,hs,hst,hp⟩:=MapAt.iff.1 hw
 rw [run_len_map w T ty m _ c hT hp.at]
 subst hs
 simp [goInt,strip]
def listB (l:List Int):List Int:=numsB [(l.length:Int)]++numsB l
def holdB (h:Hold):List Int:=numsB [h.owner,h.cls,h.many]++listB h.seats
def holdsB (L:List Hold):List Int:=(L.map holdB).flatten
def encB (num rows:Int) (grps lims:List Int) (L:List Hold):List Int:=numsB [num,rows]++listB grps++listB lims++numsB [(L.length:Int)]++holdsB L
abbrev small (l:List Int):Prop:=∀ x∈l,0≤x∧x<9223372036854775808
theorem small_u {l:List Int} (h:small l):∀ x∈l,0≤x∧x<18446744073709551616:=fun x hx=>by have:=h x hx;omega
theorem listB_len {l:List Int} (h:small l) (hl:l.length<9223372036854775808):(listB l).length≤9 * l.length + 9:=by
 unfold listB
 have h1:=numsB_len (small_u h)
 have h2:(numsB [(l.length:Int)]).length≤9:=numsB_len (by intro y hy;simp at hy;omega)
 rw [List.length_append];omega
theorem listB_bd {l:List Int} (h:small l) (hl:l.length<9223372036854775808):∀ y∈listB l,0≤y∧y<256:=by
 unfold listB
 intro y hy
 rcases List.mem_append.1 hy with hy|hy
 ·exact numsB_bd (by intro y hy;simp at hy;omega) y hy
 ·exact numsB_bd (small_u h) y hy
structure HSmall (h:Hold):Prop where
 o:0≤h.owner∧h.owner<9223372036854775808
 c:0≤h.cls∧h.cls<9223372036854775808
 m:0≤h.many∧h.many<9223372036854775808
 s:small h.seats
 n:h.seats.length≤1000
theorem HSmall.three {h:Hold} (a:HSmall h):small [h.owner,h.cls,h.many]:=by
 intro x hx
 rcases List.mem_cons.1 hx with rfl|hx
 ·exact a.o
 rcases List.mem_cons.1 hx with rfl|hx
 ·exact a.c
 rw [List.mem_singleton.1 hx];exact a.m
theorem holdB_len {h:Hold} (a:HSmall h):(holdB h).length≤9036:=by
 unfold holdB
 have h1:(numsB [h.owner,h.cls,h.many]).length≤27:=numsB_len (small_u a.three)
 have h2:=listB_len a.s (by have:=a.n;omega)
 have:=a.n
 rw [List.length_append];omega
theorem holdB_bd {h:Hold} (a:HSmall h):∀ y∈holdB h,0≤y∧y<256:=by
 unfold holdB
 intro y hy
 rcases List.mem_append.1 hy with hy|hy
 ·exact numsB_bd (small_u a.three) y hy
 ·exact listB_bd a.s (by have:=a.n;omega) y hy
theorem holdsB_len:∀ {L:List Hold},(∀ h∈L,HSmall h)→(holdsB L).length≤9036 * L.length
 |[],_=>Nat.le_refl _
 |h::L,a=>by
  have h1:=holdB_len (a h List.mem_cons_self)
  have h2:=holdsB_len fun x hx=>a x (List.mem_cons_of_mem _ hx)
  show (holdB h++holdsB L).length≤_
  rw [List.length_append,List.length_cons];omega
theorem holdsB_bd:∀ {L:List Hold},(∀ h∈L,HSmall h)→∀ y∈holdsB L,0≤y∧y<256
 |[],_=>fun y hy=>by cases hy
 |h::L,a=>by
  intro y hy
  have hy:y∈holdB h++holdsB L:=hy
  rcases List.mem_append.1 hy with hy|hy
  ·exact holdB_bd (a h List.mem_cons_self) y hy
  ·exact holdsB_bd (fun x hx=>a x (List.mem_cons_of_mem _ hx)) y hy
end Go.Proofs.YtfgbbckfikiomaaGreatDoor
/- Reference 15's flight in memory: opened, closed; place, Sold, taken, Left, Labels. Condition: bounds. -/
namespace Go.Proofs.YtfgbbckfikiomaaGreatDoor
set_option linter.unusedVariables false
open Go Go.VC
variable {R R':Cx} {Hs Rest:List HP} {w:World}
def SeatsAt (L:List Hold) (ts:List Sl):HP:=Star (seatsH L ts)
structure RX where
 sg:Sl
 sl:Sl
 s:Sl
 ts:List Sl
def RFAt (q:Nat) (r:RF):HP:=exs fun x:RX=>
 Star [pur (x.ts.length=r.L.length),Reads x.sg (intsI r.grps),Reads x.sl (intsI r.lims),pts q (rCells r x.sg x.sl x.s),OwnN 4 x.s 176 (rowsH r.L x.ts),SeatsAt r.L x.ts]
abbrev RO (q:Nat) (r:RF) (sg sl s:Sl) (ts:List Sl) (Hs:List HP):List HP:=Reads sg (intsI r.grps)::Reads sl (intsI r.lims)::pts q (rCells r sg sl s)::OwnN 4 s 176 (rowsH r.L ts)::SeatsAt r.L ts::Hs
theorem Sat.rf {q:Nat} {r:RF}:Sat R (RFAt q r::Hs) w↔∃ sg sl s ts,ts.length=r.L.length∧Sat R (RO q r sg sl s ts Hs) w:=by
 unfold RFAt
 rw [Sat.exs]
 constructor
 ·rintro ⟨⟨sg,sl,s,ts⟩,h⟩
  obtain ⟨h1,h2⟩:=Sat.pur.1 (Sat.star.1 h)
  exact ⟨sg,sl,s,ts,h1,h2⟩
 ·rintro ⟨sg,sl,s,ts,h1,h2⟩
  exact ⟨⟨sg,sl,s,ts⟩,Sat.star.2 (Sat.pur.2 ⟨h1,h2⟩)⟩
theorem seats_out:∀ {L:List Hold} {ts:List Sl} {R:Cx},ts.length=L.length→Sat R (seatsH L ts++Hs) w→∃ R':Cx,R.Ext R'∧(∀ i (h:i<L.length) (h':i<ts.length),SlR R'.m ts[i] (intsI L[i].seats))∧Sat R' Hs w∧∀ Hs' w',Sat R' Hs' w'→Sat R (seatsH L ts++Hs') w'
 |[],_,R,_,hw=>⟨R,Cx.Ext.refl,fun i h=>by simp at h,by simpa [seatsH] using hw,fun Hs' w' h=>by simpa [seatsH] using h⟩
 |h::L,[],R,hl,_=>by simp at hl
 |h::L,t::ts,R,hl,hw=>by
  have hw:Sat R (Reads t (intsI h.seats)::(seatsH L ts++Hs)) w:=hw
  obtain ⟨R1,e1,s1,hw,b1⟩:=Reads.out hw
  obtain ⟨R2,e2,s2,hw,b2⟩:=seats_out (by simpa using hl) hw
  refine ⟨R2,e1.trans e2,fun i h h'=>?_,hw,fun Hs' w' h=>b1 _ _ (b2 _ _ h)⟩
  rcases i with _|i
  ·exact e2.slR s1
  ·exact s2 i (by simpa using h) (by simpa using h')
structure RfR (R:Cx) (r:RF) (sg sl s:Sl) (ts:List Sl):Prop where
 grps:SlR R.m sg (intsI r.grps)
 lims:SlR R.m sl (intsI r.lims)
 hs:HsR R s r.L ts
 cap:s.len≤s.cap
theorem RfR.ext {r:RF} {sg sl s:Sl} {ts:List Sl} (h:RfR R r sg sl s ts) (e:R.Ext R'):RfR R' r sg sl s ts:=
 ⟨e.slR h.grps,e.slR h.lims,⟨h.hs.len,e.roN h.hs.rows,fun i a b=>e.slR (h.hs.seats i a b)⟩,h.cap⟩
theorem RfR.len {r:RF} {sg sl s:Sl} {ts:List Sl} (h:RfR R r sg sl s ts):s.len=r.L.length:=by
 have:=h.hs.rows.len
 rwa [rowsH_len h.hs.len] at this
theorem RO.out {q:Nat} {r:RF} {sg sl s:Sl} {ts:List Sl} (hl:ts.length=r.L.length) (hw:Sat R (RO q r sg sl s ts Hs) w):∃ R',R.Ext R'∧RfR R' r sg sl s ts∧Sat R' (pts q (rCells r sg sl s)::Hs) w∧∀ Hs' w',Sat R' (pts q (rCells r sg sl s)::Hs') w'→Sat R (RO q r sg sl s ts Hs') w':=by
 obtain ⟨R1,e1,g1,hw,b1⟩:=Reads.out hw
 obtain ⟨R2,e2,g2,hw,b2⟩:=Reads.out hw
 have hw:Sat R2 (OwnN 4 s 176 (rowsH r.L ts)::SeatsAt r.L ts::pts q (rCells r sg sl s)::Hs) w:=hw.arr
 have hc:=OwnN.cap (by omega) hw
 obtain ⟨R3,g3,⟨x,hx⟩,hw,b3⟩:=OwnN.lend hw
 have e3:R2.Ext R3:=by rw [hx];exact Cx.Ext.add
 obtain ⟨R4,e4,g4,hw,b4⟩:=seats_out hl (Sat.star.1 hw)
 refine ⟨R4,e1.trans (e2.trans (e3.trans e4)),⟨e4.slR (e3.slR (e2.slR g1)),e4.slR (e3.slR g2),⟨hl,e4.roN g3,g4⟩,hc⟩,hw,fun Hs' w' h=>b1 _ _ (b2 _ _ ?_)⟩
 have h1:Sat R2 (OwnN 4 s 176 (rowsH r.L ts)::SeatsAt r.L ts::pts q (rCells r sg sl s)::Hs') w':=b3 (Sat.star.2 (b4 _ _ h))
 exact h1.arr
structure HCls (n:Nat) (h:Hold):Prop where
 c:0≤h.cls∧h.cls<n
 m:0≤h.many∧h.many≤10000
end Go.Proofs.YtfgbbckfikiomaaGreatDoor
/- A flight, plain: each step of the program's goes with the document's; what holds of a flight holds on. Condition: none. -/
namespace Go.Proofs.YtfgbbckfikiomaaGreatDoor
set_option linter.unusedVariables false
open Go Go.VC
section
variable {β:Type}
theorem getM_cons (k:Int) (e:Int × β) (l:List (Int × β)):getM k (e::l)=if k=e.1 then some e.2 else getM k l:=by
 show (if k==e.1 then some e.2 else getM k l)=_
 by_cases h:k=e.1
 ·rw [if_pos h,if_pos (beq_iff_eq.2 h)]
 ·rw [if_neg h,if_neg (fun h'=>h (beq_iff_eq.1 h'))]
theorem getM_mem {k:Int}:∀ {l:List (Int × β)},(getM k l).isSome=true↔k∈l.map (·.1)
 |[]=>by simp [getM]
 |e::l=>by
  rw [getM_cons,List.map_cons,List.mem_cons]
  split
  ·rename_i h;simp [h]
  ·rename_i h;rw [getM_mem (l:=l)];simp [h]
theorem getM_no {k:Int} {l:List (Int × β)}:getM k l=none↔k ∉ l.map (·.1):=by
 rw [←getM_mem,Option.isSome_iff_ne_none];simp
theorem getM_app2 (k:Int):∀ (a b:List (Int × β)),getM k (a++b)=if k∈a.map (·.1) then getM k a else getM k b
 |[],b=>by simp
 |e::a,b=>by
  show getM k (e::(a++b))=_
  rw [getM_cons,getM_cons,getM_app2 k a b,List.map_cons]
  by_cases h:k=e.1
  ·rw [if_pos h,if_pos (by rw [h];exact List.mem_cons_self),if_pos h]
  ·rw [if_neg h,if_neg h]
   by_cases h2:k∈a.map (·.1)
   ·rw [if_pos h2,if_pos (List.mem_cons_of_mem _ h2)]
   ·rw [if_neg h2,if_neg]
    intro h3
    rcases List.mem_cons.1 h3 with h3|h3
    ·exact h h3
    ·exact h2 h3
theorem setM_keys {k:Int} {v:β}:∀ {l:List (Int × β)},(setM k v l).map (·.1)=l.map (·.1)
 |[]=>rfl
 |e::l=>by
  show List.map _ (if k==e.1 then (e.1,v)::l else e::setM k v l)=_
  split
  ·rfl
  ·rw [List.map_cons,setM_keys];rfl
theorem getM_setM {k k':Int} {v:β}:∀ {l:List (Int × β)},(getM k l).isSome=true→getM k' (setM k v l)=if k'=k then some v else getM k' l
 |[],h=>by cases h
 |e::l,h=>by
  show getM k' (if k==e.1 then (e.1,v)::l else e::setM k v l)=_
  rw [getM_cons] at h
  by_cases h1:k=e.1
  ·rw [if_pos (beq_iff_eq.2 h1),getM_cons,getM_cons,h1]
   split<;>rfl
  ·rw [if_neg h1] at h
   rw [if_neg (fun h'=>h1 (beq_iff_eq.1 h')),getM_cons,getM_cons,getM_setM h]
   by_cases h2:k'=e.1
   ·rw [if_pos h2,if_pos h2,if_neg (fun h3=>h1 (h3.symm.trans h2))]
   ·rw [if_neg h2,if_neg h2]
theorem getM_putM (k k':Int) (v:β) (l:List (Int × β)):getM k' (putM k v l)=if k'=k then some v else getM k' l:=by
 unfold putM
 split
 ·rename_i h;exact getM_setM h
 ·rename_i h
  rw [getM_app2]
  have hk:getM k l=none:=by cases hg:getM k l with|none=>rfl|some x=>rw [hg] at h;simp at h
  by_cases h1:k'=k
  ·rw [if_pos h1,if_neg (by rw [h1];exact getM_no.1 hk),getM_cons,if_pos h1]
  ·rw [if_neg h1]
   by_cases h2:k'∈l.map (·.1)
   ·rw [if_pos h2]
   ·rw [if_neg h2,getM_cons,if_neg h1,getM_no.2 h2];rfl
theorem putM_nodup {k:Int} {v:β} {l:List (Int × β)} (h:(l.map (·.1)).Nodup):((putM k v l).map (·.1)).Nodup:=by
 unfold putM
 split
 ·rw [setM_keys];exact h
 ·rename_i hk
  rw [List.map_append,List.nodup_append]
  refine ⟨h,by simp,fun a ha b hb=>?_⟩
  rw [List.map_cons,List.map_nil,List.mem_singleton] at hb
  rintro rfl
  rw [hb] at ha
  exact hk (getM_mem.2 ha)
theorem delM_sub (k:Int):∀ l:List (Int × β),(delM k l).Sublist l
 |[]=>List.Sublist.refl _
 |e::l=>by
  show (if k==e.1 then l else e::delM k l).Sublist _
  split
  ·exact List.sublist_cons_self _ _
  ·exact (delM_sub k l).cons_cons e
theorem delM_nodup {k:Int} {l:List (Int × β)} (h:(l.map (·.1)).Nodup):((delM k l).map (·.1)).Nodup:=h.sublist ((delM_sub k l).map _)
theorem getM_delM {k k':Int}:∀ {l:List (Int × β)},(l.map (·.1)).Nodup→getM k' (delM k l)=if k'=k then none else getM k' l
 |[],_=>by simp [getM,delM]
 |e::l,h=>by
  rw [List.map_cons,List.nodup_cons] at h
  show getM k' (if k==e.1 then l else e::delM k l)=_
  by_cases h1:k=e.1
  ·rw [if_pos (beq_iff_eq.2 h1),getM_cons]
   by_cases h2:k'=k
   ·rw [if_pos h2,getM_no];rw [h2,h1];exact h.1
   ·rw [if_neg h2,if_neg (fun h3=>h2 (h3.trans h1.symm))]
  ·rw [if_neg (fun h'=>h1 (beq_iff_eq.1 h')),getM_cons,getM_cons,getM_delM h.2]
   by_cases h2:k'=e.1
   ·rw [if_pos h2,if_pos h2,if_neg (fun h3=>h1 (h3.symm.trans h2))]
   ·rw [if_neg h2,if_neg h2]
theorem delAll_get {l:List Int}:∀ {own:List (Int × Int)},(own.map (·.1)).Nodup→((delAll l own).map (·.1)).Nodup∧∀ n,getM n (delAll l own)=if n∈l then none else getM n own:=by
 induction l with
 |nil=>exact fun h=>⟨h,fun n=>by simp [delAll]⟩
 |cons x l ih=>
  intro own h
  obtain ⟨h1,h2⟩:=ih (own:=delM x own) (delM_nodup h)
  refine ⟨h1,fun n=>?_⟩
  have e:delAll (x::l) own=delAll l (delM x own):=rfl
  rw [e,h2,getM_delM h]
  by_cases hn:n∈l
  ·rw [if_pos hn,if_pos (List.mem_cons_of_mem _ hn)]
  ·rw [if_neg hn]
   by_cases hx:n=x
   ·rw [if_pos hx,if_pos (by rw [hx];exact List.mem_cons_self)]
   ·rw [if_neg hx,if_neg]
    intro h3
    rcases List.mem_cons.1 h3 with h3|h3
    ·exact hx h3
    ·exact hn h3
theorem putAll_get {o:Int} {l:List Int}:∀ {own:List (Int × Int)},(own.map (·.1)).Nodup→((putAll o l own).map (·.1)).Nodup∧∀ n,getM n (putAll o l own)=if n∈l then some o else getM n own:=by
 induction l with
 |nil=>exact fun h=>⟨h,fun n=>by simp [putAll]⟩
 |cons x l ih=>
  intro own h
  obtain ⟨h1,h2⟩:=ih (own:=putM x o own) (putM_nodup h)
  refine ⟨h1,fun n=>?_⟩
  have e:putAll o (x::l) own=putAll o l (putM x o own):=rfl
  rw [e,h2,getM_putM]
  by_cases hn:n∈l
  ·rw [if_pos hn,if_pos (List.mem_cons_of_mem _ hn)]
  ·rw [if_neg hn]
   by_cases hx:n=x
   ·rw [if_pos hx,if_pos (by rw [hx];exact List.mem_cons_self)]
   ·rw [if_neg hx,if_neg]
    intro h3
    rcases List.mem_cons.1 h3 with h3|h3
    ·exact hx h3
    ·exact hn h3
end
theorem mem_insS {n x:Int}:∀ {l:List Int},x∈insS n l↔x=n∨x∈l
 |[]=>by simp [insS]
 |y::l=>by
  unfold insS
  split
  ·rw [List.mem_cons,mem_insS,List.mem_cons]
   constructor
   ·rintro (h|h|h)
    ·exact .inr (.inl h)
    ·exact .inl h
    ·exact .inr (.inr h)
   ·rintro (h|h|h)
    ·exact .inr (.inl h)
    ·exact .inl h
    ·exact .inr (.inr h)
  ·rw [List.mem_cons]
theorem rise_iff {l:List Int}:Rise l↔l.Pairwise (·<·):=by
 rw [List.pairwise_iff_getElem]
 exact ⟨fun h i j hi hj hij=>h i j hj hij,fun h i j hj hij=>h i j (by omega) hj hij⟩
theorem insS_pw {n:Int}:∀ {l:List Int},l.Pairwise (·<·)→n ∉ l→(insS n l).Pairwise (·<·)
 |[],_,_=>by simp [insS]
 |x::l,hp,hn=>by
  obtain ⟨h1,h2⟩:=List.pairwise_cons.1 hp
  have hx:n≠x:=fun e=>hn (by rw [e];exact List.mem_cons_self)
  unfold insS
  split
  ·refine List.pairwise_cons.2 ⟨fun y hy=>?_,insS_pw h2 fun h=>hn (List.mem_cons_of_mem _ h)⟩
   rcases mem_insS.1 hy with rfl|hy
   ·assumption
   ·exact h1 y hy
  ·refine List.pairwise_cons.2 ⟨fun y hy=>?_,hp⟩
   rcases List.mem_cons.1 hy with rfl|hy
   ·omega
   ·have:=h1 y hy;omega
theorem fromN_add {sold:List Int} {c:Nat} {m:Int} (hc:c<sold.length):∀ (t k:Nat),k + t=sold.length→fromN (sold.set c (sold.getD c 0 + m)) k=fromN sold k + (if k≤c then m else 0)
 |0,k,h=>by
  rw [fromN_end (by rw [List.length_set];omega),fromN_end (by omega),if_neg (by omega)];rfl
 |t + 1,k,h=>by
  have ih:=fromN_add (m:=m) hc t (k + 1) (by omega)
  rw [fromN_step (k:=k) (by rw [List.length_set];omega),fromN_step (sold:=sold) (k:=k) (by omega),ih,List.getElem_set]
  by_cases e:c=k
  ·subst e
   rw [if_pos rfl,if_neg (by omega),if_pos (Nat.le_refl _),getD_lt hc];omega
  ·rw [if_neg e]
   by_cases h2:k≤c
   ·rw [if_pos (by omega),if_pos h2];omega
   ·rw [if_neg (by omega),if_neg h2];omega
def totL:List Hold→Int
 |[]=>0
 |h::L=>h.many + totL L
theorem soldL_nil (n:Nat):soldL n []=List.replicate n 0:=by
 apply List.ext_getElem
 ·simp [soldL]
 ·intro i h1 h2;rw [soldL_get];simp [cntL]
theorem fromN_zero (n:Nat):∀ t k:Nat,k + t=n→fromN (List.replicate n (0:Int)) k=0
 |0,k,h=>fromN_end (by rw [List.length_replicate];omega)
 |t + 1,k,h=>by rw [fromN_step (by rw [List.length_replicate];omega),fromN_zero n t (k + 1) (by omega)];simp
theorem totL_from {n:Nat}:∀ {L:List Hold},(∀ h∈L,0≤h.cls∧h.cls<n)→fromN (soldL n L) 0=totL L
 |[],_=>by rw [soldL_nil,fromN_zero n n 0 (by omega)];rfl
 |h::L,hc=>by
  have h0:=hc h List.mem_cons_self
  have ih:=totL_from fun x hx=>hc x (List.mem_cons_of_mem _ hx)
  rw [←soldL_put (List.Perm.refl (h::L)) h0.1 h0.2,fromN_add (by rw [soldL_len];omega) n 0 (by rw [soldL_len];omega),if_pos (by omega),ih]
  show _=h.many + totL L
  omega
theorem cntL_nn {k:Int}:∀ {L:List Hold},(∀ h∈L,1≤h.many)→0≤cntL k L
 |[],_=>Int.le_refl _
 |h::L,hm=>by
  have ih:=cntL_nn (k:=k) fun x hx=>hm x (List.mem_cons_of_mem _ hx)
  have h1:=hm h List.mem_cons_self
  rw [cntL_cons]
  split<;>omega
theorem nest_le {lim a b:List Int} (h:nestOk lim a=true) (hl:b.length=a.length) (hb:∀ k,k<lim.length→0≤b.getD k 0∧b.getD k 0≤a.getD k 0):nestOk lim b=true:=by
 obtain ⟨h1,h2,h3⟩:=nestOk_iff.1 h
 refine nestOk_iff.2 ⟨h1,hl.trans h2,fun k hk=>⟨⟨(hb k hk).1,Int.le_trans (hb k hk).2 (h3 k hk).1.2⟩,?_⟩⟩
 refine Int.le_trans ?_ (h3 k hk).2
 have key:∀ t k:Nat,k + t=lim.length→fromN b k≤fromN a k:=by
  intro t
  induction t with
  |zero=>intro k hk;rw [fromN_end (by omega),fromN_end (by omega)];exact Int.le_refl _
  |succ t ih=>
   intro k hk
   rw [fromN_step (sold:=b) (by omega),fromN_step (sold:=a) (by omega)]
   have e1:=ih (k + 1) (by omega)
   have e2:=(hb k (by omega)).2
   rw [getD_lt (by omega),getD_lt (by omega)] at e2
   omega
 exact key (lim.length - k) k (by omega)
theorem nest_zero {lim:List Int} (h:limOk lim=true):nestOk lim (List.replicate lim.length 0)=true:=by
 refine nestOk_iff.2 ⟨h,by simp,fun k hk=>?_⟩
 rw [fromN_zero lim.length (lim.length - k) k (by omega),List.getD_eq_getElem?_getD]
 have:=(limOk_iff.1 h).2 k hk
 rw [getD_lt hk]
 simp [hk]
 omega
theorem fromN_ge {a:List Int} (h:∀ k,k<a.length→0≤a.getD k 0):∀ t k:Nat,k + t=a.length→0≤fromN a k
 |0,k,e=>by rw [fromN_end (by omega)];exact Int.le_refl _
 |t + 1,k,e=>by
  have h1:=fromN_ge h t (k + 1) (by omega)
  have h2:=h k (by omega)
  rw [getD_lt (by omega)] at h2
  rw [fromN_step (by omega)];omega
theorem nest_sell {lim sold:List Int} {c many:Int} (h:(sellT lim sold c many).2=0):
  (sellT lim sold c many).1=sold.set c.toNat (sold.getD c.toNat 0 + many)∧nestOk lim (sellT lim sold c many).1=true∧0≤c∧c<lim.length∧1≤many:=by
 unfold sellT at h ⊢
 split at h
 ·cases h
 split at h
 ·cases h
 rename_i h1 h2
 rw [if_neg h1,if_neg h2]
 have h3:(leftT lim sold c).2=0:=Classical.byContradiction fun e=>h1 (.inl e)
 obtain ⟨hn,hc0,hc1⟩:=left_ok h3
 have hl:(leftT lim sold c).1=mnF (roomF lim sold) (c.toNat + 1):=by unfold leftT;rw [if_pos ⟨hn,hc0,hc1⟩]
 rw [hl] at h2
 obtain ⟨i1,i2,i3⟩:=nestOk_iff.1 hn
 have hm:=mnF_is (roomF lim sold) (c.toNat + 1)
 suffices key:nestOk lim (sold.set c.toNat (sold.getD c.toNat 0 + many))=true from ⟨rfl,key,hc0,hc1,by omega⟩
 refine nestOk_iff.2 ⟨i1,by rw [List.length_set];exact i2,fun k hk=>?_⟩
 have hf:=fromN_add (sold:=sold) (c:=c.toNat) (m:=many) (by omega) (lim.length - k) k (by omega)
 have hk3:=i3 k hk
 have hle:fromN (sold.set c.toNat (sold.getD c.toNat 0 + many)) k≤lim.getD k 0:=by
  rw [hf]
  split
  ·have h5:mnF (roomF lim sold) (c.toNat + 1)≤lim.getD k 0 - fromN sold k:=hm.2.1 k (by omega) (by omega)
   omega
  ·omega
 refine ⟨?_,hle⟩
 have hnn:∀ j,j<(sold.set c.toNat (sold.getD c.toNat 0 + many)).length→0≤(sold.set c.toNat (sold.getD c.toNat 0 + many)).getD j 0:=fun j hj=>by
  rw [List.length_set] at hj
  rw [getD_lt (by rw [List.length_set];exact hj),List.getElem_set]
  have hj3:=i3 j (by omega)
  rw [getD_lt hj] at hj3
  split
  ·rename_i e
   have h9:=i3 c.toNat (by omega)
   omega
  ·omega
 have h0:=hnn k (by rw [List.length_set];omega)
 refine ⟨h0,?_⟩
 have hs:=fromN_step (sold:=sold.set c.toNat (sold.getD c.toNat 0 + many)) (k:=k) (by rw [List.length_set];omega)
 have hg:=fromN_ge hnn (lim.length - (k + 1)) (k + 1) (by rw [List.length_set];omega)
 have hlk:=((limOk_iff.1 i1).2 k hk).1.2
 rw [getD_lt (by rw [List.length_set];omega)]
 rw [getD_lt hk] at hle
 omega
variable {f:PF} {r:RF}
theorem mem_taken {L:List Hold} {x:Int}:x∈takenL L↔∃ h∈L,x∈h.seats:=List.mem_flatMap
theorem tie_take (t:Tie f r) (g:Good r) (o c m:Int):(takeF f o c m).2=(rtakeF r o c m).2∧Tie (takeF f o c m).1 (rtakeF r o c m).1∧Good (rtakeF r o c m).1:=by
 unfold takeF rtakeF
 rw [t.get g.rise,t.lims,t.sold]
 split
 ·exact ⟨rfl,t,g⟩
 rename_i ho
 split
 ·exact ⟨rfl,t,g⟩
 rename_i hn
 have hno:getO o r.L=none:=by cases e:getO o r.L with|none=>rfl|some x=>rw [e] at hn;simp at hn
 split
 ·rename_i hs
  obtain ⟨e1,e2,c0,c1,hm⟩:=nest_sell hs
  have hsold:(sellT r.lims r.sold c m).1=soldL r.lims.length (insH ⟨o,c,m,[]⟩ r.L):=by
   rw [e1];exact soldL_put (h:=⟨o,c,m,[]⟩) (insH_perm _ _) c0 c1
  refine ⟨rfl,⟨t.num,t.rows,t.grps,rfl,hsold,?_,?_,?_,t.nod⟩,⟨g.num,g.lay,?_,g.l0,insH_rise g.rise hno,?_,?_⟩⟩
  ·show ((f.hs++[(o,(⟨o,c,m,[]⟩:Hold))]).map (·.2)).Perm _
   rw [List.map_append]
   refine (List.perm_append_comm.trans ?_).trans (insH_perm _ _).symm
   exact t.hs.cons _
  ·intro e he
   rcases List.mem_append.1 he with he|he
   ·exact t.key e he
   ·rw [List.mem_singleton.1 he]
  ·intro n o'
   show getM n f.own=some o'↔_
   rw [t.own]
   constructor
   ·rintro ⟨h,hh,e,hs⟩;exact ⟨h,(insH_perm _ _).mem_iff.2 (List.mem_cons_of_mem _ hh),e,hs⟩
   ·rintro ⟨h,hh,e,hs⟩
    rcases List.mem_cons.1 ((insH_perm _ _).mem_iff.1 hh) with rfl|hh
    ·cases hs
    ·exact ⟨h,hh,e,hs⟩
  ·show nestOk r.lims (soldL r.lims.length (insH ⟨o,c,m,[]⟩ r.L))=true
   rw [←hsold];exact e2
  ·intro h hh
   rcases List.mem_cons.1 ((insH_perm _ _).mem_iff.1 hh) with rfl|hh
   ·exact ⟨by dsimp only;omega,⟨c0,c1⟩,hm,fun i j hj=>by simp at hj,by simp;omega,fun x hx=>by cases hx⟩
   ·exact g.each h hh
  ·show (insH ⟨o,c,m,[]⟩ r.L).Pairwise _
   refine ((insH_perm _ _).pairwise_iff fun {a b} h x hx hx'=>h x hx' hx).2 (List.pairwise_cons.2 ⟨fun y _ x hx=>(by cases hx),g.apart⟩)
 ·exact ⟨rfl,t,g⟩
theorem soldL_mid {n:Nat} {A C:List Hold} {h h':Hold} (e1:h'.cls=h.cls) (e2:h'.many=h.many):soldL n (A++h'::C)=soldL n (A++h::C):=by
 unfold soldL
 refine List.map_congr_left fun k _=>?_
 rw [cntL_app,cntL_app]
 simp only [cntL,e1,e2]
theorem apart_mid {A C:List Hold} {h:Hold} (g:(A++h::C).Pairwise fun a b=>∀ x∈a.seats,x ∉ b.seats):(∀ y∈A++C,∀ x∈h.seats,x ∉ y.seats)∧(A++C).Pairwise fun a b=>∀ x∈a.seats,x ∉ b.seats:=by
 have p:(A++h::C).Perm (h::(A++C)):=List.perm_middle
 have:=(p.pairwise_iff fun {a b} h x hx hx'=>h x hx' hx).1 g
 exact List.pairwise_cons.1 this
theorem mem_mid {A C:List Hold} {h y:Hold} (hy:y∈A++C):y∈A++h::C:=by
 rw [List.mem_append] at hy
 rw [List.mem_append,List.mem_cons]
 rcases hy with hy|hy
 ·exact .inl hy
 ·exact .inr (.inr hy)
theorem good_set {A C:List Hold} {h h':Hold} (g:Good r) (hL:r.L=A++h::C) (e1:h'.owner=h.owner) (e2:h'.cls=h.cls) (e3:h'.many=h.many) (hr:Rise h'.seats) (hf:(h'.seats.length:Int)≤h.many)
  (hs:∀ x∈h'.seats,x∈h.seats∨(x ∉ takenL r.L∧0≤x∧x<layN r.rows r.grps)):Good { r with L:=A++h'::C }:=by
 have hh:=g.each h (by rw [hL];simp)
 have hap:=g.apart
 rw [hL] at hap
 obtain ⟨a1,a2⟩:=apart_mid hap
 refine ⟨g.num,g.lay,?_,g.l0,?_,?_,?_⟩
 ·show nestOk r.lims (soldL r.lims.length (A++h'::C))=true
  rw [soldL_mid e2 e3,←hL];exact g.nest
 ·have:=g.rise;rw [hL] at this;exact owR_mid e1 this
 ·intro x hx
  show HoldOk r.lims.length (layN r.rows r.grps) x
  have hx:x∈A++h'::C:=hx
  rw [List.mem_append,List.mem_cons] at hx
  rcases hx with hx|rfl|hx
  ·exact g.each x (by rw [hL];simp [hx])
  ·exact ⟨by rw [e1];exact hh.owner,by rw [e2];exact hh.cls,by rw [e3];exact hh.many,hr,by rw [e3];exact hf,fun y hy=>by
    rcases hs y hy with hy|hy
    ·exact hh.seats y hy
    ·exact hy.2⟩
  ·exact g.each x (by rw [hL];simp [hx])
 ·show (A++h'::C).Pairwise _
  refine ((List.perm_middle (a:=h') (l₁:=A) (l₂:=C)).pairwise_iff fun {a b} h x hx hx'=>h x hx' hx).2 (List.pairwise_cons.2 ⟨fun y hy x hx=>?_,a2⟩)
  rcases hs x hx with hx|hx
  ·exact a1 y hy x hx
  ·exact fun hxy=>hx.1 (mem_taken.2 ⟨y,by rw [hL];exact mem_mid hy,hxy⟩)
theorem tie_set {A C:List Hold} {h h':Hold} {own':List (Int × Int)} (t:Tie f r) (g:Good r) (hL:r.L=A++h::C) (hA:getO h.owner A=none) (e1:h'.owner=h.owner) (e2:h'.cls=h.cls) (e3:h'.many=h.many)
  (hs:∀ x∈h'.seats,x∈h.seats∨x ∉ takenL r.L) (hn:(own'.map (·.1)).Nodup) (ho:∀ n,getM n own'=if n∈h'.seats then some h.owner else if n∈h.seats then none else getM n f.own):
  Tie { f with hs:=setM h.owner h' f.hs,own:=own' } { r with L:=A++h'::C }:=by
 have hap:=g.apart
 rw [hL] at hap
 obtain ⟨a1,a2⟩:=apart_mid hap
 have hg:getM h.owner f.hs=some h:=by rw [t.get g.rise,hL];exact getO_app rfl hA
 obtain ⟨a,c,hsp,hna⟩:=getM_split hg
 have hset:setM h.owner h' f.hs=a++(h.owner,h')::c:=by rw [hsp];exact setM_app hna (int_rfl _)
 refine ⟨t.num,t.rows,t.grps,t.lims,?_,?_,?_,?_,hn⟩
 ·show f.sold=soldL r.lims.length (A++h'::C)
  rw [soldL_mid e2 e3,←hL];exact t.sold
 ·show ((setM h.owner h' f.hs).map (·.2)).Perm (A++h'::C)
  have p:=t.hs
  rw [hsp,hL,List.map_append,List.map_cons] at p
  rw [hset,List.map_append,List.map_cons]
  have p2:=(List.perm_middle.symm.trans p).trans List.perm_middle
  exact (List.perm_middle.trans (p2.cons_inv.cons h')).trans List.perm_middle.symm
 ·show ∀ e∈setM h.owner h' f.hs,e.2.owner=e.1
  rw [hset]
  intro e he
  rw [List.mem_append,List.mem_cons] at he
  rcases he with he|rfl|he
  ·exact t.key e (by rw [hsp];simp [he])
  ·exact e1
  ·exact t.key e (by rw [hsp];simp [he])
 ·intro n o
  show getM n own'=some o↔∃ x∈A++h'::C,x.owner=o∧n∈x.seats
  rw [ho]
  constructor
  ·intro e
   split at e
   ·rename_i hn';cases e
    exact ⟨h',by simp,e1,hn'⟩
   ·split at e
    ·cases e
    ·rename_i h1 h2
     obtain ⟨x,hx,hxo,hxn⟩:=(t.own n o).1 e
     rw [hL,List.mem_append,List.mem_cons] at hx
     rcases hx with hx|rfl|hx
     ·exact ⟨x,by simp [hx],hxo,hxn⟩
     ·exact absurd hxn h2
     ·exact ⟨x,by simp [hx],hxo,hxn⟩
  ·rintro ⟨x,hx,hxo,hxn⟩
   rw [List.mem_append,List.mem_cons] at hx
   have other:x∈A++C→(if n∈h'.seats then some h.owner else if n∈h.seats then none else getM n f.own)=some o:=fun hx=>by
    have hxL:x∈r.L:=by rw [hL];exact mem_mid hx
    have n1:n ∉ h.seats:=fun hh=>a1 x hx n hh hxn
    have n2:n ∉ h'.seats:=fun hh=>by
     rcases hs n hh with hh|hh
     ·exact n1 hh
     ·exact hh (mem_taken.2 ⟨x,hxL,hxn⟩)
    rw [if_neg n2,if_neg n1]
    exact (t.own n o).2 ⟨x,hxL,hxo,hxn⟩
   rcases hx with hx|rfl|hx
   ·exact other (by simp [hx])
   ·rw [if_pos hxn,←hxo,e1]
   ·exact other (by simp [hx])
theorem tie_seat (t:Tie f r) (g:Good r) (o:Int) (lab:ByteArray) (hf:∀ k,findT r.rows r.grps lab=(k,0)→0≤k∧k<layN r.rows r.grps):
  (seatF f o lab).2=(rseatF r o lab).2∧Tie (seatF f o lab).1 (rseatF r o lab).1∧Good (rseatF r o lab).1:=by
 unfold seatF rseatF
 rw [t.get g.rise]
 cases hg:getO o r.L with
 |none=>exact ⟨rfl,t,g⟩
 |some h=>
  obtain ⟨A,C,hL,hA,rfl⟩:=getO_split hg
  have hh:=g.each h (by rw [hL];simp)
  dsimp only
  rw [show findT f.rows f.grps lab=findT r.rows r.grps lab by rw [t.rows,t.grps]]
  split
  ·exact ⟨rfl,t,g⟩
  rename_i h2
  split
  ·exact ⟨rfl,t,g⟩
  rename_i h3
  have hfe:(findT r.rows r.grps lab).2=0:=Classical.byContradiction h2
  have hb:=hf (findT r.rows r.grps lab).1 (by rw [←hfe])
  by_cases h4:(findT r.rows r.grps lab).1∈takenL r.L
  ·rw [if_pos ((t.taken _).2 h4),if_pos h4];exact ⟨rfl,t,g⟩
  ·rw [if_neg (fun e=>h4 ((t.taken _).1 e)),if_neg h4]
   generalize (findT r.rows r.grps lab).1=n at *
   have hset:setO h.owner (h.put n) r.L=A++h.put n::C:=by rw [hL];exact setO_app rfl hA
   rw [hset]
   have hnh:n ∉ h.seats:=fun e=>h4 (mem_taken.2 ⟨h,by rw [hL];simp,e⟩)
   have hs:∀ x∈(h.put n).seats,x∈h.seats∨(x ∉ takenL r.L∧0≤x∧x<layN r.rows r.grps):=fun x hx=>by
    rcases mem_insS.1 hx with rfl|hx
    ·exact .inr ⟨h4,hb⟩
    ·exact .inl hx
   refine ⟨rfl,tie_set (h':=h.put n) t g hL hA rfl rfl rfl (fun x hx=>(hs x hx).imp id (·.1)) (putM_nodup t.nod) fun x=>?_,good_set (h':=h.put n) g hL rfl rfl rfl ?_ ?_ hs⟩
   ·rw [getM_putM]
    show _=if x∈insS n h.seats then some h.owner else _
    by_cases hx:x=n
    ·rw [if_pos hx,if_pos (mem_insS.2 (.inl hx))]
    ·rw [if_neg hx]
     by_cases hx2:x∈h.seats
     ·rw [if_pos (mem_insS.2 (.inr hx2))]
      exact (t.own x h.owner).2 ⟨h,by rw [hL];simp,rfl,hx2⟩
     ·rw [if_neg (fun e=>(mem_insS.1 e).elim hx hx2),if_neg hx2]
   ·exact rise_iff.2 (insS_pw (rise_iff.1 hh.rise) hnh)
   ·show ((insS n h.seats).length:Int)≤_
    rw [insS_len];omega
theorem tie_give (t:Tie f r) (g:Good r) (o:Int):(giveF f o).2=(rgiveF r o).2∧Tie (giveF f o).1 (rgiveF r o).1∧Good (rgiveF r o).1:=by
 unfold giveF rgiveF
 rw [t.get g.rise]
 cases hg:getO o r.L with
 |none=>exact ⟨rfl,t,g⟩
 |some h=>
  obtain ⟨A,C,hL,hA,rfl⟩:=getO_split hg
  have hh:=g.each h (by rw [hL];simp)
  have hmany:∀ x∈r.L,1≤x.many:=fun x hx=>(g.each x hx).many
  have hap:=g.apart
  rw [hL] at hap
  obtain ⟨a1,a2⟩:=apart_mid hap
  dsimp only
  have hdel:delO h.owner r.L=A++C:=by rw [hL];exact delO_app rfl hA
  rw [hdel]
  have p:r.L.Perm (h::(A++C)):=by rw [hL];exact List.perm_middle
  have hout:r.sold.set h.cls.toNat (r.sold.getD h.cls.toNat 0 - h.many)=soldL r.lims.length (A++C):=soldL_out p hh.cls.1 hh.cls.2
  have hle:h.many≤r.sold.getD h.cls.toNat 0:=by
   show _≤(soldL r.lims.length r.L).getD _ 0
   have hcl:=hh.cls
   rw [soldL_getD (by omega),cntL_perm p,show ((h.cls.toNat:Nat):Int)=h.cls by omega]
   have:=cntL_nn (k:=h.cls) (L:=A++C) fun x hx=>hmany x (by rw [hL];exact mem_mid hx)
   show h.many≤(if h.cls=h.cls then h.many else 0) + _
   rw [if_pos rfl];omega
  have hback:backT f.lims f.sold h.cls h.many=(soldL r.lims.length (A++C),0):=by
   rw [t.lims,t.sold]
   unfold backT
   have hl:(leftT r.lims r.sold h.cls).2=0:=by unfold leftT;rw [if_pos ⟨g.nest,hh.cls.1,hh.cls.2⟩]
   rw [if_neg (by rw [hl];have:=hh.many;omega),hout]
  rw [hback]
  have hg2:getM h.owner f.hs=some h:=by rw [t.get g.rise];exact hg
  obtain ⟨a,c,hsp,hna⟩:=getM_split hg2
  have hdm:delM h.owner f.hs=a++c:=by rw [hsp];exact delM_app hna (int_rfl _)
  obtain ⟨d1,d2⟩:=delAll_get (l:=h.seats) t.nod
  refine ⟨rfl,⟨t.num,t.rows,t.grps,t.lims,rfl,?_,?_,?_,d1⟩,⟨g.num,g.lay,?_,g.l0,?_,?_,a2⟩⟩
  ·show ((delM h.owner f.hs).map (·.2)).Perm (A++C)
   have p:=t.hs
   rw [hsp,hL,List.map_append,List.map_cons] at p
   rw [hdm,List.map_append]
   exact ((List.perm_middle.symm.trans p).trans List.perm_middle).cons_inv
  ·show ∀ e∈delM h.owner f.hs,e.2.owner=e.1
   intro e he
   exact t.key e ((delM_sub _ _).subset he)
  ·intro n o'
   show getM n (delAll h.seats f.own)=some o'↔∃ x∈A++C,x.owner=o'∧n∈x.seats
   rw [d2]
   constructor
   ·intro e
    split at e
    ·cases e
    ·rename_i hn
     obtain ⟨x,hx,hxo,hxn⟩:=(t.own n o').1 e
     rcases List.mem_cons.1 (p.mem_iff.1 hx) with rfl|hx
     ·exact absurd hxn hn
     ·exact ⟨x,hx,hxo,hxn⟩
   ·rintro ⟨x,hx,hxo,hxn⟩
    rw [if_neg (fun hh=>a1 x hx n hh hxn)]
    exact (t.own n o').2 ⟨x,p.mem_iff.2 (List.mem_cons_of_mem _ hx),hxo,hxn⟩
  ·refine nest_le g.nest (by show (soldL _ _).length=(soldL _ _).length;rw [soldL_len,soldL_len]) fun k hk=>?_
   show 0≤(soldL r.lims.length (A++C)).getD k 0∧(soldL r.lims.length (A++C)).getD k 0≤(soldL r.lims.length r.L).getD k 0
   have hk:k<r.lims.length:=hk
   rw [soldL_getD hk,soldL_getD hk,cntL_perm p]
   refine ⟨cntL_nn fun x hx=>hmany x (p.mem_iff.2 (List.mem_cons_of_mem _ hx)),?_⟩
   rw [cntL_cons]
   have:=hh.many
   split<;>omega
  ·have:=g.rise;rw [hL] at this;exact owR_cut this
  ·intro x hx
   exact g.each x (p.mem_iff.2 (List.mem_cons_of_mem _ hx))
end Go.Proofs.YtfgbbckfikiomaaGreatDoor
/- A flight, plain: Auto; its state. Condition: none. -/
namespace Go.Proofs.YtfgbbckfikiomaaGreatDoor
set_option linter.unusedVariables false
open Go Go.VC
theorem free_one {u u':Nat→Bool} {x:Int} (h:∀ j:Nat,u' j=true→u j=true∨(j:Int)=x):∀ N:Nat,(freeL u N).length≤(freeL u' N).length + (if x<N∧0≤x then 1 else 0)
 |0=>by simp [freeL]
 |N + 1=>by
  have ih:=free_one h N
  rw [free_step,free_step]
  by_cases e:u N=true
  ·rw [if_pos e]
   split at ih<;>split<;>split<;>omega
  ·rw [if_neg e]
   by_cases e2:u' N=true
   ·rw [if_pos e2]
    have e3:(N:Int)=x:=(h N e2).resolve_left e
    rw [if_neg (by omega)] at ih
    rw [if_pos (by omega)]
    omega
   ·rw [if_neg e2]
    split at ih<;>split<;>omega
theorem free_cnt:∀ (T:List Int) (N:Nat),N≤(freeL (usedF T) N).length + T.length
 |[],N=>by
  have key:∀ N:Nat,(freeL (usedF []) N).length=N:=fun N=>by
   induction N with
   |zero=>rfl
   |succ N ih=>rw [free_step,ih];simp [usedF]
  rw [key];omega
 |x::T,N=>by
  have ih:=free_cnt T N
  have h1:=free_one (u:=usedF T) (u':=usedF (x::T)) (x:=x) (fun j hj=>by
   unfold usedF at hj ⊢
   rw [decide_eq_true_eq] at hj ⊢
   rcases List.mem_cons.1 hj with h|h
   ·exact .inr h
   ·exact .inl h) N
  rw [List.length_cons]
  split at h1<;>omega
theorem best_in {n:Int} {g taken:List Int} {many:Int}:∀ x∈(bestT n g taken many).1,(0≤x∧x<layN n g)∧x ∉ taken:=by
 intro x hx
 have hb:=layN_bd n g
 have nat:∀ j:Nat,j<(layN n g).toNat→usedF taken j=false→(0≤(j:Int)∧(j:Int)<layN n g)∧(j:Int) ∉ taken:=fun j h1 h2=>by
  refine ⟨by omega,?_⟩
  unfold usedF at h2
  exact of_decide_eq_false h2
 unfold bestT at hx
 split at hx
 ·cases hx
 rename_i hm
 obtain ⟨j,hj,rfl⟩:=List.mem_map.1 hx
 unfold bestF at hj
 split at hj
 ·rename_i i hfi
  have h1:=List.find?_some hfi
  have h2:=List.mem_range.1 (List.mem_of_find?_eq_some hfi)
  have h3:many.toNat≤runL (usedF taken) (zF g) (i + 1):=by rw [beq_iff_eq.1 h1];exact Nat.le_refl _
  obtain ⟨h4,h5⟩:=runL_ge.1 h3
  unfold upTo at hj
  obtain ⟨t,ht,rfl⟩:=List.mem_map.1 hj
  have ht:=List.mem_range.1 ht
  exact nat _ (by omega) (h5 _ (by omega) (by omega)).1
 ·split at hj
  ·cases hj
  ·obtain ⟨i,hi⟩:=List.getElem?_of_mem (List.mem_of_mem_take hj)
   obtain ⟨h1,h2,_⟩:=free_of hi
   exact nat j h1 h2
theorem best_cnt {n:Int} {g taken:List Int} {many:Int} (h:(bestT n g taken many).2=0):((bestT n g taken many).1.length:Int)=many:=by
 unfold bestT at h ⊢
 split at h
 ·cases h
 rename_i hm
 rw [if_neg hm]
 rw [List.length_map]
 dsimp only at h
 unfold bestF at h ⊢
 generalize (List.range (layN n g).toNat).find? (fun j=>runL (usedF taken) (zF g) (j + 1)==many.toNat)=o at h ⊢
 cases o with
 |some i=>
  dsimp only
  rw [upTo_len];omega
 |none=>
  dsimp only at h ⊢
  split at h
  ·cases h
  ·rename_i h2
   rw [if_neg h2,List.length_take];omega
theorem best_ok {n:Int} {g taken:List Int} {many:Int} (h1:1≤many) (h2:many + taken.length≤layN n g):(bestT n g taken many).2=0:=by
 have hb:=layN_bd n g
 unfold bestT
 rw [if_neg (by omega)]
 dsimp only
 unfold bestF
 split
 ·rfl
 ·rw [if_neg]
  have:=free_cnt taken (layN n g).toNat
  omega
theorem bestT_mem {n:Int} {g a b:List Int} {many:Int} (h:∀ x,x∈a↔x∈b):bestT n g a many=bestT n g b many:=by
 have:usedF a=usedF b:=by
  funext j
  unfold usedF
  rw [decide_eq_decide]
  exact h _
 unfold bestT
 rw [this]
variable {f:PF} {r:RF}
theorem taken_len:∀ {L:List Hold},(∀ h∈L,(h.seats.length:Int)≤h.many)→((takenL L).length:Int)≤totL L
 |[],_=>Int.le_refl _
 |h::L,hf=>by
  have ih:=taken_len fun x hx=>hf x (List.mem_cons_of_mem _ hx)
  have h1:=hf h List.mem_cons_self
  show ((h.seats++takenL L).length:Int)≤h.many + totL L
  rw [List.length_append];omega
theorem totL_perm {A B:List Hold} (h:A.Perm B):totL A=totL B:=by
 induction h with
 |nil=>rfl
 |cons x _ ih=>simp only [totL,ih]
 |swap x y l=>simp only [totL];exact Int.add_left_comm _ _ _
 |trans _ _ a b=>exact a.trans b
theorem Good.tot (g:Good r):totL r.L≤layN r.rows r.grps:=by
 rw [←totL_from (n:=r.lims.length) fun h hh=>(g.each h hh).cls,←g.l0]
 have hl:=(limOk_iff.1 (nestOk_iff.1 g.nest).1).1.1
 exact ((nestOk_iff.1 g.nest).2.2 0 (by omega)).2
theorem len_tot:∀ {L:List Hold},(∀ h∈L,1≤h.many)→(L.length:Int)≤totL L∧∀ h∈L,h.many≤totL L
 |[],_=>⟨Int.le_refl _,by simp⟩
 |h::L,hm=>by
  obtain ⟨i1,i2⟩:=len_tot fun x hx=>hm x (List.mem_cons_of_mem _ hx)
  have h1:=hm h List.mem_cons_self
  have e:totL (h::L)=h.many + totL L:=rfl
  rw [e,List.length_cons]
  refine ⟨by omega,fun x hx=>?_⟩
  rcases List.mem_cons.1 hx with rfl|hx
  ·omega
  ·have:=i2 x hx;omega
theorem Good.len (g:Good r):(r.L.length:Int)≤600∧∀ h∈r.L,h.many≤600:=by
 obtain ⟨h1,h2⟩:=len_tot fun h hh=>(g.each h hh).many
 have h3:=g.tot
 have h4:=(layN_bd r.rows r.grps).2
 exact ⟨by omega,fun h hh=>by have:=h2 h hh;omega⟩
theorem Good.best (g:Good r) {A C:List Hold} {h:Hold} (hL:r.L=A++h::C) (hs:h.seats=[]):(bestT r.rows r.grps (takenL r.L) h.many).2=0:=by
 have hh:=g.each h (by rw [hL];simp)
 refine best_ok hh.many ?_
 have h1:=g.tot
 have p:r.L.Perm (h::(A++C)):=by rw [hL];exact List.perm_middle
 rw [totL_perm p] at h1
 have e1:totL (h::(A++C))=h.many + totL (A++C):=rfl
 have e2:(takenL r.L).length=(takenL (A++C)).length:=by
  rw [hL]
  unfold takenL
  rw [List.flatMap_append,List.flatMap_cons,hs,List.nil_append,←List.flatMap_append]
 have e3:=taken_len (L:=A++C) fun x hx=>(g.each x (by rw [hL];exact mem_mid hx)).few
 omega
theorem tie_auto (t:Tie f r) (g:Good r) (o:Int):
  (autoF f o).2=(rautoF r o).2∧Tie (autoF f o).1 (rautoF r o).1∧Good (rautoF r o).1∧((rautoF r o).2.2=0∨(rautoF r o).2.2=2∨(rautoF r o).2.2=7):=by
 unfold autoF rautoF
 rw [t.get g.rise]
 cases hg:getO o r.L with
 |none=>exact ⟨rfl,t,g,.inr (.inl rfl)⟩
 |some h=>
  obtain ⟨A,C,hL,hA,rfl⟩:=getO_split hg
  have hh:=g.each h (by rw [hL];simp)
  dsimp only
  split
  ·exact ⟨rfl,t,g,.inr (.inr rfl)⟩
  rename_i hs
  have hs:h.seats=[]:=List.length_eq_zero_iff.1 (by omega)
  have e:bestT f.rows f.grps (f.own.map (·.1)) h.many=bestT r.rows r.grps (takenL r.L) h.many:=by
   rw [t.rows,t.grps]
   exact bestT_mem fun x=>by rw [←t.taken,getM_mem]
  have hb:=g.best hL hs
  have hin:=best_in (n:=r.rows) (g:=r.grps) (taken:=takenL r.L) (many:=h.many)
  have hri:=best_rise (n:=r.rows) (g:=r.grps) (taken:=takenL r.L) (many:=h.many)
  have hct:=best_cnt hb
  rw [if_pos hb,e,show labsF f.rows f.grps=labsF r.rows r.grps by rw [t.rows,t.grps]]
  have hset:setO h.owner { h with seats:=(bestT r.rows r.grps (takenL r.L) h.many).1 } r.L=A++{ h with seats:=(bestT r.rows r.grps (takenL r.L) h.many).1 }::C:=by rw [hL];exact setO_app rfl hA
  rw [hset,hb]
  generalize (bestT r.rows r.grps (takenL r.L) h.many).1=l at *
  obtain ⟨p1,p2⟩:=putAll_get (o:=h.owner) (l:=l) t.nod
  refine ⟨rfl,tie_set (h':={ h with seats:=l }) t g hL hA rfl rfl rfl (fun x hx=>.inr (hin x hx).2) p1 fun x=>?_,good_set (h':={ h with seats:=l }) g hL rfl rfl rfl hri ?_ fun x hx=>.inr ⟨(hin x hx).2,(hin x hx).1⟩,.inl rfl⟩
  ·rw [p2,hs]
   rw [if_neg (by simp:¬ x∈([]:List Int))]
  ·show (l.length:Int)≤h.many
   omega
theorem tie_left (t:Tie f r):leftsF f=rleftsF r:=by
 unfold leftsF rleftsF
 rw [t.lims,t.sold]
theorem tie_labels (t:Tie f r) (g:OwR r.L) (o:Int):labelsF f o=rlabelsF r o:=by
 unfold labelsF rlabelsF
 rw [t.get g,t.rows,t.grps]
 try (cases getO o r.L<;>rfl)
theorem Tie.mem (t:Tie f r) {e:Int × Hold} (he:e∈f.hs):e.2∈r.L:=t.hs.mem_iff.1 (List.mem_map.2 ⟨e,he,rfl⟩)
theorem Tie.ownIn (t:Tie f r) (g:Good r):∀ k∈f.own.map (·.1),0≤k∧k<layN r.rows r.grps:=fun k hk=>by
 obtain ⟨o,ho⟩:=Option.isSome_iff_exists.1 (getM_mem.2 hk)
 obtain ⟨h,hh,_,hs⟩:=(t.own k o).1 ho
 exact (g.each h hh).seats k hs
theorem nodup_bd:∀ (N:Nat) {l:List Int},l.Nodup→(∀ x∈l,0≤x∧x<N)→l.length≤N
 |0,[],_,_=>Nat.le_refl _
 |0,x::l,_,hb=>by have:=hb x List.mem_cons_self;omega
 |N + 1,l,h,hb=>by
  by_cases hm:(N:Int)∈l
  ·have h1:=nodup_bd N (h.erase (N:Int)) fun x hx=>by
    have h2:=(h.mem_erase_iff).1 hx
    have:=hb x h2.2
    have:=h2.1
    omega
   rw [List.length_erase_of_mem hm] at h1
   omega
  ·have h1:=nodup_bd N h fun x hx=>by
    have:=hb x hx
    have:x≠N:=fun e=>hm (by rw [←e];exact hx)
    omega
   omega
theorem Tie.bounds (t:Tie f r) (g:Good r):f.hs.length≤600∧f.own.length≤600∧f.lims.length≤8∧f.sold.length≤8∧f.grps.length≤4∧(∀ e∈f.hs,Rise e.2.seats∧e.2.seats.length≤600)∧(∀ k∈f.hs.map (·.1),1≤k∧k≤28629151):=by
 have hl:=g.len
 have h1:=t.hs.length_eq
 rw [List.length_map] at h1
 have h2:=nodup_bd (layN r.rows r.grps).toNat t.nod fun x hx=>by have:=t.ownIn g x hx;omega
 rw [List.length_map] at h2
 have h3:=layN_bd r.rows r.grps
 have h4:=(limOk_iff.1 (nestOk_iff.1 g.nest).1).1.2
 have h5:=(layOk_iff.1 g.lay).1
 refine ⟨by omega,by omega,by rw [t.lims];exact h4,by rw [t.sold];show (soldL _ _).length≤8;rw [soldL_len];exact h4,by rw [t.grps];omega,fun e he=>?_,fun k hk=>?_⟩
 ·have hh:=g.each _ (t.mem he)
  have:=hl.2 _ (t.mem he)
  exact ⟨hh.rise,by have:=hh.few;omega⟩
 ·obtain ⟨e,he,rfl⟩:=List.mem_map.1 hk
  have hh:=g.each _ (t.mem he)
  have:=hh.owner
  rw [t.key e he] at this;exact this
def rnewF (num rows:Int) (grps lims:List Int):RF:=⟨num,rows,grps,lims,[]⟩
theorem good_new {num rows:Int} {grps:List Int} {parts:List Nat} (h:newOk num rows grps parts):Good (rnewF num rows grps (limitsT (layN rows grps) parts).1):=by
 obtain ⟨h1,h2,h3,h4⟩:=h
 obtain ⟨l1,l2⟩:=limits_ok h4
 refine ⟨⟨h1,h2⟩,h3,?_,l2,List.Pairwise.nil,fun h hh=>(by cases hh),List.Pairwise.nil⟩
 show nestOk _ (soldL _ [])=true
 rw [soldL_nil];exact nest_zero l1
theorem tie_new {num rows:Int} {grps lims:List Int}:Tie (emptyF num rows grps lims) (rnewF num rows grps lims):=by
 refine ⟨rfl,rfl,rfl,rfl,?_,List.Perm.refl _,fun e he=>(by cases he),fun n o=>?_,List.nodup_nil⟩
 ·show List.replicate _ 0=soldL _ []
  rw [soldL_nil];rfl
 ·constructor
  ·intro h;cases h
  ·rintro ⟨h,hh,_⟩;cases hh
end Go.Proofs.YtfgbbckfikiomaaGreatDoor
/- Reference 15: New, Take, Give, Seat, Unseat, Auto. Condition: bounds. -/
namespace Go.Proofs.YtfgbbckfikiomaaGreatDoor
set_option linter.unusedVariables false
open Go Go.VC
variable {R R':Cx} {Hs Rest:List HP} {w:World}
section
variable {γ:Type} (f:Hold × Sl→γ)
theorem zipm_ins (h:Hold) (t:Sl):∀ (k:Nat) (L:List Hold) (ts:List Sl),ts.length=L.length→k≤L.length→((L.take k++h::L.drop k).zip (ts.take k++t::ts.drop k)).map f=((L.zip ts).map f).take k++f (h,t)::((L.zip ts).map f).drop k
 |0,L,ts,_,_=>by simp
 |k + 1,[],ts,_,hk=>by simp at hk
 |k + 1,x::L,[],hl,_=>by simp at hl
 |k + 1,x::L,y::ts,hl,hk=>by
  have ih:=zipm_ins h t k L ts (by simpa using hl) (by simpa using hk)
  simp only [List.take_succ_cons,List.drop_succ_cons,List.cons_append,List.zip_cons_cons,List.map_cons,ih]
theorem zipm_del:∀ (k:Nat) (L:List Hold) (ts:List Sl),ts.length=L.length→k<L.length→((L.take k++L.drop (k + 1)).zip (ts.take k++ts.drop (k + 1))).map f=((L.zip ts).map f).take k++((L.zip ts).map f).drop (k + 1)
 |k,[],ts,_,hk=>by simp at hk
 |k,x::L,[],hl,_=>by simp at hl
 |0,x::L,y::ts,_,_=>by simp
 |k + 1,x::L,y::ts,hl,hk=>by
  have ih:=zipm_del k L ts (by simpa using hl) (by simpa using hk)
  simp only [List.take_succ_cons,List.drop_succ_cons,List.cons_append,List.zip_cons_cons,List.map_cons,ih]
theorem zipm_set (h:Hold) (t:Sl):∀ (k:Nat) (L:List Hold) (ts:List Sl),((L.set k h).zip (ts.set k t))=(L.zip ts).set k (h,t)
 |k,[],ts=>by simp
 |k,x::L,[]=>by simp
 |0,x::L,y::ts=>by simp
 |k + 1,x::L,y::ts=>by
  have ih:=zipm_set h t k L ts
  simp only [List.set_cons_succ,List.zip_cons_cons,ih]
end
theorem SeatsAt.ins {L:List Hold} {ts:List Sl} {k:Nat} {h:Hold} {t:Sl} (hl:ts.length=L.length) (hk:k≤L.length) (hw:Sat R (Reads t (intsI h.seats)::SeatsAt L ts::Hs) w):Sat R (SeatsAt (L.take k++h::L.drop k) (ts.take k++t::ts.drop k)::Hs) w:=by
 refine Sat.star.2 ?_
 rw [show seatsH (L.take k++h::L.drop k) (ts.take k++t::ts.drop k)=(seatsH L ts).take k++Reads t (intsI h.seats)::(seatsH L ts).drop k from zipm_ins (fun x=>Reads x.2 (intsI x.1.seats)) h t k L ts hl hk]
 have hw:Sat R (Reads t (intsI h.seats)::(seatsH L ts++Hs)) w:=hw.cons fun _ h=>Sat.star.1 h
 refine hw.perm ?_
 rw [List.append_assoc,List.cons_append]
 refine (List.Perm.trans ?_ List.perm_middle.symm)
 rw [←List.append_assoc,List.take_append_drop]
theorem SeatsAt.pick {L:List Hold} {ts:List Sl} {k:Nat} (hk:k<L.length) (hk':k<ts.length) (hw:Sat R (SeatsAt L ts::Hs) w):Sat R (Reads ts[k] (intsI L[k].seats)::((seatsH L ts).take k++(seatsH L ts).drop (k + 1)++Hs)) w:=by
 have hw:=Sat.star.1 hw
 have hlt:k<(seatsH L ts).length:=by simp [seatsH];omega
 have e:seatsH L ts=(seatsH L ts).take k++Reads ts[k] (intsI L[k].seats)::(seatsH L ts).drop (k + 1):=by
  have h1:(seatsH L ts)[k]=Reads ts[k] (intsI L[k].seats):=by simp [seatsH]
  rw [←h1,←List.drop_eq_getElem_cons hlt,List.take_append_drop]
 rw [e,List.append_assoc,List.cons_append] at hw
 rw [List.append_assoc]
 exact hw.perm List.perm_middle
theorem SeatsAt.del {L:List Hold} {ts:List Sl} {k:Nat} (hl:ts.length=L.length) (hk:k<L.length) (hw:Sat R (SeatsAt L ts::Hs) w):Sat R (SeatsAt (L.take k++L.drop (k + 1)) (ts.take k++ts.drop (k + 1))::Hs) w:=by
 have hw:=(SeatsAt.pick hk (by omega) hw).drop
 refine Sat.star.2 ?_
 rw [show seatsH (L.take k++L.drop (k + 1)) (ts.take k++ts.drop (k + 1))=(seatsH L ts).take k++(seatsH L ts).drop (k + 1) from zipm_del (fun x=>Reads x.2 (intsI x.1.seats)) k L ts hl hk]
 exact hw
theorem SeatsAt.set {L:List Hold} {ts:List Sl} {k:Nat} {h:Hold} {t:Sl} (hl:ts.length=L.length) (hk:k<L.length) (hw:Sat R (Reads t (intsI h.seats)::SeatsAt L ts::Hs) w):Sat R (SeatsAt (L.set k h) (ts.set k t)::Hs) w:=by
 have hw:Sat R (Reads t (intsI h.seats)::((seatsH L ts).take k++(seatsH L ts).drop (k + 1)++Hs)) w:=hw.cons fun _ h5=>(SeatsAt.pick hk (by omega) h5).drop
 refine Sat.star.2 ?_
 have hlt:k<(seatsH L ts).length:=by simp [seatsH];omega
 rw [show seatsH (L.set k h) (ts.set k t)=(seatsH L ts).take k++Reads t (intsI h.seats)::(seatsH L ts).drop (k + 1) by
  unfold seatsH at hlt ⊢
  rw [zipm_set,List.map_set,List.set_eq_take_append_cons_drop,if_pos hlt]]
 refine hw.perm ?_
 rw [List.append_assoc,List.append_assoc,List.cons_append]
 exact List.perm_middle.symm
theorem RfR.row {A C:List Hold} {hd:Hold} {r:RF} {sg sl s:Sl} {ts:List Sl} (h:RfR R r sg sl s ts) (hL:r.L=A++hd::C):∃ (t:Sl) (ht:A.length<ts.length),ts[A.length]=t∧SlR R.m t (intsI hd.seats)∧
  ∀ {S:World→Prop} {Hs:List HP} {i:Nat} {v:Value},(∀ w,S w→Sat R Hs w)→(rowH hd t)[i]? =some v→∀ {F:Addr→Prop},(∀ a:Addr,a.spot=none→At S ⟨(a.add (mulS A.length 4)).block,(a.add (mulS A.length 4)).off + i,none⟩ [v]→F a)→Rng (A.length:Int) s.len (NilP s.a F):=by
 have hl:=h.hs.len
 have i1:A.length<r.L.length:=by rw [hL];simp
 have i2:A.length<ts.length:=by omega
 have hgi:r.L[A.length]=hd:=by simp [hL]
 have hsd:=h.hs.seats A.length i1 i2
 rw [hgi] at hsd
 exact ⟨_,i2,rfl,hsd,fun {S Hs i v} hS hv {F} f=>h.hs.fld hS i1 i2 (by rw [hgi];exact hv) f⟩
end Go.Proofs.YtfgbbckfikiomaaGreatDoor
/- A flight: Encode. Condition: bounds on lengths. -/
namespace Go.Proofs.YtfgbbckfikiomaaGreatDoor
set_option linter.unusedVariables false
open Go Go.VC
variable {R:Cx} {Hs Rest:List HP} {w:World}
theorem HsR.row {s:Sl} {L:List Hold} {ts:List Sl} {S:World→Prop} {k:Nat} (hr:HsR R s L ts) (hS:∀ w,S w→Sat R Hs w) (hk:k<L.length) (hk':k<ts.length) {F:Addr→Prop}
  (f:∀ a:Addr,At S (Addr.add a (mulS k 4)) (rowH L[k] ts[k])→F a):Rng (k:Int) s.len (NilP s.a F):=by
 have hl:=rowsH_len hr.len
 refine (hr.rows.reads hS).rng (k:=k) (by omega) fun b off ha hat=>f _ ?_
 rw [elt_addr0]
 refine hat 0 _ ?_
 rw [rowsH_at hk hk']
 exact ⟨rfl,rfl,rfl,rfl,trivial⟩
structure FSmall (f:PF):Prop where
 num:0≤f.num∧f.num<9223372036854775808
 rows:0≤f.rows∧f.rows<9223372036854775808
 grps:small f.grps
 lims:small f.lims
 gl:f.grps.length≤1000
 ll:f.lims.length≤1000
 hs:∀ h∈holdsF f,HSmall h
 hl:f.hs.length≤10000
end Go.Proofs.YtfgbbckfikiomaaGreatDoor
/- A flight out of bytes: reading numbers and lists; a hold put in again. Condition: bounds on lengths. -/
namespace Go.Proofs.YtfgbbckfikiomaaGreatDoor
set_option linter.unusedVariables false
open Go Go.VC
variable {R:Cx} {Hs Rest:List HP} {w:World}
def nMany:Nat→Int→Rd→List Int × Rd
 |0,_,r=>([],r)
 |k + 1,most,r=>((rdNum most r).1::(nMany k most (rdNum most r).2).1,(nMany k most (rdNum most r).2).2)
theorem nMany_len:∀ (k:Nat) (most:Int) (r:Rd),(nMany k most r).1.length=k
 |0,_,_=>rfl
 |k + 1,most,r=>by show (_::(nMany k most (rdNum most r).2).1).length=_;rw [List.length_cons,nMany_len k]
theorem nMany_bd:∀ (k:Nat) (most:Int) {r:Rd},(∀ x∈r.bs,0≤x∧x<256)→∀ x∈(nMany k most r).2.bs,0≤x∧x<256
 |0,_,_,h=>h
 |k + 1,most,_,h=>nMany_bd k most (rdNum_bd h)
theorem nMany_val:∀ (k:Nat) {most:Int} {r:Rd},0≤most→(∀ x∈r.bs,0≤x∧x<256)→∀ x∈(nMany k most r).1,0≤x∧x≤most
 |0,_,_,_,_=>by simp [nMany]
 |k + 1,most,r,hm,h=>fun x hx=>by
  rcases List.mem_cons.1 hx with rfl|hx
  ·exact rdNum_val h hm
  ·exact nMany_val k hm (rdNum_bd h) x hx
def nList (most each:Int) (r:Rd):List Int × Rd:=nMany (rdNum most r).1.toNat each (rdNum most r).2
theorem nList_bd {most each:Int} {r:Rd} (h:∀ x∈r.bs,0≤x∧x<256):∀ x∈(nList most each r).2.bs,0≤x∧x<256:=nMany_bd _ _ (rdNum_bd h)
theorem nList_val {most each:Int} {r:Rd} (h:∀ x∈r.bs,0≤x∧x<256) (hm:0≤most) (he:0≤each):(∀ x∈(nList most each r).1,0≤x∧x≤each)∧((nList most each r).1.length:Int)≤most:=by
 refine ⟨nMany_val _ he (rdNum_bd h),?_⟩
 unfold nList
 rw [nMany_len]
 have:=rdNum_val h hm
 omega
def tellF (f:PF) (o n:Int):PF:=
 match getM o f.hs with
 |none=>f
 |some h=>{ f with hs:=setM o (h.put n) f.hs,own:=putM n h.owner f.own }
def resGo (o N:Int):List Int→Int→PF→PF × Bool
 |[],_,f=>(f,true)
 |n::l,last,f=>if (getM n f.own).isSome then (f,false) else if n≤last then (f,false) else if n ≥ N then (f,false) else resGo o N l n (tellF f o n)
theorem resGo_cons (o N n last:Int) (l:List Int) (f:PF):resGo o N (n::l) last f=if (getM n f.own).isSome then (f,false) else if n≤last then (f,false) else if n ≥ N then (f,false) else resGo o N l n (tellF f o n):=rfl
def restoreF (f:PF) (h:Hold):PF × Bool:=
 if (takeF f h.owner h.cls h.many).2≠0 then ((takeF f h.owner h.cls h.many).1,false)
 else if (h.seats.length:Int)>h.many then ((takeF f h.owner h.cls h.many).1,false)
 else resGo h.owner (layN f.rows f.grps) h.seats (-1) (takeF f h.owner h.cls h.many).1
end Go.Proofs.YtfgbbckfikiomaaGreatDoor
/- A flight: Decode. Condition: bounds on lengths. -/
namespace Go.Proofs.YtfgbbckfikiomaaGreatDoor
set_option linter.unusedVariables false
open Go Go.VC
variable {R:Cx} {Hs Rest:List HP} {w:World}
def readH (rd:Rd):Hold × Rd:=
 (⟨(rdNum 28629151 rd).1,(rdNum 8 (rdNum 28629151 rd).2).1,(rdNum 600 (rdNum 8 (rdNum 28629151 rd).2).2).1,(nList 600 600 (rdNum 600 (rdNum 8 (rdNum 28629151 rd).2).2).2).1⟩,(nList 600 600 (rdNum 600 (rdNum 8 (rdNum 28629151 rd).2).2).2).2)
def readHs:Nat→Rd→List Hold × Rd
 |0,rd=>([],rd)
 |k + 1,rd=>((readH rd).1::(readHs k (readH rd).2).1,(readHs k (readH rd).2).2)
theorem readH_bd {rd:Rd} (h:∀ x∈rd.bs,0≤x∧x<256):∀ x∈(readH rd).2.bs,0≤x∧x<256:=nList_bd (rdNum_bd (rdNum_bd (rdNum_bd h)))
structure HoldIn (h:Hold):Prop where
 o:0≤h.owner∧h.owner≤28629151
 c:0≤h.cls∧h.cls≤8
 m:0≤h.many∧h.many≤600
 s:∀ x∈h.seats,0≤x∧x≤600
 n:h.seats.length≤600
theorem readH_val {rd:Rd} (h:∀ x∈rd.bs,0≤x∧x<256):HoldIn (readH rd).1:=by
 have h1:=rdNum_bd (most:=28629151) h
 have h2:=rdNum_bd (most:=8) h1
 have h3:=rdNum_bd (most:=600) h2
 have hl:=nList_val (most:=600) (each:=600) h3 (by omega) (by omega)
 exact ⟨rdNum_val h (by omega),rdNum_val h1 (by omega),rdNum_val h2 (by omega),hl.1,by have:=hl.2;show (nList _ _ _).1.length≤600;omega⟩
theorem readHs_val:∀ (k:Nat) {rd:Rd},(∀ x∈rd.bs,0≤x∧x<256)→(∀ h∈(readHs k rd).1,HoldIn h)∧(readHs k rd).1.length=k
 |0,_,_=>⟨fun h hh=>(by cases hh),rfl⟩
 |k + 1,rd,h=>by
  obtain ⟨h1,h2⟩:=readHs_val k (readH_bd h)
  refine ⟨fun x hx=>?_,by show ((readH rd).1::_).length=_;rw [List.length_cons,h2]⟩
  have hx:x∈(readH rd).1::(readHs k (readH rd).2).1:=hx
  rcases List.mem_cons.1 hx with rfl|hx
  ·exact readH_val h
  ·exact h1 x hx
abbrev PS:=PF × Bool × Int
def stepD (x:PS) (h:Hold):PS:=if x.2.1=true∧h.owner>x.2.2 then ((restoreF x.1 h).1,(restoreF x.1 h).2,h.owner) else (x.1,false,h.owner)
def fine0 (num rows:Int) (grps lims:List Int):Bool:=decide (num>0) && (layOk rows grps && (nestOk lims (List.replicate lims.length 0) && (lims.getD 0 0==layN rows grps)))
structure Raw where
 num:Int
 rows:Int
 grps:List Int
 lims:List Int
 L:List Hold
 rd:Rd
def rawD (bs:List Int):Raw:=
 let a:=rdNum 9999 ⟨bs,false⟩
 let b:=rdNum 60 a.2
 let g:=nList 4 10 b.2
 let l:=nList 8 10000 g.2
 let n:=rdNum 600 l.2
 let x:=readHs n.1.toNat n.2
 ⟨a.1,b.1,g.1,l.1,x.1,x.2⟩
def Raw.run (x:Raw):PS:=x.L.foldl stepD (emptyF x.num x.rows x.grps x.lims,fine0 x.num x.rows x.grps x.lims,0)
def decF (bs:List Int):Option PF:=if rdWhole (rawD bs).rd=true∧(rawD bs).run.2.1=true then some (rawD bs).run.1 else none
structure KeepF (f f':PF):Prop where
 lims:f'.lims=f.lims
 grps:f'.grps=f.grps
 rows:f'.rows=f.rows
 num:f'.num=f.num
 sold:f'.sold.length=f.sold.length
theorem KeepF.refl (f:PF):KeepF f f:=⟨rfl,rfl,rfl,rfl,rfl⟩
theorem KeepF.trans {f f' f'':PF} (a:KeepF f f') (b:KeepF f' f''):KeepF f f'':=⟨b.lims.trans a.lims,b.grps.trans a.grps,b.rows.trans a.rows,b.num.trans a.num,b.sold.trans a.sold⟩
end Go.Proofs.YtfgbbckfikiomaaGreatDoor
/- Reference 15: Encode, list, may, Decode. Condition: bounds. -/
namespace Go.Proofs.YtfgbbckfikiomaaGreatDoor
set_option linter.unusedVariables false
open Go Go.VC
variable {R R':Cx} {Hs Rest:List HP} {w:World}
theorem numsB_one (x:Int) (l:List Int):numsB (x::l)=numsB [x]++numsB l:=by rw [show x::l=[x]++l from rfl,numsB_app]
def rencB (r:RF):List Int:=encB r.num r.rows r.grps r.lims r.L
structure RSmall (r:RF):Prop where
 num:0≤r.num∧r.num<9223372036854775808
 rows:0≤r.rows∧r.rows<9223372036854775808
 grps:small r.grps
 lims:small r.lims
 gl:r.grps.length≤1000
 ll:r.lims.length≤1000
 hs:∀ h∈r.L,HSmall h
 hl:r.L.length≤10000
end Go.Proofs.YtfgbbckfikiomaaGreatDoor
/- Reference 15: list, may, Decode. Condition: bounds. -/
namespace Go.Proofs.YtfgbbckfikiomaaGreatDoor
set_option linter.unusedVariables false
open Go Go.VC
variable {R R':Cx} {Hs Rest:List HP} {w:World}
structure OkAt (r:RF) (j:Nat) (hj:j<r.L.length):Prop where
 o:1≤r.L[j].owner
 p:∀ h:0<j,r.L[j - 1].owner<r.L[j].owner
 c:r.L[j].cls<r.lims.length
 m:1≤r.L[j].many
 n:(r.L[j].seats.length:Int)≤r.L[j].many
 s:∀ k (hk:k<r.L[j].seats.length),r.L[j].seats[k] ∉ takenL (r.L.take j)++r.L[j].seats.take k∧r.L[j].seats[k]<layN r.rows r.grps∧∀ h:0<k,r.L[j].seats[k - 1]<r.L[j].seats[k]
structure MayP (r:RF):Prop where
 num:1≤r.num
 lay:layOk r.rows r.grps=true
 lim:limOk r.lims=true
 l0:r.lims.getD 0 0=layN r.rows r.grps
 each:∀ j (hj:j<r.L.length),OkAt r j hj
 nest:nestOk r.lims r.sold=true
structure RIn (r:RF):Prop where
 gl:r.grps.length≤1000
 ll:r.lims.length≤1000
 hl:r.L.length≤1000
 hs:∀ h∈r.L,HoldIn h
end Go.Proofs.YtfgbbckfikiomaaGreatDoor
/- Reference 15: Decode. Condition: bounds. -/
namespace Go.Proofs.YtfgbbckfikiomaaGreatDoor
set_option linter.unusedVariables false
open Go Go.VC
variable {R R':Cx} {Hs Rest:List HP} {w:World}
def Raw.rf (x:Raw):RF:=⟨x.num,x.rows,x.grps,x.lims,x.L⟩
end Go.Proofs.YtfgbbckfikiomaaGreatDoor
/- A flight, plain: which bytes are one, by the program and by the document. Condition: none. -/
namespace Go.Proofs.YtfgbbckfikiomaaGreatDoor
set_option linter.unusedVariables false
open Go Go.VC
theorem nest_sell_iff {lim sold:List Int} {c many:Int} (hn:nestOk lim sold=true) (c0:0≤c) (c1:c<lim.length) (m0:1≤many) (m1:many≤10000) (h:nestOk lim (sold.set c.toNat (sold.getD c.toNat 0 + many))=true):(sellT lim sold c many).2=0:=by
 obtain ⟨i1,i2,i3⟩:=nestOk_iff.1 hn
 obtain ⟨_,_,k3⟩:=nestOk_iff.1 h
 have hl:leftT lim sold c=(mnF (roomF lim sold) (c.toNat + 1),0):=by unfold leftT;rw [if_pos ⟨hn,c0,c1⟩]
 have hm:=mnF_is (roomF lim sold) (c.toNat + 1)
 have hle:many≤mnF (roomF lim sold) (c.toNat + 1):=by
  rcases hm.2.2 with e|⟨k,_,hk,e⟩
  ·omega
  ·rw [e]
   have hf:=fromN_add (sold:=sold) (c:=c.toNat) (m:=many) (by omega) (lim.length - k) k (by omega)
   rw [if_pos (by omega)] at hf
   have:=(k3 k (by omega)).2
   unfold roomF
   omega
 unfold sellT
 rw [hl]
 dsimp only
 rw [if_neg (by omega),if_neg (by omega)]
variable {f:PF} {r:RF}
theorem tie_tell {A C:List Hold} {h:Hold} {n:Int} (t:Tie f r) (g:Good r) (hL:r.L=A++h::C) (hA:getO h.owner A=none) (h4:n ∉ takenL r.L) (hb:0≤n∧n<layN r.rows r.grps) (hm:(h.seats.length:Int)<h.many):
  Tie (tellF f h.owner n) { r with L:=A++h.put n::C }∧Good { r with L:=A++h.put n::C }:=by
 have hh:=g.each h (by rw [hL];simp)
 have hg:getM h.owner f.hs=some h:=by rw [t.get g.rise,hL];exact getO_app rfl hA
 have e:tellF f h.owner n={ f with hs:=setM h.owner (h.put n) f.hs,own:=putM n h.owner f.own }:=by unfold tellF;rw [hg]
 rw [e]
 have hnh:n ∉ h.seats:=fun e=>h4 (mem_taken.2 ⟨h,by rw [hL];simp,e⟩)
 have hs:∀ x∈(h.put n).seats,x∈h.seats∨(x ∉ takenL r.L∧0≤x∧x<layN r.rows r.grps):=fun x hx=>by
  rcases mem_insS.1 hx with rfl|hx
  ·exact .inr ⟨h4,hb⟩
  ·exact .inl hx
 refine ⟨tie_set (h':=h.put n) t g hL hA rfl rfl rfl (fun x hx=>(hs x hx).imp id (·.1)) (putM_nodup t.nod) fun x=>?_,good_set (h':=h.put n) g hL rfl rfl rfl ?_ ?_ hs⟩
 ·rw [getM_putM]
  show _=if x∈insS n h.seats then some h.owner else _
  by_cases hx:x=n
  ·rw [if_pos hx,if_pos (mem_insS.2 (.inl hx))]
  ·rw [if_neg hx]
   by_cases hx2:x∈h.seats
   ·rw [if_pos (mem_insS.2 (.inr hx2))]
    exact (t.own x h.owner).2 ⟨h,by rw [hL];simp,rfl,hx2⟩
   ·rw [if_neg (fun e=>(mem_insS.1 e).elim hx hx2),if_neg hx2]
 ·exact rise_iff.2 (insS_pw (rise_iff.1 hh.rise) hnh)
 ·show ((insS n h.seats).length:Int)≤_
  rw [insS_len];omega
def SOk (N:Int) (T:List Int):List Int→Int→Prop
 |[],_=>True
 |n::l,last=>n ∉ T∧last<n∧n<N∧SOk N T l n
theorem takenL_snoc (P:List Hold) (h:Hold):takenL (P++[h])=takenL P++h.seats:=by simp [takenL]
theorem tie_res {P:List Hold} {h:Hold}:∀ (l acc:List Int) (last:Int) {f:PF} {r:RF},Tie f r→Good r→r.L=P++[{ h with seats:=acc }]→(acc.length + l.length:Int)≤h.many→(∀ x∈acc,x≤last)→-1≤last→
  ((resGo h.owner (layN r.rows r.grps) l last f).2=true↔SOk (layN r.rows r.grps) (takenL P) l last)∧
  ((resGo h.owner (layN r.rows r.grps) l last f).2=true→Tie (resGo h.owner (layN r.rows r.grps) l last f).1 { r with L:=P++[{ h with seats:=acc++l }] }∧Good { r with L:=P++[{ h with seats:=acc++l }] })
 |[],acc,last,f,r,t,g,hL,_,_,_=>by
  refine ⟨⟨fun _=>trivial,fun _=>rfl⟩,fun _=>?_⟩
  rw [List.append_nil,←hL]
  exact ⟨t,g⟩
 |n::l,acc,last,f,r,t,g,hL,hm,hacc,hlast=>by
  rw [resGo_cons]
  have hown:getO h.owner P=none:=by
   have h5:=g.rise
   rw [hL] at h5
   refine getO_none.2 fun x hx e=>?_
   have:=(List.pairwise_append.1 h5).2.2 x hx _ (List.mem_singleton.2 rfl)
   dsimp only at this
   omega
  have htk:takenL r.L=takenL P++acc:=by rw [hL,takenL_snoc]
  rw [List.length_cons] at hm
  show _∧_
  by_cases h1:(getM n f.own).isSome=true
  ·rw [if_pos h1]
   refine ⟨⟨fun e=>(by cases e),fun e=>?_⟩,fun e=>by cases e⟩
   have h2:=(t.taken n).1 h1
   rw [htk] at h2
   rcases List.mem_append.1 h2 with h2|h2
   ·exact absurd h2 e.1
   ·have:=hacc n h2;have:=e.2.1;omega
  rw [if_neg h1]
  have hnt:n ∉ takenL r.L:=fun e=>h1 ((t.taken n).2 e)
  by_cases h2:n≤last
  ·rw [if_pos h2]
   exact ⟨⟨fun e=>(by cases e),fun e=>by have:=e.2.1;omega⟩,fun e=>by cases e⟩
  rw [if_neg h2]
  by_cases h3:n ≥ layN r.rows r.grps
  ·rw [if_pos h3]
   exact ⟨⟨fun e=>(by cases e),fun e=>by have:=e.2.2.1;omega⟩,fun e=>by cases e⟩
  rw [if_neg h3]
  have hsp:r.L=P++{ h with seats:=acc }::[]:=hL
  have hins:insS n acc=acc++[n]:=insS_end fun x hx=>by have:=hacc x hx;omega
  obtain ⟨t2,g2⟩:=tie_tell (h:={ h with seats:=acc }) t g hsp hown hnt ⟨by omega,by omega⟩ (by show (acc.length:Int)<h.many;omega)
  have e2:(Hold.put { h with seats:=acc } n)={ h with seats:=acc++[n] }:=by unfold Hold.put;rw [hins]
  rw [e2] at t2 g2
  have ih:=tie_res l (acc++[n]) n t2 g2 rfl (by rw [List.length_append];simp;omega) (fun x hx=>by
   rcases List.mem_append.1 hx with hx|hx
   ·have:=hacc x hx;omega
   ·rw [List.mem_singleton.1 hx];exact Int.le_refl _) (by omega)
  refine ⟨ih.1.trans ⟨fun e=>⟨fun hn=>hnt (by rw [htk];exact List.mem_append_left _ hn),by omega,by omega,e⟩,fun e=>e.2.2.2⟩,fun e=>?_⟩
  have h7:=ih.2 e
  rw [List.append_assoc] at h7
  exact h7
theorem insH_end {h:Hold}:∀ {P:List Hold},(∀ x∈P,x.owner<h.owner)→insH h P=P++[h]
 |[],_=>rfl
 |x::P,hp=>by
  unfold insH
  rw [if_pos (hp x List.mem_cons_self),insH_end fun y hy=>hp y (List.mem_cons_of_mem _ hy)];rfl
structure AddOk (r:RF) (h:Hold):Prop where
 c:h.cls<r.lims.length
 m:1≤h.many
 n:(h.seats.length:Int)≤h.many
 s:SOk (layN r.rows r.grps) (takenL r.L) h.seats (-1)
 nest:nestOk r.lims (soldL r.lims.length (r.L++[h]))=true
theorem tie_restore {h:Hold} (t:Tie f r) (g:Good r) (hin:HoldIn h) (ho:1≤h.owner) (hlt:∀ x∈r.L,x.owner<h.owner):
  ((restoreF f h).2=true↔AddOk r h)∧((restoreF f h).2=true→Tie (restoreF f h).1 { r with L:=r.L++[h] }∧Good { r with L:=r.L++[h] }):=by
 obtain ⟨t1,t2,t3⟩:=tie_take t g h.owner h.cls h.many
 have hno:¬ (getO h.owner r.L).isSome=true:=by
  rw [getO_none.2 fun x hx e=>by have:=hlt x hx;omega];simp
 have hio:=hin.o
 have er:rtakeF r h.owner h.cls h.many=if (sellT r.lims r.sold h.cls h.many).2=0 then ({ r with L:=insH ⟨h.owner,h.cls,h.many,[]⟩ r.L },0) else (r,(sellT r.lims r.sold h.cls h.many).2):=by
  unfold rtakeF;rw [if_neg (by omega),if_neg hno]
 have hins:insH ⟨h.owner,h.cls,h.many,[]⟩ r.L=r.L++[⟨h.owner,h.cls,h.many,[]⟩]:=insH_end hlt
 have hsl:∀ {L:List Hold},h.cls<r.lims.length→r.sold.set h.cls.toNat (r.sold.getD h.cls.toNat 0 + h.many)=soldL r.lims.length (r.L++[h]):=fun hc=>soldL_put (List.perm_append_comm) hin.c.1 hc
 unfold restoreF
 rw [t1,er]
 by_cases hs:(sellT r.lims r.sold h.cls h.many).2=0
 ·rw [if_pos hs]
  rw [er,if_pos hs,hins] at t2 t3
  obtain ⟨e1,e2,c0,c1,hm⟩:=nest_sell hs
  rw [e1,hsl (L:=r.L) c1] at e2
  rw [if_neg (by simp)]
  by_cases hn:(h.seats.length:Int)>h.many
  ·rw [if_pos hn]
   exact ⟨⟨fun e=>(by cases e),fun e=>by have:=e.n;omega⟩,fun e=>by cases e⟩
  rw [if_neg hn]
  have hlay:layN f.rows f.grps=layN r.rows r.grps:=by rw [t.rows,t.grps]
  rw [hlay]
  obtain ⟨i1,i2⟩:=tie_res (P:=r.L) (h:=h) h.seats [] (-1) t2 t3 rfl (by simp;omega) (fun x hx=>by cases hx) (by omega)
  refine ⟨i1.trans ⟨fun e=>⟨c1,hm,by omega,e,e2⟩,fun e=>e.s⟩,fun e=>?_⟩
  have h7:=i2 e
  rw [List.nil_append] at h7
  exact h7
 ·rw [if_neg hs,if_pos hs]
  refine ⟨⟨fun e=>(by cases e),fun e=>?_⟩,fun e=>by cases e⟩
  exact absurd (nest_sell_iff g.nest hin.c.1 e.c e.m (by have:=hin.m.2;omega) (by rw [hsl (L:=r.L) e.c];exact e.nest)) hs
theorem fine0_iff {num rows:Int} {grps lims:List Int}:fine0 num rows grps lims=true↔1≤num∧layOk rows grps=true∧limOk lims=true∧lims.getD 0 0=layN rows grps:=by
 unfold fine0
 simp only [Bool.and_eq_true,decide_eq_true_eq,beq_iff_eq]
 constructor
 ·rintro ⟨h1,h2,h3,h4⟩
  exact ⟨by omega,h2,(nestOk_iff.1 h3).1,h4⟩
 ·rintro ⟨h1,h2,h3,h4⟩
  exact ⟨by omega,h2,nest_zero h3,h4⟩
theorem sok_iff {N:Int} {T:List Int}:∀ {l:List Int} {last:Int},SOk N T l last↔∀ k (hk:k<l.length),l[k] ∉ T∧l[k]<N∧(if h:0<k then l[k - 1]<l[k] else last<l[k])
 |[],_=>by simp [SOk]
 |n::l,last=>by
  unfold SOk
  rw [sok_iff (l:=l) (last:=n)]
  constructor
  ·rintro ⟨h1,h2,h3,h4⟩ k hk
   rcases k with _|k
   ·exact ⟨h1,h3,h2⟩
   ·have h5:=h4 k (by simpa using hk)
    refine ⟨h5.1,h5.2.1,?_⟩
    rw [dif_pos (by omega)]
    have h6:=h5.2.2
    rcases k with _|k
    ·exact h6
    ·rw [dif_pos (by omega)] at h6;exact h6
  ·intro h
   have h0:=h 0 (by simp)
   refine ⟨h0.1,h0.2.2,h0.2.1,fun k hk=>?_⟩
   have h5:=h (k + 1) (by simpa using hk)
   refine ⟨h5.1,h5.2.1,?_⟩
   have h6:=h5.2.2
   rw [dif_pos (by omega)] at h6
   rcases k with _|k
   ·exact h6
   ·rw [dif_pos (by omega)];exact h6
structure RawIn (x:Raw):Prop where
 num:x.num≤9999
 hs:∀ h∈x.L,HoldIn h
def Raw.at (x:Raw) (j:Nat):PS:=(x.L.take j).foldl stepD (emptyF x.num x.rows x.grps x.lims,fine0 x.num x.rows x.grps x.lims,0)
def Raw.pre (x:Raw) (j:Nat):RF:=⟨x.num,x.rows,x.grps,x.lims,x.L.take j⟩
def lastO (x:Raw) (j:Nat):Int:=if h:0<j∧j≤x.L.length then x.L[j - 1].owner else 0
theorem at_succ {x:Raw} {j:Nat} (h:j<x.L.length):x.at (j + 1)=stepD (x.at j) x.L[j]:=by
 unfold Raw.at
 rw [List.take_add_one,List.getElem?_eq_getElem h,List.foldl_append];rfl
theorem owR_lt {L:List Hold} {o:Int} (h:OwR L):∀ (hl:0<L.length),L[L.length - 1].owner<o→∀ x∈L,x.owner<o:=fun hl hlast x hx=>by
 obtain ⟨i,hi,rfl⟩:=List.getElem_of_mem hx
 by_cases e:i=L.length - 1
 ·subst e;exact hlast
 ·have:=List.pairwise_iff_getElem.1 h i (L.length - 1) hi (by omega) (by omega)
  omega
theorem okAt_add {x:Raw} (xi:RawIn x) {j:Nat} (hj:j<x.L.length) (hr:∀ y∈x.L.take j,y.owner<x.L[j].owner):
  OkAt x.rf j hj↔(1≤x.L[j].owner∧(∀ h:0<j,x.L[j - 1].owner<x.L[j].owner)∧x.L[j].cls<x.lims.length∧1≤x.L[j].many∧(x.L[j].seats.length:Int)≤x.L[j].many∧SOk (layN x.rows x.grps) (takenL (x.L.take j)) x.L[j].seats (-1)):=by
 have hin:=xi.hs x.L[j] (List.getElem_mem _)
 rw [sok_iff]
 constructor
 ·intro h
  refine ⟨h.o,h.p,h.c,h.m,h.n,fun k hk=>?_⟩
  have h1:=h.s k hk
  refine ⟨fun hm=>h1.1 (List.mem_append_left _ hm),h1.2.1,?_⟩
  split
  ·exact h1.2.2 (by assumption)
  ·have:=hin.s x.L[j].seats[k] (List.getElem_mem _);omega
 ·rintro ⟨h1,h2,h3,h4,h5,h6⟩
  refine ⟨h1,h2,h3,h4,h5,fun k hk=>?_⟩
  have h7:=h6 k hk
  have hrise:∀ (t i:Nat) (hi:i + t<x.L[j].seats.length),0<t→x.L[j].seats[i]'(by omega)<x.L[j].seats[i + t]:=fun t=>by
   induction t with
   |zero=>intro i hi h0;omega
   |succ t ih=>
    intro i hi _
    have h8:=(h6 (i + (t + 1)) hi).2.2
    rw [dif_pos (by omega)] at h8
    by_cases ht:t=0
    ·subst ht;exact h8
    ·have h9:=ih i (by omega) (by omega)
     have h8:x.L[j].seats[i + t]'(by omega)<x.L[j].seats[i + (t + 1)]:=h8
     omega
  refine ⟨fun hm=>?_,h7.2.1,fun h0=>by have h8:=h7.2.2;rw [dif_pos h0] at h8;exact h8⟩
  rcases List.mem_append.1 hm with hm|hm
  ·exact h7.1 hm
  ·obtain ⟨i,hi,he⟩:=List.getElem_of_mem hm
   rw [List.length_take] at hi
   rw [List.getElem_take] at he
   have hk':k<x.L[j].seats.length:=hk
   have hi:i<min k x.L[j].seats.length:=hi
   have he:x.L[j].seats[i]'(by omega)=x.L[j].seats[k]:=he
   have h9:=hrise (k - i) i (by omega) (by omega)
   have e:i + (k - i)=k:=by omega
   simp only [e] at h9
   omega
theorem at_good {x:Raw} (xi:RawIn x):∀ j,j≤x.L.length→(x.at j).2.2=lastO x j∧((x.at j).2.1=true→Tie (x.at j).1 (x.pre j)∧Good (x.pre j)∧∀ i (hi:i<x.L.length),i<j→OkAt x.rf i hi)
 |0,_=>by
  refine ⟨rfl,fun h=>?_⟩
  obtain ⟨h1,h2,h3,h4⟩:=fine0_iff.1 h
  refine ⟨tie_new,⟨⟨h1,xi.num⟩,h2,?_,h4,List.Pairwise.nil,fun h hh=>(by cases hh),List.Pairwise.nil⟩,fun i _ hi=>by omega⟩
  show nestOk _ (soldL _ [])=true
  rw [soldL_nil];exact nest_zero h3
 |j + 1,hj=>by
  have hj1:j<x.L.length:=by omega
  obtain ⟨i1,i2⟩:=at_good xi j (by omega)
  have hlast:lastO x (j + 1)=x.L[j].owner:=by unfold lastO;rw [dif_pos ⟨by omega,hj⟩];rfl
  rw [at_succ hj1,hlast]
  unfold stepD
  by_cases hc:(x.at j).2.1=true∧x.L[j].owner>(x.at j).2.2
  ·rw [if_pos hc]
   refine ⟨rfl,fun h=>?_⟩
   obtain ⟨t,g,hok⟩:=i2 hc.1
   rw [i1] at hc
   have hin:=xi.hs x.L[j] (List.getElem_mem _)
   have hlt:∀ y∈(x.pre j).L,y.owner<x.L[j].owner:=fun y hy=>by
    have hne:0<(x.pre j).L.length:=List.length_pos_iff.2 fun e=>by rw [e] at hy;cases hy
    refine owR_lt g.rise hne ?_ y hy
    have hl:(x.pre j).L.length=j:=by show (x.L.take j).length=j;rw [List.length_take];omega
    have h2:=hc.2
    unfold lastO at h2
    rw [dif_pos ⟨by omega,by omega⟩] at h2
    have h3:(x.pre j).L[(x.pre j).L.length - 1]=x.L[j - 1]:=by
     show (x.L.take j)[(x.L.take j).length - 1]'(by rw [List.length_take];omega)=_
     rw [List.getElem_take]
     congr 1
     rw [List.length_take];omega
    rw [h3];exact h2
   have ho1:1≤x.L[j].owner:=by
    have h2:=hc.2
    unfold lastO at h2
    split at h2
    ·have:=(xi.hs x.L[j - 1] (List.getElem_mem _)).o;omega
    ·omega
   obtain ⟨r1,r2⟩:=tie_restore t g hin ho1 hlt
   have e:{ x.pre j with L:=(x.pre j).L++[x.L[j]] }=x.pre (j + 1):=by
    unfold Raw.pre
    rw [List.take_add_one,List.getElem?_eq_getElem hj1];rfl
   have h5:=r2 h
   rw [e] at h5
   refine ⟨h5.1,h5.2,fun i hi hij=>?_⟩
   by_cases hie:i=j
   ·subst hie
    have ha:=r1.1 h
    refine (okAt_add xi hj1 hlt).2 ⟨ho1,fun h0=>?_,ha.c,ha.m,ha.n,ha.s⟩
    have h2:=hc.2
    unfold lastO at h2
    rw [dif_pos ⟨by omega,by omega⟩] at h2
    exact h2
   ·exact hok i hi (by omega)
  ·rw [if_neg hc]
   exact ⟨rfl,fun h=>by cases h⟩
theorem may_at {x:Raw} (xi:RawIn x) (m:MayP x.rf):∀ j,j≤x.L.length→(x.at j).2.1=true
 |0,_=>fine0_iff.2 ⟨m.num,m.lay,m.lim,m.l0⟩
 |j + 1,hj=>by
  have hj1:j<x.L.length:=by omega
  have ih:=may_at xi m j (by omega)
  obtain ⟨i1,i2⟩:=at_good xi j (by omega)
  obtain ⟨t,g,hok⟩:=i2 ih
  have hin:=xi.hs x.L[j] (List.getElem_mem _)
  have ok:=m.each j hj1
  rw [at_succ hj1]
  have hgt:x.L[j].owner>(x.at j).2.2:=by
   rw [i1]
   unfold lastO
   split
   ·rename_i h;exact ok.p h.1
   ·have:=ok.o;show 0<x.L[j].owner;exact this
  have hlt:∀ y∈(x.pre j).L,y.owner<x.L[j].owner:=fun y hy=>by
   have hne:0<(x.pre j).L.length:=List.length_pos_iff.2 fun e=>by rw [e] at hy;cases hy
   refine owR_lt g.rise hne ?_ y hy
   have hl:(x.pre j).L.length=j:=by show (x.L.take j).length=j;rw [List.length_take];omega
   have h3:(x.pre j).L[(x.pre j).L.length - 1]=x.L[j - 1]:=by
    show (x.L.take j)[(x.L.take j).length - 1]'(by rw [List.length_take];omega)=_
    rw [List.getElem_take]
    congr 1
    rw [List.length_take];omega
   rw [h3];exact ok.p (by omega)
  unfold stepD
  rw [if_pos ⟨ih,hgt⟩]
  refine (tie_restore t g hin ok.o hlt).1.2 ?_
  have ha:=(okAt_add xi hj1 hlt).1 ok
  refine ⟨ha.2.2.1,ha.2.2.2.1,ha.2.2.2.2.1,ha.2.2.2.2.2,?_⟩
  have e:(x.pre j).L++[x.L[j]]=x.L.take (j + 1):=by
   show x.L.take j++_=_
   rw [List.take_add_one,List.getElem?_eq_getElem hj1];rfl
  rw [e]
  show nestOk x.lims (soldL x.lims.length (x.L.take (j + 1)))=true
  refine nest_le m.nest (by show (soldL _ _).length=(soldL _ _).length;rw [soldL_len,soldL_len];rfl) fun k hk=>?_
  have hk:k<x.lims.length:=hk
  show 0≤(soldL x.lims.length (x.L.take (j + 1))).getD k 0∧(soldL x.lims.length (x.L.take (j + 1))).getD k 0≤(soldL x.lims.length x.L).getD k 0
  rw [soldL_getD hk,soldL_getD hk]
  have hmm:∀ y∈x.L,1≤y.many:=fun y hy=>by
   obtain ⟨i,hi,rfl⟩:=List.getElem_of_mem hy
   exact (m.each i hi).m
  refine ⟨cntL_nn fun y hy=>hmm y (List.mem_of_mem_take hy),?_⟩
  have h8:cntL (k:Int) x.L=cntL (k:Int) (x.L.take (j + 1)) + cntL (k:Int) (x.L.drop (j + 1)):=by rw [←cntL_app,List.take_append_drop]
  have h9:=cntL_nn (k:=(k:Int)) (L:=x.L.drop (j + 1)) fun y hy=>hmm y (List.mem_of_mem_drop hy)
  omega
theorem run_at (x:Raw):x.run=x.at x.L.length∧x.rf=x.pre x.L.length:=by
 constructor
 ·unfold Raw.run Raw.at;rw [List.take_length]
 ·unfold Raw.rf Raw.pre;rw [List.take_length]
theorem run_iff {x:Raw} (xi:RawIn x):(x.run.2.1=true↔MayP x.rf)∧(x.run.2.1=true→Tie x.run.1 x.rf∧Good x.rf):=by
 obtain ⟨e1,e2⟩:=run_at x
 have h:=(at_good xi x.L.length (Nat.le_refl _)).2
 rw [←e1,←e2] at h
 refine ⟨⟨fun hr=>?_,fun m=>by rw [e1];exact may_at xi m _ (Nat.le_refl _)⟩,fun hr=>⟨(h hr).1,(h hr).2.1⟩⟩
 obtain ⟨t,g,hok⟩:=h hr
 exact ⟨g.num.1,g.lay,(nestOk_iff.1 g.nest).1,g.l0,fun j hj=>hok j hj hj,g.nest⟩
theorem rawD_in {bs:List Int} (hb:∀ y∈bs,0≤y∧y<256):RawIn (rawD bs):=by
 have hb0:∀ y∈(⟨bs,false⟩:Rd).bs,0≤y∧y<256:=hb
 have h5:=rdNum_bd (most:=600) (nList_bd (most:=8) (each:=10000) (nList_bd (most:=4) (each:=10) (rdNum_bd (most:=60) (rdNum_bd (most:=9999) hb0))))
 exact ⟨(rdNum_val (most:=9999) hb0 (by omega)).2,(readHs_val _ h5).1⟩
end Go.Proofs.YtfgbbckfikiomaaGreatDoor
/- A flight, plain: its bytes are it again. Condition: none. -/
namespace Go.Proofs.YtfgbbckfikiomaaGreatDoor
set_option linter.unusedVariables false
open Go Go.VC
theorem rdNum_code {n:Nat} {most:Int} {rest:List Int} (h:n<18446744073709551616) (hm:(n:Int)≤most):rdNum most ⟨numB n++rest,false⟩=((n:Int),⟨rest,false⟩):=by
 unfold rdNum
 rw [if_neg (by simp)]
 dsimp only
 rw [parse_num h]
 dsimp only
 rw [if_pos ⟨rfl,hm⟩,List.drop_left]
theorem rdNum_nums {x most:Int} {rest:List Int} (h0:0≤x) (h1:x≤most) (h2:x<18446744073709551616):rdNum most ⟨numsB [x]++rest,false⟩=(x,⟨rest,false⟩):=by
 obtain ⟨n,rfl⟩:=Int.eq_ofNat_of_zero_le h0
 have e:numsB [(n:Int)]=numB n:=by simp [numsB]
 rw [e]
 exact rdNum_code (by omega) h1
theorem nMany_nums {each:Int} (he:each<18446744073709551616) {rest:List Int}:∀ {l:List Int},(∀ x∈l,0≤x∧x≤each)→nMany l.length each ⟨numsB l++rest,false⟩=(l,⟨rest,false⟩)
 |[],_=>rfl
 |x::l,h=>by
  have h1:=h x List.mem_cons_self
  rw [numsB_one,List.append_assoc]
  show ((rdNum each _).1::(nMany l.length each (rdNum each _).2).1,(nMany l.length each (rdNum each _).2).2)=_
  rw [rdNum_nums h1.1 h1.2 (by omega)]
  dsimp only
  rw [nMany_nums he fun y hy=>h y (List.mem_cons_of_mem _ hy)]
theorem nList_list {most each:Int} (he:each<18446744073709551616) {rest l:List Int} (hl:(l.length:Int)≤most) (hm:most<18446744073709551616) (h:∀ x∈l,0≤x∧x≤each):nList most each ⟨listB l++rest,false⟩=(l,⟨rest,false⟩):=by
 unfold nList listB
 rw [List.append_assoc,rdNum_nums (by omega) hl (by omega)]
 exact nMany_nums he h
theorem readH_hold {h:Hold} (hin:HoldIn h) (rest:List Int):readH ⟨holdB h++rest,false⟩=(h,⟨rest,false⟩):=by
 have e:holdB h++rest=numsB [h.owner]++(numsB [h.cls]++(numsB [h.many]++(listB h.seats++rest))):=by
  unfold holdB
  rw [numsB_one h.owner,numsB_one h.cls]
  simp only [List.append_assoc]
 have:=hin.o
 have:=hin.c
 have:=hin.m
 have:=hin.n
 unfold readH
 rw [e,rdNum_nums (by omega) (by omega) (by omega)]
 dsimp only
 rw [rdNum_nums (by omega) (by omega) (by omega)]
 dsimp only
 rw [rdNum_nums (by omega) (by omega) (by omega)]
 dsimp only
 rw [nList_list (by omega) (by omega) (by omega) hin.s]
theorem readHs_holds {rest:List Int}:∀ {L:List Hold},(∀ h∈L,HoldIn h)→readHs L.length ⟨holdsB L++rest,false⟩=(L,⟨rest,false⟩)
 |[],_=>rfl
 |h::L,hin=>by
  have e:holdsB (h::L)++rest=holdB h++(holdsB L++rest):=by simp [holdsB]
  rw [e]
  show ((readH _).1::(readHs L.length (readH _).2).1,(readHs L.length (readH _).2).2)=_
  rw [readH_hold (hin h List.mem_cons_self)]
  dsimp only
  rw [readHs_holds fun x hx=>hin x (List.mem_cons_of_mem _ hx)]
variable {f:PF} {r:RF}
theorem good_in (g:Good r):∀ h∈r.L,HoldIn h:=fun h hh=>by
 have h1:=g.each h hh
 have h2:=g.len.2 h hh
 have h3:=(limOk_iff.1 (nestOk_iff.1 g.nest).1).1.2
 have h4:=(layN_bd r.rows r.grps).2
 have:=h1.owner
 have:=h1.cls
 have:=h1.many
 have:=h1.few
 exact ⟨by omega,by omega,by omega,fun x hx=>by have:=h1.seats x hx;omega,by omega⟩
theorem good_lims (g:Good r):(∀ x∈r.lims,0≤x∧x≤10000)∧1≤r.lims.length∧r.lims.length≤8:=by
 obtain ⟨h1,h2⟩:=limOk_iff.1 (nestOk_iff.1 g.nest).1
 refine ⟨fun x hx=>?_,h1⟩
 obtain ⟨i,hi,rfl⟩:=List.getElem_of_mem hx
 exact (h2 i hi).1
theorem rawD_enc (g:Good r):rawD (rencB r)=⟨r.num,r.rows,r.grps,r.lims,r.L,⟨[],false⟩⟩:=by
 obtain ⟨l1,l2,l3⟩:=layOk_iff.1 g.lay
 obtain ⟨m1,m2,m3⟩:=good_lims g
 have hlen:=g.len.1
 have hnum:=g.num
 have e:rencB r=numsB [r.num]++(numsB [r.rows]++(listB r.grps++(listB r.lims++(numsB [(r.L.length:Int)]++(holdsB r.L++[]))))):=by
  unfold rencB encB
  rw [numsB_one r.num]
  simp only [List.append_assoc,List.append_nil]
 unfold rawD
 rw [e]
 dsimp only
 rw [rdNum_nums (by omega) (by omega) (by omega)]
 dsimp only
 rw [rdNum_nums (by omega) (by omega) (by omega)]
 dsimp only
 rw [nList_list (by omega) (by omega) (by omega) (fun x hx=>by have:=l2 x hx;omega)]
 dsimp only
 rw [nList_list (by omega) (by omega) (by omega) m1]
 dsimp only
 rw [rdNum_nums (by omega) (by omega) (by omega)]
 dsimp only
 rw [show ((r.L.length:Int)).toNat=r.L.length from rfl,readHs_holds (good_in g)]
theorem good_may (g:Good r):MayP r:=by
 refine ⟨g.num.1,g.lay,(nestOk_iff.1 g.nest).1,g.l0,fun j hj=>?_,g.nest⟩
 have hh:=g.each r.L[j] (List.getElem_mem _)
 refine ⟨hh.owner.1,fun h0=>List.pairwise_iff_getElem.1 g.rise (j - 1) j (by omega) hj (by omega),hh.cls.2,hh.many,hh.few,fun k hk=>⟨fun hm=>?_,(hh.seats _ (List.getElem_mem _)).2,fun h0=>hh.rise (k - 1) k hk (by omega)⟩⟩
 rcases List.mem_append.1 hm with hm|hm
 ·obtain ⟨x,hx,hxm⟩:=mem_taken.1 hm
  obtain ⟨i,hi,rfl⟩:=List.getElem_of_mem hx
  rw [List.length_take] at hi
  rw [List.getElem_take] at hxm
  exact List.pairwise_iff_getElem.1 g.apart i j (by omega) hj (by omega) _ hxm (List.getElem_mem _)
 ·obtain ⟨i,hi,he⟩:=List.getElem_of_mem hm
  rw [List.length_take] at hi
  rw [List.getElem_take] at he
  have:=hh.rise i k hk (by omega)
  omega
theorem good_small (g:Good r):RSmall r:=by
 obtain ⟨l1,l2,l3⟩:=layOk_iff.1 g.lay
 obtain ⟨m1,m2,m3⟩:=good_lims g
 have hlen:=g.len.1
 have hnum:=g.num
 refine ⟨by omega,by omega,fun x hx=>by have:=l2 x hx;omega,fun x hx=>by have:=m1 x hx;omega,by omega,by omega,fun h hh=>?_,by omega⟩
 have hin:=good_in g h hh
 have:=hin.o
 have:=hin.c
 have:=hin.m
 have:=hin.n
 exact ⟨by omega,by omega,by omega,fun x hx=>by have:=hin.s x hx;omega,by omega⟩
theorem renc_bd (g:Good r):(∀ y∈rencB r,0≤y∧y<256)∧(rencB r).length≤6000000:=by
 have s:=good_small g
 obtain ⟨l1,l2,l3⟩:=layOk_iff.1 g.lay
 obtain ⟨m1,m2,m3⟩:=good_lims g
 have hlen:=g.len.1
 have u2:small [r.num,r.rows]:=by intro y hy;have:=s.num;have:=s.rows;simp at hy;omega
 have u1:small [(r.L.length:Int)]:=by intro y hy;simp at hy;omega
 constructor
 ·intro y hy
  unfold rencB encB at hy
  simp only [List.mem_append] at hy
  rcases hy with (((hy|hy)|hy)|hy)|hy
  ·exact numsB_bd (small_u u2) y hy
  ·exact listB_bd s.grps (by omega) y hy
  ·exact listB_bd s.lims (by omega) y hy
  ·exact numsB_bd (small_u u1) y hy
  ·exact holdsB_bd s.hs y hy
 ·have h1:=numsB_len (small_u u2)
  have h2:=listB_len s.grps (by omega)
  have h3:=listB_len s.lims (by omega)
  have h4:=numsB_len (small_u u1)
  have h5:=holdsB_len s.hs
  simp only [List.length_cons,List.length_nil] at h1 h4
  unfold rencB encB
  simp only [List.length_append]
  omega
theorem dec_enc (g:Good r):∃ f',decF (rencB r)=some f'∧Tie f' r:=by
 have e:=rawD_enc g
 have hw:rdWhole (rawD (rencB r)).rd=true:=by rw [e];rfl
 have hrf:(rawD (rencB r)).rf=r:=by rw [e];rfl
 obtain ⟨r1,r2⟩:=run_iff (rawD_in (renc_bd g).1)
 rw [hrf] at r1 r2
 have hr:=r1.2 (good_may g)
 exact ⟨_,by unfold decF;rw [if_pos ⟨hw,hr⟩],(r2 hr).1⟩
end Go.Proofs.YtfgbbckfikiomaaGreatDoor

/- Floats, plain, part 4: how any two stand to each other, by one integer each. No program. No condition. -/
namespace Go.VC
set_option linter.unusedVariables false
open Ieee
def bigF:Int:=2 ^ 2200
def valD:Datum→Option Int
 | .nan ..=>none
 | .infinity s=>some (if s then -bigF else bigF)
 | .number s m i=>some (signed s m (i + 1074).toNat)
theorem signed_eq (s:Bool) (m k:Nat):signed s m k=(if s then -1 else 1) * ((m:Int) * 2 ^ k):=by
 unfold signed
 cases s<;>simp [Nat.shiftLeft_eq]
theorem cmp_scale {a b:Int} {c:Int} (h:0<c):compare (a * c) (b * c)=compare a b:=by
 simp only [compare,compareOfLessAndEq]
 have h1:a * c<b * c↔a<b:=⟨fun h2=>Int.lt_of_mul_lt_mul_right h2 (by omega),fun h2=>Int.mul_lt_mul_of_pos_right h2 h⟩
 have h2:a * c=b * c↔a=b:=⟨fun h3=>Int.eq_of_mul_eq_mul_right (by omega) h3,fun h3=>by rw [h3]⟩
 simp only [h1,h2]
theorem signed_up (s:Bool) (m k c:Nat):signed s m (k + c)=signed s m k * 2 ^ c:=by
 rw [signed_eq,signed_eq,Int.pow_add]
 rw [Int.mul_assoc,Int.mul_assoc]
theorem read_bd {x:Nat} {s:Bool} {m:Nat} {i:Int} (h:double.read x=.number s m i):(-1074≤i∧i≤971)∧m<2 ^ 53:=by
 unfold Format.read at h
 simp only [dbl_binade,dbl_inf,dbl_least,dbl_sign] at h
 split at h
 ·rename_i hr
  simp only [Datum.number.injEq] at h
  obtain ⟨_,rfl,rfl⟩:=h
  exact ⟨⟨by omega,by omega⟩,by omega⟩
 ·split at h
  ·rename_i hr
   simp only [Datum.number.injEq] at h
   obtain ⟨_,rfl,rfl⟩:=h
   refine ⟨⟨by omega,?_⟩,by omega⟩
   have:x % 9223372036854775808 / 4503599627370496≤2046:=by omega
   omega
  ·split at h<;>cases h
theorem int_pow (n:Nat):(2:Int) ^ n=((2 ^ n:Nat):Int):=by rw [Int.natCast_pow];rfl
theorem big_pos (n:Nat):(0:Int)<2 ^ n:=Int.pow_pos (by omega)
theorem pow_bd {m k n N:Nat} (hm:m<2 ^ 53) (hk:k≤n) (hN:53 + n<N):m * 2 ^ k<2 ^ N:=by
 have h1:m * 2 ^ k≤2 ^ 53 * 2 ^ n:=Nat.mul_le_mul (by omega) (Nat.pow_le_pow_right (by omega) hk)
 rw [←Nat.pow_add] at h1
 exact Nat.lt_of_le_of_lt h1 (Nat.pow_lt_pow_right (by omega) hN)
theorem val_bd {x:Nat} {s:Bool} {m:Nat} {i:Int} (h:double.read x=.number s m i): -bigF<signed s m (i + 1074).toNat∧signed s m (i + 1074).toNat<bigF:=by
 obtain ⟨⟨h1,h2⟩,h3⟩:=read_bd h
 have hk:(i + 1074).toNat≤2045:=by omega
 have hp:m * 2 ^ (i + 1074).toNat<2 ^ 2200:=pow_bd (N:=2200) (n:=2045) h3 hk (by omega)
 have hp2:((m * 2 ^ (i + 1074).toNat:Nat):Int)<bigF:=by
  unfold bigF
  rw [int_pow]
  exact Int.ofNat_lt.2 hp
 have hb:(0:Int)<bigF:=by unfold bigF;exact big_pos 2200
 have e:signed s m (i + 1074).toNat=if s then -((m * 2 ^ (i + 1074).toNat:Nat):Int) else ((m * 2 ^ (i + 1074).toNat:Nat):Int):=by
  unfold signed;rw [Nat.shiftLeft_eq]
 rw [e]
 generalize m * 2 ^ (i + 1074).toNat=n at *
 cases s<;>simp<;>omega
theorem ord_val (x y:Nat):double.order x y=match valD (double.read x),valD (double.read y) with
  |some a,some b=>some (compare a b)
  |_,_=>none:=by
 have hb:(0:Int)<bigF:=by unfold bigF;exact big_pos 2200
 have lt_cmp:∀ a b:Int,a<b→compare a b=.lt:=fun a b h=>by simp only [compare,compareOfLessAndEq,if_pos h]
 have gt_cmp:∀ a b:Int,b<a→compare a b=.gt:=fun a b h=>by simp only [compare,compareOfLessAndEq];rw [if_neg (by omega),if_neg (by omega)]
 have eq_cmp:∀ a:Int,compare a a=.eq:=fun a=>by simp [compare,compareOfLessAndEq]
 unfold Format.order
 cases hx:double.read x with
 |nan s t=>cases double.read y<;>rfl
 |infinity s=>
  cases hy:double.read y with
  |nan=>rfl
  |infinity t=>
   show some (compare t.toNat s.toNat)=some (compare (if s then -bigF else bigF) (if t then -bigF else bigF))
   cases s<;>cases t
   ·simp only [Bool.false_eq_true,if_false];rw [eq_cmp];rfl
   ·simp only [Bool.false_eq_true,if_false,if_true];rw [gt_cmp _ _ (by omega)];rfl
   ·simp only [Bool.false_eq_true,if_false,if_true];rw [lt_cmp _ _ (by omega)];rfl
   ·simp only [if_true];rw [eq_cmp];rfl
  |number t n j=>
   have:=val_bd hy
   show some (if s then Ordering.lt else .gt)=some (compare (if s then -bigF else bigF) (signed t n (j + 1074).toNat))
   cases s
   ·simp only [Bool.false_eq_true,if_false];rw [gt_cmp _ _ (by omega)]
   ·simp only [if_true];rw [lt_cmp _ _ (by omega)]
 |number s m i=>
  cases hy:double.read y with
  |nan=>rfl
  |infinity t=>
   have:=val_bd hx
   show some (if t then Ordering.gt else .lt)=some (compare (signed s m (i + 1074).toNat) (if t then -bigF else bigF))
   cases t
   ·simp only [Bool.false_eq_true,if_false];rw [lt_cmp _ _ (by omega)]
   ·simp only [if_true];rw [gt_cmp _ _ (by omega)]
  |number t n j=>
   obtain ⟨⟨i1,i2⟩,_⟩:=read_bd hx
   obtain ⟨⟨j1,j2⟩,_⟩:=read_bd hy
   show some (compare (signed s m (i - min i j).toNat) (signed t n (j - min i j).toNat))=some (compare (signed s m (i + 1074).toNat) (signed t n (j + 1074).toNat))
   have e1:(i + 1074).toNat=(i - min i j).toNat + (min i j + 1074).toNat:=by omega
   have e2:(j + 1074).toNat=(j - min i j).toNat + (min i j + 1074).toNat:=by omega
   rw [e1,e2,signed_up,signed_up,cmp_scale (Int.pow_pos (by omega))]
def kvF (x:Nat):Int:=match valD (double.read x) with|none=>-bigF - 1|some v=>v
def nanF (x:Nat):Bool:=(valD (double.read x)).isNone
theorem kv_bd {x:Nat} (h:nanF x=false): -bigF≤kvF x:=by
 have hb:(0:Int)<bigF:=by unfold bigF;exact big_pos 2200
 unfold nanF at h
 unfold kvF
 cases hr:double.read x with
 |nan s t=>rw [hr] at h;cases h
 |infinity s=>
  show -bigF≤if s then -bigF else bigF
  split<;>omega
 |number s m i=>have:=(val_bd hr).1;show -bigF≤signed s m (i + 1074).toNat;omega
theorem kv_nan {x:Nat} (h:nanF x=true):kvF x=-bigF - 1:=by
 unfold nanF at h
 unfold kvF
 cases hv:valD (double.read x) with
 |none=>rfl
 |some v=>rw [hv] at h;cases h
theorem ord_lt {x y:Nat} (hx:nanF x=false) (hy:nanF y=false):(double.order x y==some .lt)=decide (kvF x<kvF y)∧(double.order x y==some .eq)=decide (kvF x=kvF y)∧(double.order x y==some .gt)=decide (kvF y<kvF x):=by
 rw [ord_val]
 unfold nanF at hx hy
 unfold kvF
 cases hvx:valD (double.read x) with
 |none=>rw [hvx] at hx;cases hx
 |some a=>
  cases hvy:valD (double.read y) with
  |none=>rw [hvy] at hy;cases hy
  |some b=>
   dsimp only
   simp only [compare,compareOfLessAndEq]
   by_cases h1:a<b
   ·rw [if_pos h1]
    refine ⟨by rw [decide_eq_true h1];rfl,by rw [decide_eq_false (by omega)];rfl,by rw [decide_eq_false (by omega)];rfl⟩
   ·rw [if_neg h1]
    by_cases h2:a=b
    ·rw [if_pos h2]
     refine ⟨by rw [decide_eq_false h1];rfl,by rw [decide_eq_true h2];rfl,by rw [decide_eq_false (by omega)];rfl⟩
    ·rw [if_neg h2]
     refine ⟨by rw [decide_eq_false h1];rfl,by rw [decide_eq_false h2];rfl,by rw [decide_eq_true (by omega)];rfl⟩
theorem ord_none {x y:Nat} (h:nanF x=true∨nanF y=true):double.order x y=none:=by
 rw [ord_val]
 unfold nanF at h
 cases hvx:valD (double.read x) with
 |none=>rfl
 |some a=>
  cases hvy:valD (double.read y) with
  |none=>rfl
  |some b=>rw [hvx,hvy] at h;simp at h
theorem ord_self (x:Nat):(double.order x x==some .eq)=!nanF x:=by
 cases h:nanF x with
 |true=>rw [ord_none (.inl h)];rfl
 |false=>rw [(ord_lt h h).2.1];simp
def rankF (a b:Nat):Int:=if kvF a<kvF b then -1 else if kvF a=kvF b then 0 else 1
end Go.VC
/- Who waits, plainly: their order, putting in, taking out, the first that fits. No condition. -/
namespace Go.VC
set_option linter.unusedVariables false
def ofF (k:Nat):Nat:=if 9223372036854775808≤k then k - 9223372036854775808 else 18446744073709551615 - k
theorem of_lt {k:Nat} (h:k<18446744073709551616):ofF k<18446744073709551616:=by
 unfold ofF
 split<;>omega
structure Wt where
 id:Int
 cls:Int
 many:Int
 time:Int
 sc:Nat
deriving DecidableEq
def Wt.Ok (w:Wt):Prop:=(1≤w.id∧w.id≤28629151)∧(0≤w.cls∧w.cls≤7)∧(1≤w.many∧w.many≤600)∧(0≤w.time∧w.time≤1099511627776)
instance (w:Wt):Decidable w.Ok:=by unfold Wt.Ok;infer_instance
def Wt.ahead (a b:Wt):Bool:=if kvF a.sc=kvF b.sc then (if a.time=b.time then decide (a.id<b.id) else decide (a.time<b.time)) else decide (kvF b.sc<kvF a.sc)
theorem ahead_iff {a b:Wt}:a.ahead b=true↔kvF b.sc<kvF a.sc∨kvF a.sc=kvF b.sc∧(a.time<b.time∨a.time=b.time∧a.id<b.id):=by
 unfold Wt.ahead
 split
 ·split
  ·simp;omega
  ·simp;omega
 ·simp;omega
theorem ahead_trans {a b c:Wt} (h1:a.ahead b=true) (h2:b.ahead c=true):a.ahead c=true:=by
 rw [ahead_iff] at *;omega
theorem ahead_tot {a b:Wt} (h:a.id≠b.id) (h1:a.ahead b=false):b.ahead a=true:=by
 rw [ahead_iff]
 have:¬ a.ahead b=true:=by rw [h1];simp
 rw [ahead_iff] at this
 omega
def Wt.ord (a b:Wt):Int:=if rankF b.sc a.sc≠0 then rankF b.sc a.sc else if a.time<b.time then -1 else if b.time<a.time then 1 else if a.id<b.id then -1 else if b.id<a.id then 1 else 0
theorem ord_neg {a b:Wt}:a.ord b<0↔a.ahead b=true:=by
 rw [ahead_iff]
 unfold Wt.ord rankF
 repeat' split
 all_goals first|omega|(simp at *;omega)
def QSt (q:List Wt):Prop:=q.Pairwise fun a b=>a.ahead b=true
def QIds (q:List Wt):Prop:=q.Pairwise fun a b=>a.id≠b.id
structure QOk (q:List Wt):Prop where
 st:QSt q
 ids:QIds q
 ok:∀ w∈q,w.Ok
 fl:∀ w∈q,w.sc<18446744073709551616
 len:q.length≤200
theorem QOk.nil:QOk []:=⟨List.Pairwise.nil,List.Pairwise.nil,fun _ h=>(by cases h),fun _ h=>(by cases h),by simp⟩
def insQ (w:Wt) (q:List Wt):List Wt:=q.takeWhile (fun a=>a.ahead w)++w::q.dropWhile (fun a=>a.ahead w)
theorem insQ_cons (w a:Wt) (q:List Wt):insQ w (a::q)=if a.ahead w then a::insQ w q else w::a::q:=by
 unfold insQ
 rw [List.takeWhile_cons,List.dropWhile_cons]
 split<;>rfl
theorem insQ_mem {w x:Wt}:∀ {q:List Wt},x∈insQ w q↔x=w∨x∈q
 |[]=>by simp [insQ]
 |a::q=>by
  rw [insQ_cons]
  split
  ·rw [List.mem_cons,insQ_mem,List.mem_cons]
   constructor
   ·rintro (h|h|h)<;>simp [h]
   ·rintro (h|h|h)<;>simp [h]
  ·rw [List.mem_cons]
theorem insQ_len {w:Wt}:∀ {q:List Wt},(insQ w q).length=q.length + 1
 |[]=>rfl
 |a::q=>by
  rw [insQ_cons]
  split
  ·rw [List.length_cons,insQ_len,List.length_cons]
  ·rfl
theorem insQ_st {w:Wt}:∀ {q:List Wt},QSt q→(∀ x∈q,x.id≠w.id)→QSt (insQ w q)
 |[],_,_=>List.Pairwise.cons (fun _ h=>(by cases h)) List.Pairwise.nil
 |a::q,h,hid=>by
  have h1:=List.pairwise_cons.1 h
  rw [insQ_cons]
  split
  ·rename_i ha
   refine List.Pairwise.cons (fun x hx=>?_) (insQ_st h1.2 fun x hx=>hid x (by simp [hx]))
   rcases insQ_mem.1 hx with rfl|hx
   ·exact ha
   ·exact h1.1 x hx
  ·rename_i ha
   have hwa:w.ahead a=true:=ahead_tot (hid a (by simp)) (by simpa using ha)
   refine List.Pairwise.cons (fun x hx=>?_) h
   rcases List.mem_cons.1 hx with rfl|hx
   ·exact hwa
   ·exact ahead_trans hwa (h1.1 x hx)
theorem insQ_ids {w:Wt}:∀ {q:List Wt},QIds q→(∀ x∈q,x.id≠w.id)→QIds (insQ w q)
 |[],_,_=>List.Pairwise.cons (fun _ h=>(by cases h)) List.Pairwise.nil
 |a::q,h,hid=>by
  have h1:=List.pairwise_cons.1 h
  rw [insQ_cons]
  split
  ·refine List.Pairwise.cons (fun x hx=>?_) (insQ_ids h1.2 fun x hx=>hid x (by simp [hx]))
   rcases insQ_mem.1 hx with rfl|hx
   ·exact hid a (by simp)
   ·exact h1.1 x hx
  ·refine List.Pairwise.cons (fun x hx=>?_) h
   exact fun e=>hid x hx e.symm
theorem insQ_at {w:Wt} {q:List Wt} {i:Nat} (hst:QSt q) (h1:i=0∨∃ h:i - 1<q.length,q[i - 1].ahead w=true) (h2:∀ h:i<q.length,q[i].ahead w=false) (hi:i≤q.length):insQ w q=q.take i++w::q.drop i:=by
 induction q generalizing i with
 |nil=>cases i with
  |zero=>rfl
  |succ n=>simp at hi
 |cons a q ih=>
  have hp:=List.pairwise_cons.1 hst
  rw [insQ_cons]
  cases i with
  |zero=>rw [if_neg (by have:=h2 (by simp);simp at this;simp [this])];rfl
  |succ n=>
   have ha:a.ahead w=true:=by
    rcases h1 with h1|⟨hl,h1⟩
    ·omega
    ·cases n with
     |zero=>simpa using h1
     |succ m=>
      have hm:m<q.length:=by simp at hl;omega
      exact ahead_trans (hp.1 q[m] (List.getElem_mem hm)) (by simpa using h1)
   rw [if_pos ha,ih hp.2 ?_ (fun hl=>by have:=h2 (by simp;omega);simpa using this) (by simp at hi;exact hi)]
   ·rfl
   ·cases n with
    |zero=>exact .inl rfl
    |succ m=>
     refine .inr ⟨by simp at hi;omega,?_⟩
     rcases h1 with h1|⟨hl,h1⟩
     ·omega
     ·simpa using h1
def hasQ (id:Int) (q:List Wt):Bool:=q.any fun w=>decide (w.id=id)
def qadd (q:List Wt) (w:Wt):List Wt × Int:=
 if ¬ w.Ok then (q,1) else if hasQ w.id q then (q,7) else if 200≤q.length then (q,3) else (insQ w q,0)
def delQ (id:Int):List Wt→List Wt
 |[]=>[]
 |w::q=>if w.id=id then q else w::delQ id q
def qrem (q:List Wt) (id:Int):List Wt × Int:=if hasQ id q then (delQ id q,0) else (q,2)
theorem hasQ_iff {id:Int} {q:List Wt}:hasQ id q=true↔∃ w∈q,w.id=id:=by
 unfold hasQ
 simp
theorem hasQ_no {id:Int} {q:List Wt}:hasQ id q=false↔∀ w∈q,w.id≠id:=by
 unfold hasQ
 simp
theorem delQ_sub {id:Int}:∀ {q:List Wt},(delQ id q).Sublist q
 |[]=>List.Sublist.refl _
 |w::q=>by
  show (if w.id=id then q else w::delQ id q).Sublist _
  split
  ·exact List.sublist_cons_self _ _
  ·exact delQ_sub.cons_cons _
theorem delQ_split {id:Int}:∀ {q:List Wt},hasQ id q=true→∃ A w C,q=A++w::C∧w.id=id∧(∀ x∈A,x.id≠id)∧delQ id q=A++C
 |[],h=>by cases h
 |w::q,h=>by
  by_cases e:w.id=id
  ·exact ⟨[],w,q,rfl,e,fun _ h=>(by cases h),by show (if w.id=id then q else _)=_;rw [if_pos e];rfl⟩
  ·have h2:hasQ id q=true:=by
    rw [hasQ_iff] at *
    obtain ⟨x,hx,hi⟩:=h
    rcases List.mem_cons.1 hx with rfl|hx
    ·exact absurd hi e
    ·exact ⟨x,hx,hi⟩
   obtain ⟨A,x,C,rfl,hx,hA,hd⟩:=delQ_split h2
   refine ⟨w::A,x,C,rfl,hx,fun y hy=>?_,?_⟩
   ·rcases List.mem_cons.1 hy with rfl|hy
    ·exact e
    ·exact hA y hy
   ·show (if w.id=id then _ else w::delQ id _)=_
    rw [if_neg e,hd];rfl
theorem delQ_mem {id:Int} {q:List Wt} (h:QIds q) {x:Wt}:x∈delQ id q↔x∈q∧x.id≠id:=by
 induction q with
 |nil=>simp [delQ]
 |cons w q ih=>
  have hp:=List.pairwise_cons.1 h
  show x∈(if w.id=id then q else w::delQ id q)↔_
  split
  ·rename_i e
   constructor
   ·exact fun hx=>⟨by simp [hx],fun e2=>hp.1 x hx (by rw [e,e2])⟩
   ·rintro ⟨hx,hn⟩
    rcases List.mem_cons.1 hx with rfl|hx
    ·exact absurd e hn
    ·exact hx
  ·rename_i e
   rw [List.mem_cons,ih hp.2,List.mem_cons]
   constructor
   ·rintro (rfl|⟨h1,h2⟩)
    ·exact ⟨.inl rfl,e⟩
    ·exact ⟨.inr h1,h2⟩
   ·rintro ⟨rfl|h1,h2⟩
    ·exact .inl rfl
    ·exact .inr ⟨h1,h2⟩
theorem QOk.del {q:List Wt} (h:QOk q) (id:Int):QOk (delQ id q):=
 ⟨h.st.sublist delQ_sub,h.ids.sublist delQ_sub,fun w hw=>h.ok w (delQ_sub.subset hw),fun w hw=>h.fl w (delQ_sub.subset hw),Nat.le_trans delQ_sub.length_le h.len⟩
theorem QOk.rem {q:List Wt} (h:QOk q) (id:Int):QOk (qrem q id).1:=by
 unfold qrem
 split
 ·exact h.del id
 ·exact h
theorem QOk.ins {q:List Wt} (h:QOk q) {w:Wt} (hw:w.Ok) (hf:w.sc<18446744073709551616) (hn:hasQ w.id q=false) (hl:q.length<200):QOk (insQ w q):=by
 have hn':=hasQ_no.1 hn
 refine ⟨insQ_st h.st hn',insQ_ids h.ids hn',fun x hx=>?_,fun x hx=>?_,by rw [insQ_len];omega⟩
 ·rcases insQ_mem.1 hx with rfl|hx
  ·exact hw
  ·exact h.ok x hx
 ·rcases insQ_mem.1 hx with rfl|hx
  ·exact hf
  ·exact h.fl x hx
theorem QOk.add {q:List Wt} (h:QOk q) {w:Wt} (hf:w.sc<18446744073709551616):QOk (qadd q w).1:=by
 unfold qadd
 split
 ·exact h
 ·rename_i h1
  split
  ·exact h
  ·rename_i h2
   split
   ·exact h
   ·rename_i h3
    exact h.ins (by simpa using h1) hf (by simpa using h2) (by omega)
def fitsQ (left:List Int) (w:Wt):Bool:=decide (w.cls<left.length) && decide (w.many≤left.getD w.cls.toNat 0)
def qfirst (q:List Wt) (left:List Int):Option Wt:=q.find? (fitsQ left)
theorem qfirst_mem {q:List Wt} {left:List Int} {w:Wt} (h:qfirst q left=some w):w∈q∧fitsQ left w=true:=
 ⟨List.mem_of_find?_eq_some h,List.find?_some h⟩
end Go.VC
/- A locator, plainly. No condition. -/
namespace Go.VC
set_option linter.unusedVariables false
def signB:List Int:=[65,66,67,68,69,70,71,72,74,75,76,77,78,80,81,82,84,85,86,87,88,89,90,50,51,52,53,54,55,56,57]
theorem signB_len:signB.length=31:=rfl
def worthFrom (c:Int):Nat→List Int→Int
 |_,[]=>-1
 |i,x::l=>if x=c then i else worthFrom c (i + 1) l
def worthT (c:Int):Int:=worthFrom c 0 signB
theorem worthFrom_bd (c:Int):∀ (i:Nat) (l:List Int),worthFrom c i l=-1∨(i≤worthFrom c i l∧worthFrom c i l<i + l.length)
 |_,[]=>.inl rfl
 |i,x::l=>by
  unfold worthFrom
  split
  ·right;simp;omega
  ·rcases worthFrom_bd c (i + 1) l with h|h
   ·exact .inl h
   ·right;simp;omega
theorem worth_bd (c:Int):worthT c=-1∨(0≤worthT c∧worthT c<31):=by
 have:=worthFrom_bd c 0 signB
 rw [signB_len] at this
 unfold worthT
 omega
theorem worth_of {i:Nat} (h:i<31):worthT (signB.getD i 0)=i:=by
 have:∀ j:Fin 31,worthT (signB.getD j.val 0)=j.val:=by decide
 exact this ⟨i,h⟩
theorem worth_from (c:Int):∀ (i:Nat) (l:List Int),(∀ k (hk:k<l.length),(∀ j (hj:j<k),l[j]'(by omega)≠c)→l[k]=c→worthFrom c i l=(i + k:Nat))∧((∀ x∈l,x≠c)→worthFrom c i l=-1)
 |i,[]=>⟨fun k hk=>(by simp at hk),fun _=>rfl⟩
 |i,x::l=>by
  refine ⟨fun k hk hj he=>?_,fun h=>?_⟩
  ·cases k with
   |zero=>unfold worthFrom;rw [if_pos (by simpa using he)];simp
   |succ n=>
    have h0:x≠c:=by simpa using hj 0 (by omega)
    unfold worthFrom
    rw [if_neg h0,(worth_from c (i + 1) l).1 n (by simp at hk;omega) (fun j hjn=>by simpa using hj (j + 1) (by omega)) (by simpa using he)]
    omega
  ·unfold worthFrom
   rw [if_neg (h x (by simp)),(worth_from c (i + 1) l).2 fun y hy=>h y (by simp [hy])]
def locN (l:List Int):Int:=l.foldl (fun n d=>n * 31 + d) 0
def wsum:Int→List Int→Int
 |_,[]=>0
 |k,d::l=>k * d + wsum (k + 1) l
theorem wsum_app (k:Int) (a b:List Int):wsum k (a++b)=wsum k a + wsum (k + a.length) b:=by
 induction a generalizing k with
 |nil=>simp [wsum]
 |cons x a ih=>simp only [List.cons_append,wsum,ih,List.length_cons];rw [show k + 1 + (a.length:Int)=k + ((a.length + 1:Nat):Int) by omega];omega
theorem locN_app (a:List Int) (d:Int):locN (a++[d])=locN a * 31 + d:=by simp [locN]
def digs (n:Int):List Int:=[n / 923521 % 31,n / 29791 % 31,n / 961 % 31,n / 31 % 31,n % 31]
theorem digs_bd (n:Int):∀ d∈digs n,0≤d∧d<31:=by
 intro d hd
 simp only [digs,List.mem_cons,List.not_mem_nil,or_false] at hd
 omega
theorem digs_n {n:Int} (h:0≤n∧n<28629151):locN (digs n)=n:=by
 simp only [locN,digs,List.foldl]
 omega
def chkD (n:Int):Int:=(31 - wsum 2 (digs n) % 31) % 31
def signAt (d:Int):Int:=signB.getD d.toNat 0
theorem worth_sign {d:Int} (h:0≤d∧d<31):worthT (signAt d)=d:=by
 unfold signAt
 rw [worth_of (by omega)]
 omega
def locB (n:Int):List Int:=(digs n++[chkD n]).map signAt
def locRd (bs:List Int):Int × Int:=
 if bs.length≠6∨(∃ c∈bs,worthT c<0) then (0,6)
 else if (wsum 2 ((bs.take 5).map worthT) + worthT (bs.getD 5 0)) % 31≠0 then (0,6)
 else (locN ((bs.take 5).map worthT),0)
theorem signAt_bd {d:Int} (h:0≤d∧d<31):0≤signAt d∧signAt d<128:=by
 have:∀ j:Fin 31,0≤signB.getD j.val 0∧signB.getD j.val 0<128:=by decide
 have h2:=this ⟨d.toNat,by omega⟩
 exact h2
theorem locB_len (n:Int):(locB n).length=6:=rfl
theorem chkD_bd (n:Int):0≤chkD n∧chkD n<31:=by unfold chkD;omega
theorem locB_bd (n:Int):∀ c∈locB n,0≤c∧c<128:=by
 intro c hc
 obtain ⟨d,hd,rfl⟩:=List.mem_map.1 hc
 refine signAt_bd ?_
 rcases List.mem_append.1 hd with hd|hd
 ·exact digs_bd n d hd
 ·rw [List.mem_singleton.1 hd];exact chkD_bd n
theorem map_worth {l:List Int} (h:∀ d∈l,0≤d∧d<31):(l.map signAt).map worthT=l:=by
 induction l with
 |nil=>rfl
 |cons a l ih=>rw [List.map_cons,List.map_cons,worth_sign (h a (by simp)),ih fun d hd=>h d (by simp [hd])]
theorem loc_back {n:Int} (h:0≤n∧n<28629151):locRd (locB n)=(n,0):=by
 have hd:∀ d∈digs n++[chkD n],0≤d∧d<31:=fun d hd=>by
  rcases List.mem_append.1 hd with hd|hd
  ·exact digs_bd n d hd
  ·rw [List.mem_singleton.1 hd];exact chkD_bd n
 unfold locRd
 rw [if_neg,if_neg]
 ·show (locN (((digs n).map signAt).map worthT),(0:Int))=_
  rw [map_worth (digs_bd n),digs_n h]
 ·show ¬ (wsum 2 (((digs n).map signAt).map worthT) + worthT (signAt (chkD n))) % 31≠0
  rw [map_worth (digs_bd n),worth_sign (chkD_bd n)]
  unfold chkD
  omega
 ·rintro (h1|⟨c,hc,h1⟩)
  ·exact h1 (locB_len n)
  ·obtain ⟨d,hdm,rfl⟩:=List.mem_map.1 hc
   rw [worth_sign (hd d hdm)] at h1
   have:=hd d hdm
   omega
theorem locF_bd:∀ {l:List Int} {a:Int} {k:Nat},(∀ d∈l,0≤d∧d<31)→(0≤a∧a<31 ^ k)→0≤l.foldl (fun n d=>n * 31 + d) a∧l.foldl (fun n d=>n * 31 + d) a<31 ^ (k + l.length)
 |[],_,_,_,h=>h
 |d::l,a,k,hd,h=>by
  have h2:=hd d (by simp)
  have h3:=locF_bd (l:=l) (a:=a * 31 + d) (k:=k + 1) (fun x hx=>hd x (by simp [hx])) (by rw [Int.pow_succ];omega)
  rw [List.length_cons,show k + (l.length + 1)=k + 1 + l.length by omega]
  exact h3
theorem locN_bd {l:List Int} (h:∀ d∈l,0≤d∧d<31):0≤locN l∧locN l<31 ^ l.length:=by
 have:=locF_bd (a:=0) (k:=0) h ⟨by omega,by simp⟩
 rw [Nat.zero_add] at this
 exact this
end Go.VC
/- Commands and replies as bytes, plainly: there and back. No condition. -/
namespace Go.Proofs.YtfgbbckfikiomaaGreatDoor
set_option linter.unusedVariables false
open Go Go.VC
def rdEach {α:Type} (one:Rd→α × Rd):Nat→Rd→List α × Rd
 |0,r=>([],r)
 |n + 1,r=>((one r).1::(rdEach one n (one r).2).1,(rdEach one n (one r).2).2)
theorem rdEach_succ {α:Type} (one:Rd→α × Rd) (n:Nat) (r:Rd):rdEach one (n + 1) r=((one r).1::(rdEach one n (one r).2).1,(rdEach one n (one r).2).2):=rfl
theorem rdEach_len {α:Type} (one:Rd→α × Rd):∀ (n:Nat) (r:Rd),(rdEach one n r).1.length=n
 |0,_=>rfl
 |n + 1,r=>by rw [rdEach_succ,List.length_cons,rdEach_len one n]
theorem rdEach_inv {α:Type} {one:Rd→α × Rd} {P:Rd→Prop} {Q:α→Prop} (h:∀ r,P r→Q (one r).1∧P (one r).2):∀ (n:Nat) {r:Rd},P r→(∀ x∈(rdEach one n r).1,Q x)∧P (rdEach one n r).2
 |0,_,hr=>⟨fun _ hx=>(by cases hx),hr⟩
 |n + 1,r,hr=>by
  have h1:=h r hr
  have h2:=rdEach_inv h n h1.2
  refine ⟨fun x hx=>?_,h2.2⟩
  rcases List.mem_cons.1 hx with rfl|hx
  ·exact h1.1
  ·exact h2.1 x hx
def Bytes (l:List Int):Prop:=∀ x∈l,0≤x∧x<256
def fltRd (r:Rd):Nat × Rd:=(ofF (rdNum 18446744073709551615 r).1.toNat,(rdNum 18446744073709551615 r).2)
theorem fltRd_bd {rd:Rd} (hb:Bytes rd.bs):Bytes (fltRd rd).2.bs:=rdNum_bd hb
theorem fltRd_lt {rd:Rd} (hb:Bytes rd.bs):(fltRd rd).1<18446744073709551616:=by
 have:=rdNum_val (most:=18446744073709551615) hb (by omega)
 exact of_lt (by omega)
structure Cm where
 kind:Int
 pnr:ByteArray
 flt:Int
 cls:Int
 many:Int
 time:Int
 sc:Nat
 lab:ByteArray
 rows:Int
 grps:List Int
 parts:List Nat
def numOk (n:Int):Prop:=0≤n∧n≤9999
structure RightC (c:Cm):Prop where
 flt:numOk c.flt
 cls:numOk c.cls
 many:numOk c.many
 rows:numOk c.rows
 grps:∀ n∈c.grps,numOk n
 pnr:c.pnr.size≤16
 lab:c.lab.size≤16
 gl:c.grps.length≤16
 pl:c.parts.length≤16
 kind:1≤c.kind∧c.kind≤9
 time:0≤c.time∧c.time≤1099511627776
structure FltC (c:Cm):Prop where
 sc:c.sc<18446744073709551616
 parts:∀ x∈c.parts,x<18446744073709551616
structure Rp where
 code:Int
 pnr:ByteArray
 state:Int
 flt:Int
 cls:Int
 many:Int
 time:Int
 left:List Int
 labs:List ByteArray
def nn (n:Int):Int:=max n 0
structure RpIn (r:Rp):Prop where
 code:0≤r.code∧r.code≤1099511627776
 pnr:r.pnr.size≤16
 state:0≤r.state∧r.state≤1099511627776
 flt:0≤r.flt∧r.flt≤1099511627776
 cls:0≤r.cls∧r.cls≤1099511627776
 many:0≤r.many∧r.many≤1099511627776
 time:0≤r.time∧r.time≤1099511627776
 ll:r.left.length≤8
 left:∀ n∈r.left,0≤n∧n≤1099511627776
 bl:r.labs.length≤600
 labs:∀ s∈r.labs,s.size≤16
end Go.Proofs.YtfgbbckfikiomaaGreatDoor
/- Lists by keys. No condition. -/
namespace Go.VC
set_option linter.unusedVariables false
section
variable {α:Type} {k:α→Int}
def KRise (k:α→Int) (l:List α):Prop:=l.Pairwise fun a b=>k a<k b
def kget (k:α→Int) (n:Int) (l:List α):Option α:=l.find? fun x=>decide (k x=n)
def kset (k:α→Int) (n:Int) (f:α→α) (l:List α):List α:=l.map fun x=>if k x=n then f x else x
def kdel (k:α→Int) (n:Int) (l:List α):List α:=l.filter fun x=>!decide (k x=n)
def kins (k:α→Int) (x:α) (l:List α):List α:=l.takeWhile (fun y=>decide (k y<k x))++x::l.dropWhile (fun y=>decide (k y<k x))
theorem KRise.uniq {l:List α} (h:KRise k l) {a b:α} (ha:a∈l) (hb:b∈l) (e:k a=k b):a=b:=by
 induction l with
 |nil=>cases ha
 |cons x l ih=>
  have hp:=List.pairwise_cons.1 h
  rcases List.mem_cons.1 ha with e1|h1
  ·rcases List.mem_cons.1 hb with e2|h2
   ·rw [e1,e2]
   ·have:=hp.1 b h2;rw [e1] at e;omega
  ·rcases List.mem_cons.1 hb with e2|h2
   ·have:=hp.1 a h1;rw [e2] at e;omega
   ·exact ih hp.2 h1 h2
theorem kget_some {n:Int} {l:List α} {x:α} (h:kget k n l=some x):x∈l∧k x=n:=
 ⟨List.mem_of_find?_eq_some h,by have:=List.find?_some h;simpa using this⟩
theorem kget_none {n:Int} {l:List α}:kget k n l=none↔∀ x∈l,k x≠n:=by
 unfold kget
 rw [List.find?_eq_none]
 simp
theorem kget_iff {n:Int} {l:List α} (h:KRise k l) {x:α}:kget k n l=some x↔x∈l∧k x=n:=by
 refine ⟨kget_some,fun ⟨h1,h2⟩=>?_⟩
 cases hg:kget k n l with
 |none=>exact absurd h2 (kget_none.1 hg x h1)
 |some y=>
  have:=kget_some hg
  rw [h.uniq this.1 h1 (by omega)]
theorem mem_kset {n:Int} {f:α→α} {l:List α} {y:α}:y∈kset k n f l↔∃ x∈l,y=if k x=n then f x else x:=by
 unfold kset
 rw [List.mem_map]
 exact ⟨fun ⟨x,h1,h2⟩=>⟨x,h1,h2.symm⟩,fun ⟨x,h1,h2⟩=>⟨x,h1,h2.symm⟩⟩
theorem mem_kdel {n:Int} {l:List α} {y:α}:y∈kdel k n l↔y∈l∧k y≠n:=by
 unfold kdel
 rw [List.mem_filter]
 simp
theorem kset_len {n:Int} {f:α→α} {l:List α}:(kset k n f l).length=l.length:=List.length_map _
theorem kset_rise {n:Int} {f:α→α} {l:List α} (h:KRise k l) (hf:∀ x∈l,k x=n→k (f x)=n):KRise k (kset k n f l):=by
 unfold KRise kset
 rw [List.pairwise_map]
 refine List.Pairwise.imp_of_mem (fun {a b} ha hb hab=>?_) h
 have h1:k (if k a=n then f a else a)=k a:=by
  split
  ·rename_i e;rw [hf a ha e,e]
  ·rfl
 have h2:k (if k b=n then f b else b)=k b:=by
  split
  ·rename_i e;rw [hf b hb e,e]
  ·rfl
 rw [h1,h2]
 exact hab
theorem kdel_rise {n:Int} {l:List α} (h:KRise k l):KRise k (kdel k n l):=h.sublist List.filter_sublist
theorem kset_no {n:Int} {f:α→α} {l:List α} (h:∀ x∈l,k x≠n):kset k n f l=l:=by
 induction l with
 |nil=>rfl
 |cons a l ih=>
  show (if k a=n then f a else a)::kset k n f l=_
  rw [if_neg (h a (by simp)),ih fun x hx=>h x (by simp [hx])]
theorem kdel_no {n:Int} {l:List α} (h:∀ x∈l,k x≠n):kdel k n l=l:=by
 unfold kdel
 rw [List.filter_eq_self]
 intro x hx
 simpa using h x hx
theorem kset_mid {n:Int} {f:α→α} {A C:List α} {x:α} (hx:k x=n) (h:KRise k (A++x::C)):kset k n f (A++x::C)=A++f x::C:=by
 have hp:=List.pairwise_append.1 h
 have hc:=List.pairwise_cons.1 hp.2.1
 have e1:kset k n f A=A:=kset_no fun y hy=>by have:=hp.2.2 y hy x (by simp);omega
 have e2:kset k n f C=C:=kset_no fun y hy=>by have:=hc.1 y hy;omega
 show List.map _ (A++x::C)=_
 rw [List.map_append,List.map_cons,if_pos hx]
 show kset k n f A++f x::kset k n f C=_
 rw [e1,e2]
theorem kdel_mid {n:Int} {A C:List α} {x:α} (hx:k x=n) (h:KRise k (A++x::C)):kdel k n (A++x::C)=A++C:=by
 have hp:=List.pairwise_append.1 h
 have hc:=List.pairwise_cons.1 hp.2.1
 have e1:kdel k n A=A:=kdel_no fun y hy=>by have:=hp.2.2 y hy x (by simp);omega
 have e2:kdel k n C=C:=kdel_no fun y hy=>by have:=hc.1 y hy;omega
 show List.filter _ (A++x::C)=_
 rw [List.filter_append,List.filter_cons,if_neg (by simpa using hx)]
 show kdel k n A++kdel k n C=_
 rw [e1,e2]
theorem kins_cons (x a:α) (l:List α):kins k x (a::l)=if k a<k x then a::kins k x l else x::a::l:=by
 unfold kins
 rw [List.takeWhile_cons,List.dropWhile_cons]
 by_cases h:k a<k x
 ·rw [decide_eq_true h,if_pos h];rfl
 ·rw [decide_eq_false h,if_neg h];rfl
theorem mem_kins {x y:α}:∀ {l:List α},y∈kins k x l↔y=x∨y∈l
 |[]=>by simp [kins]
 |a::l=>by
  rw [kins_cons]
  split
  ·rw [List.mem_cons,mem_kins,List.mem_cons]
   constructor
   ·rintro (h|h|h)<;>simp [h]
   ·rintro (h|h|h)<;>simp [h]
  ·rw [List.mem_cons]
theorem kins_len {x:α}:∀ {l:List α},(kins k x l).length=l.length + 1
 |[]=>rfl
 |a::l=>by
  rw [kins_cons]
  split
  ·rw [List.length_cons,kins_len,List.length_cons]
  ·rfl
theorem kins_rise {x:α}:∀ {l:List α},KRise k l→(∀ y∈l,k y≠k x)→KRise k (kins k x l)
 |[],_,_=>List.Pairwise.cons (fun _ h=>(by cases h)) List.Pairwise.nil
 |a::l,h,hn=>by
  have hp:=List.pairwise_cons.1 h
  rw [kins_cons]
  split
  ·rename_i ha
   refine List.Pairwise.cons (fun y hy=>?_) (kins_rise hp.2 fun y hy=>hn y (by simp [hy]))
   rcases mem_kins.1 hy with rfl|hy
   ·exact ha
   ·exact hp.1 y hy
  ·rename_i ha
   have:=hn a (by simp)
   refine List.Pairwise.cons (fun y hy=>?_) h
   rcases List.mem_cons.1 hy with rfl|hy
   ·omega
   ·have:=hp.1 y hy;omega
theorem kins_perm {x:α}:∀ {l:List α},(kins k x l).Perm (x::l)
 |[]=>List.Perm.refl _
 |a::l=>by
  rw [kins_cons]
  split
  ·exact (kins_perm.cons a).trans (List.Perm.swap x a l)
  ·exact List.Perm.refl _
theorem krise_snoc {l:List α} {x:α} (h:KRise k l) (hx:∀ y∈l,k y<k x):KRise k (l++[x]):=by
 refine List.pairwise_append.2 ⟨h,List.pairwise_singleton _ _,fun a ha b hb=>?_⟩
 rw [List.mem_singleton.1 hb]
 exact hx a ha
theorem KRise.ne {l:List α} (h:KRise k l):l.Pairwise fun a b=>k a≠k b:=h.imp fun hab e=>by omega
end
end Go.VC

/- Who waits, as bytes: there and back; what Decode tells. No condition. -/
namespace Go.Proofs.YtfgbbckfikiomaaGreatDoor
set_option linter.unusedVariables false
open Go Go.VC
def wtRd (r:Rd):Wt × Rd:=
 let a:=rdNum 28629151 r
 let b:=rdNum 7 a.2
 let c:=rdNum 600 b.2
 let d:=rdNum 1099511627776 c.2
 let e:=fltRd d.2
 (⟨a.1,b.1,c.1,d.1,e.1⟩,e.2)
theorem wtRd_bd {r:Rd} (hb:Bytes r.bs):Bytes (wtRd r).2.bs:=fltRd_bd (rdNum_bd (rdNum_bd (rdNum_bd (rdNum_bd hb))))
theorem wtRd_fl {r:Rd} (hb:Bytes r.bs):(wtRd r).1.sc<18446744073709551616:=fltRd_lt (rdNum_bd (rdNum_bd (rdNum_bd (rdNum_bd hb))))
structure QRight (q:List Wt):Prop where
 st:QSt q
 ids:QIds q
 ok:∀ w∈q,w.Ok
theorem QRight.pre {a b:List Wt} (h:QRight (a++b)):QRight a:=
 ⟨(List.pairwise_append.1 h.st).1,(List.pairwise_append.1 h.ids).1,fun w hw=>h.ok w (by simp [hw])⟩
theorem QRight.nil:QRight []:=⟨List.Pairwise.nil,List.Pairwise.nil,fun _ h=>(by cases h)⟩
theorem QRight.snoc {q:List Wt} {w:Wt} (h:QRight q) (hw:w.Ok) (hi:∀ x∈q,x.id≠w.id) (ha:∀ x∈q,x.ahead w=true):QRight (q++[w]):=by
 refine ⟨List.pairwise_append.2 ⟨h.st,List.pairwise_singleton _ _,fun a ha' b hb=>?_⟩,List.pairwise_append.2 ⟨h.ids,List.pairwise_singleton _ _,fun a ha' b hb=>?_⟩,fun x hx=>?_⟩
 ·rw [List.mem_singleton.1 hb];exact ha a ha'
 ·rw [List.mem_singleton.1 hb];exact hi a ha'
 ·rcases List.mem_append.1 hx with hx|hx
  ·exact h.ok x hx
  ·rw [List.mem_singleton.1 hx];exact hw
theorem QRight.last {q:List Wt} {w:Wt} (h:QRight (q++[w])):w.Ok∧(∀ x∈q,x.id≠w.id)∧∀ x∈q,x.ahead w=true:=
 ⟨h.ok w (by simp),fun x hx=>(List.pairwise_append.1 h.ids).2.2 x hx w (by simp),fun x hx=>(List.pairwise_append.1 h.st).2.2 x hx w (by simp)⟩
def qRaw (bs:List Int):List Wt × Rd:=rdEach wtRd (rdNum 200 ⟨bs,false⟩).1.toNat (rdNum 200 ⟨bs,false⟩).2
def QDec (bs:List Int):Prop:=rdWhole (qRaw bs).2=true∧QRight (qRaw bs).1
theorem qRaw_bd {bs:List Int} (hb:Bytes bs):(∀ w∈(qRaw bs).1,w.sc<18446744073709551616)∧Bytes (qRaw bs).2.bs:=
 rdEach_inv (one:=wtRd) (P:=fun r=>Bytes r.bs) (Q:=fun w=>w.sc<18446744073709551616) (fun _ hr=>⟨wtRd_fl hr,wtRd_bd hr⟩) (rdNum 200 ⟨bs,false⟩).1.toNat (r:=(rdNum 200 ⟨bs,false⟩).2) (rdNum_bd (rd:=⟨bs,false⟩) hb)
theorem qRaw_len {bs:List Int} (hb:Bytes bs):(qRaw bs).1.length≤200:=by
 have:=rdNum_val (most:=200) (rd:=⟨bs,false⟩) hb (by omega)
 show (rdEach wtRd _ _).1.length≤200
 rw [rdEach_len]
 omega
theorem QDec.ok {bs:List Int} (hb:Bytes bs) (h:QDec bs):QOk (qRaw bs).1:=⟨h.2.st,h.2.ids,h.2.ok,(qRaw_bd hb).1,qRaw_len hb⟩
end Go.Proofs.YtfgbbckfikiomaaGreatDoor
/- Both flights side by side: fresh, awake, few, do, alike. Condition: bounds. -/
namespace Go.Proofs.YtfgbbckfikiomaaGreatDoor
set_option linter.unusedVariables false
open Go Go.VC
variable {R R':Cx} {Hs Rest:List HP} {w:World}
def PairAt (p q:Nat) (r:RF):HP:=exs fun f:PF=>Star [pur (Tie f r∧Good r),FlightAt p f,RFAt q r]
theorem Sat.pair {p q:Nat} {r:RF}:Sat R (PairAt p q r::Hs) w↔∃ f,(Tie f r∧Good r)∧Sat R (FlightAt p f::RFAt q r::Hs) w:=by
 unfold PairAt
 rw [Sat.exs]
 constructor
 ·rintro ⟨f,h⟩
  obtain ⟨h1,h2⟩:=Sat.pur.1 (Sat.star.1 h)
  exact ⟨f,h1,h2⟩
 ·rintro ⟨f,h1,h2⟩
  exact ⟨f,Sat.star.2 (Sat.pur.2 ⟨h1,h2⟩)⟩
theorem Good.hL {r:RF} (g:Good r):r.L.length≤1000000:=by have:=g.len.1;omega
theorem find_in {n:Int} {g:List Int} {lab:ByteArray} {k:Int} (h:findT n g lab=(k,0)):0≤k∧k<layN n g:=by
 unfold findT at h
 split at h
 ·rename_i hl
  obtain ⟨l1,l2,l3⟩:=layOk_iff.1 hl
  have:=(find_iff (n:=n) (w:=g.sum) (k:=k) (lab:=lab) (by omega) (sum_pos l2 l1.2.2.1) l3).1 h
  rw [layN_ok hl]
  exact ⟨this.1,this.2.1⟩
 ·cases h
structure StepL where
 d:Int
 owner:Int
 cls:Int
 many:Int
 label:ByteArray
end Go.Proofs.YtfgbbckfikiomaaGreatDoor
/- The program's flight alone, told by the document's; alike; how the laws begin. Condition: bounds. -/
namespace Go.Proofs.YtfgbbckfikiomaaGreatDoor
set_option linter.unusedVariables false
open Go Go.VC
variable {R R':Cx} {Hs Rest:List HP} {w:World}
def LoneAt (p:Nat) (r:RF):HP:=exs fun f:PF=>Star [pur (Tie f r∧Good r),FlightAt p f]
theorem Sat.lone {p:Nat} {r:RF}:Sat R (LoneAt p r::Hs) w↔∃ f,(Tie f r∧Good r)∧Sat R (FlightAt p f::Hs) w:=by
 unfold LoneAt
 rw [Sat.exs]
 constructor
 ·rintro ⟨f,h⟩
  obtain ⟨h1,h2⟩:=Sat.pur.1 (Sat.star.1 h)
  exact ⟨f,h1,h2⟩
 ·rintro ⟨f,h1,h2⟩
  exact ⟨f,Sat.star.2 (Sat.pur.2 ⟨h1,h2⟩)⟩
theorem PairAt.open {p q:Nat} {r:RF} (hw:Sat R (PairAt p q r::Hs) w):Good r∧Sat R (LoneAt p r::RFAt q r::Hs) w:=by
 obtain ⟨f,h,hw⟩:=Sat.pair.1 hw
 exact ⟨h.2,Sat.lone.2 ⟨f,h,hw⟩⟩
theorem PairAt.close {p q:Nat} {r:RF} (hw:Sat R (LoneAt p r::RFAt q r::Hs) w):Sat R (PairAt p q r::Hs) w:=by
 obtain ⟨f,h,hw⟩:=Sat.lone.1 hw
 exact Sat.pair.2 ⟨f,h,hw⟩
section
variable {p:Nat} {r:RF}
theorem lone_take {o c m:Int} (hw:Sat R (LoneAt p r::Hs) w):Gets Tryz.prog 112 #[.pointer (some ⟨p,0,none⟩),.int .i64 o,.int .i64 c,.int .i64 m] w fun v w'=>v=.int .i64 (rtakeF r o c m).2∧Sat R (LoneAt p (rtakeF r o c m).1::Hs) w':=by
 obtain ⟨f,⟨t,g⟩,hw⟩:=Sat.lone.1 hw
 have b:=t.bounds g
 obtain ⟨e,t',g'⟩:=tie_take t g o c m
 refine (take_fspec (by omega) (by omega) hw).use ?_
 rintro _ w ⟨rfl,hw⟩
 exact ⟨_,rfl,by rw [e],Sat.lone.2 ⟨_,⟨t',g'⟩,hw⟩⟩
theorem lone_give {o:Int} (hw:Sat R (LoneAt p r::Hs) w):Gets Tryz.prog 115 #[.pointer (some ⟨p,0,none⟩),.int .i64 o] w fun v w'=>v=.int .i64 (rgiveF r o).2∧Sat R (LoneAt p (rgiveF r o).1::Hs) w':=by
 obtain ⟨f,⟨t,g⟩,hw⟩:=Sat.lone.1 hw
 have b:=t.bounds g
 obtain ⟨e,t',g'⟩:=tie_give t g o
 refine (give_fspec (by omega) (by omega) (fun e he=>by have:=b.2.2.2.2.2.1 e he;omega) hw).use ?_
 rintro _ w ⟨rfl,hw⟩
 exact ⟨_,rfl,by rw [e],Sat.lone.2 ⟨_,⟨t',g'⟩,hw⟩⟩
theorem lone_seat {o:Int} {lab:ByteArray} (hl:lab.size≤9223372036854775807) (hw:Sat R (LoneAt p r::Hs) w):Gets Tryz.prog 117 #[.pointer (some ⟨p,0,none⟩),.int .i64 o,.string lab] w fun v w'=>v=.int .i64 (rseatF r o lab).2∧Sat R (LoneAt p (rseatF r o lab).1::Hs) w':=by
 obtain ⟨f,⟨t,g⟩,hw⟩:=Sat.lone.1 hw
 have b:=t.bounds g
 obtain ⟨e,t',g'⟩:=tie_seat t g o lab fun k hk=>find_in hk
 refine (seat_fspec (by omega) hl (fun e he=>by have:=b.2.2.2.2.2.1 e he;exact ⟨this.1,by omega⟩) hw).use ?_
 rintro _ w ⟨rfl,hw⟩
 exact ⟨_,rfl,by rw [e],Sat.lone.2 ⟨_,⟨t',g'⟩,hw⟩⟩
theorem lone_auto {o:Int} (hw:Sat R (LoneAt p r::Hs) w):Gets Tryz.prog 118 #[.pointer (some ⟨p,0,none⟩),.int .i64 o] w fun v w'=>∃ t:Sl,v=.tuple #[.slice t.a t.len t.cap,.int .i64 (rautoF r o).2.2]∧Sat R (Own t 9 ((rautoF r o).2.1.map Value.string)::LoneAt p (rautoF r o).1::Hs) w':=by
 obtain ⟨f,⟨t,g⟩,hw⟩:=Sat.lone.1 hw
 have b:=t.bounds g
 obtain ⟨e,t',g',_⟩:=tie_auto t g o
 refine (auto_fspec (by omega) t.nod (fun k hk=>by have:=t.ownIn g k hk;have:=layN_bd r.rows r.grps;omega) (by omega) hw).use ?_
 rintro _ w ⟨s,rfl,hw⟩
 rw [e] at hw
 exact ⟨_,rfl,s,by rw [e],hw.cons fun _ h=>Sat.lone.2 ⟨_,⟨t',g'⟩,h⟩⟩
theorem lone_left (hw:Sat R (LoneAt p r::Hs) w):Gets Tryz.prog 58 #[.pointer (some ⟨p,0,none⟩)] w fun v w'=>∃ t:Sl,v=.slice t.a t.len t.cap∧Sat R (Own t 3 (intsI (rleftsF r))::LoneAt p r::Hs) w':=by
 obtain ⟨f,⟨t,g⟩,hw⟩:=Sat.lone.1 hw
 have b:=t.bounds g
 refine (left_fspec (by omega) (by omega) hw).use ?_
 rintro _ w ⟨s,rfl,hw⟩
 rw [tie_left t] at hw
 exact ⟨_,rfl,s,rfl,hw.cons fun _ h=>Sat.lone.2 ⟨_,⟨t,g⟩,h⟩⟩
theorem lone_labels {o:Int} (hw:Sat R (LoneAt p r::Hs) w):Gets Tryz.prog 130 #[.pointer (some ⟨p,0,none⟩),.int .i64 o] w fun v w'=>∃ t:Sl,v=.slice t.a t.len t.cap∧Sat R (Own t 9 ((rlabelsF r o).map Value.string)::LoneAt p r::Hs) w':=by
 obtain ⟨f,⟨t,g⟩,hw⟩:=Sat.lone.1 hw
 have b:=t.bounds g
 refine (labels_fspec (by omega) (fun e he=>by have:=b.2.2.2.2.2.1 e he;omega) hw).use ?_
 rintro _ w ⟨s,rfl,hw⟩
 rw [tie_labels t g.rise] at hw
 exact ⟨_,rfl,s,rfl,hw.cons fun _ h=>Sat.lone.2 ⟨_,⟨t,g⟩,h⟩⟩
end
end Go.Proofs.YtfgbbckfikiomaaGreatDoor


/- FlightUnseats, FlightBack. Condition: bounds. -/
namespace Go.Proofs.YtfgbbckfikiomaaGreatDoor
set_option linter.unusedVariables false
open Go Go.VC
variable {R R':Cx} {Hs Rest:List HP} {w:World}
theorem seat_ok {r:RF} (g:Good r) {o:Int} {lab:ByteArray} (h:(rseatF r o lab).2=0):∃ A hd C n,findT r.rows r.grps lab=(n,0)∧r.L=A++hd::C∧hd.owner=o∧getO o A=none∧n ∉ takenL r.L∧rseatF r o lab=({ r with L:=A++hd.put n::C },0):=by
 unfold rseatF at h ⊢
 cases hg:getO o r.L with
 |none=>rw [hg] at h;cases h
 |some hd=>
  rw [hg] at h
  obtain ⟨A,C,hL,hA,ho⟩:=getO_split hg
  dsimp only at h ⊢
  split at h
  ·cases h
  rename_i h1
  split at h
  ·cases h
  rename_i h2
  split at h
  ·cases h
  rename_i h3
  rw [if_neg h1,if_neg h2,if_neg h3]
  refine ⟨A,hd,C,(findT r.rows r.grps lab).1,?_,hL,ho,hA,h3,?_⟩
  ·have:(findT r.rows r.grps lab).2=0:=Classical.byContradiction h1
   rw [←this]
  ·rw [hL,setO_app ho hA]
theorem seat_no {r:RF} {o:Int} {lab:ByteArray} (h:(rseatF r o lab).2≠0):(rseatF r o lab).1=r∧((rseatF r o lab).2=2∨(rseatF r o lab).2=7∨(rseatF r o lab).2=3):=by
 unfold rseatF at h ⊢
 split at h
 ·exact ⟨rfl,.inl rfl⟩
 ·split at h
  ·rename_i h1;rw [if_pos h1];exact ⟨rfl,.inl rfl⟩
  rename_i h1
  rw [if_neg h1]
  split at h
  ·rename_i h2;rw [if_pos h2];exact ⟨rfl,.inr (.inl rfl)⟩
  rename_i h2
  rw [if_neg h2]
  split at h
  ·rename_i h3;rw [if_pos h3];exact ⟨rfl,.inr (.inr rfl)⟩
  ·exact absurd rfl h
theorem insH_split {h:Hold}:∀ {L:List Hold},getO h.owner L=none→∃ A C,insH h L=A++h::C∧L=A++C∧getO h.owner A=none
 |[],_=>⟨[],[],rfl,rfl,rfl⟩
 |x::L,hn=>by
  rw [getO_cons] at hn
  split at hn
  ·cases hn
  rename_i hx
  unfold insH
  split
  ·obtain ⟨A,C,h1,h2,h3⟩:=insH_split hn
   exact ⟨x::A,C,by rw [h1];rfl,by rw [h2];rfl,by rw [getO_cons,if_neg hx];exact h3⟩
  ·exact ⟨[],x::L,rfl,rfl,rfl⟩
theorem take_ok {r:RF} {o c m:Int} (h:(rtakeF r o c m).2=0):∃ A C,rtakeF r o c m=({ r with L:=A++⟨o,c,m,[]⟩::C },0)∧r.L=A++C∧getO o A=none:=by
 unfold rtakeF at h ⊢
 split at h
 ·cases h
 rename_i h1
 split at h
 ·cases h
 rename_i h2
 rw [if_neg h1,if_neg h2]
 split at h
 ·rename_i h3
  rw [if_pos h3]
  have hno:getO o r.L=none:=by cases e:getO o r.L with|none=>rfl|some x=>rw [e] at h2;simp at h2
  obtain ⟨A,C,e1,e2,e3⟩:=insH_split (h:=⟨o,c,m,[]⟩) hno
  exact ⟨A,C,by rw [e1],e2,e3⟩
 ·rename_i h3;exact absurd h h3
theorem take_no {r:RF} {o c m:Int} (h:(rtakeF r o c m).2≠0):(rtakeF r o c m).1=r:=by
 unfold rtakeF at h ⊢
 split at h
 ·rename_i h1;rw [if_pos h1]
 rename_i h1
 rw [if_neg h1]
 split at h
 ·rename_i h2;rw [if_pos h2]
 rename_i h2
 rw [if_neg h2]
 split at h
 ·exact absurd rfl h
 ·rename_i h3;rw [if_neg h3]
end Go.Proofs.YtfgbbckfikiomaaGreatDoor
/- The book, plainly: what each command does. No condition. -/
namespace Go.Proofs.YtfgbbckfikiomaaGreatDoor
set_option linter.unusedVariables false
open Go Go.VC
open Classical
noncomputable section
structure Pl where
 r:RF
 q:List Wt
abbrev Pl.n (p:Pl):Int:=p.r.num
structure Bk where
 id:Int
 flt:Int
 cls:Int
 many:Int
 state:Int
 till:Int
structure Book where
 now:Int
 next:Int
 fl:List Pl
 L:List Bk
def Book.at (b:Book) (n:Int):Option Pl:=kget Pl.n n b.fl
def Book.bk (b:Book) (id:Int):Option Bk:=kget Bk.id id b.L
def Book.put (b:Book) (n:Int) (f:Pl→Pl) (L:List Bk):Book:={ b with fl:=kset Pl.n n f b.fl,L:=L }
def newBook:Book:=⟨0,1,[],[]⟩
def emS:ByteArray:=ByteArray.empty
def errR (e:Int):Rp:=⟨e,emS,0,0,0,0,0,[],[]⟩
def locS (id:Int):ByteArray:=VC.strOf (locB id)
def tellP (p:Pl) (x:Bk):Rp:=⟨0,locS x.id,x.state,x.flt,x.cls,x.many,x.till,rleftsF p.r,rlabelsF p.r x.id⟩
def tellB (b:Book) (x:Bk):Rp:=match b.at x.flt with
 |none=>errR 0
 |some p=>tellP p x
def takeW (w:Wt) (p:Pl):Pl:=⟨(rtakeF p.r w.id w.cls w.many).1,delQ w.id p.q⟩
def bookX (x:Bk):Bk:={ x with state:=2 }
def moveB (b:Book) (n:Int) (w:Wt):Book:=b.put n (takeW w) (kset Bk.id w.id bookX b.L)
def promB:Nat→Int→Book→Book
 |0,_,b=>b
 |k + 1,n,b=>match b.at n with
  |none=>b
  |some p=>match qfirst p.q (rleftsF p.r) with
   |none=>b
   |some w=>promB k n (moveB b n w)
def promote (n:Int) (b:Book):Book:=promB 201 n b
def openB (b:Book) (c:Cm):Book × Rp:=
 if (b.at c.flt).isSome then (b,errR 7) else if 8≤b.fl.length then (b,errR 3)
 else if ¬ newOk c.flt c.rows c.grps c.parts then (b,errR 1)
 else ({ b with fl:=kins Pl.n ⟨rnewF c.flt c.rows c.grps (limitsT (layN c.rows c.grps) c.parts).1,[]⟩ b.fl },
  ⟨0,emS,0,c.flt,0,0,0,rleftsF (rnewF c.flt c.rows c.grps (limitsT (layN c.rows c.grps) c.parts).1),[]⟩)
def Book.full (b:Book):Prop:=300≤b.L.length∨28629151≤b.next
def takeP (id cls many:Int) (p:Pl):Pl:={ p with r:=(rtakeF p.r id cls many).1 }
def heldX (b:Book) (c:Cm):Bk:=⟨b.next,c.flt,c.cls,c.many,1,c.time⟩
def heldB (b:Book) (c:Cm):Book × Rp:=
 match b.at c.flt with
 |none=>(b,errR 2)
 |some p=>
  if c.time≤b.now then (b,errR 1) else if b.full then (b,errR 3)
  else if (rtakeF p.r b.next c.cls c.many).2≠0 then (b,errR (rtakeF p.r b.next c.cls c.many).2)
  else ({ b.put c.flt (takeP b.next c.cls c.many) (b.L++[heldX b c]) with next:=b.next + 1 },tellP (takeP b.next c.cls c.many p) (heldX b c))
def waitW (b:Book) (c:Cm):Wt:=⟨b.next,c.cls,c.many,b.now,c.sc⟩
def waitX (b:Book) (c:Cm):Bk:=⟨b.next,c.flt,c.cls,c.many,3,0⟩
def waitP (w:Wt) (p:Pl):Pl:={ p with q:=insQ w p.q }
def queued (b:Book) (c:Cm):Book:={ b.put c.flt (waitP (waitW b c)) (b.L++[waitX b c]) with next:=b.next + 1 }
def waitB (b:Book) (c:Cm):Book × Rp:=
 match b.at c.flt with
 |none=>(b,errR 2)
 |some p=>
  if (p.r.lims.length:Int)≤c.cls then (b,errR 1) else if b.full then (b,errR 3)
  else if (qadd p.q (waitW b c)).2≠0 then (b,errR (qadd p.q (waitW b c)).2)
  else (promote c.flt (queued b c),match (promote c.flt (queued b c)).bk b.next with
   |none=>errR 0
   |some x=>tellB (promote c.flt (queued b c)) x)
def old (now:Int) (x:Bk):Bool:=decide (x.state=1) && decide (x.till≤now)
def giveP (id:Int) (p:Pl):Pl:={ p with r:=(rgiveF p.r id).1 }
def dropB (b:Book) (x:Bk):Book:=b.put x.flt (giveP x.id) (kdel Bk.id x.id b.L)
def expAll:List Bk→Book→Book
 |[],b=>b
 |x::l,b=>expAll l (if old b.now x then dropB b x else b)
def promAll (l:List Int) (b:Book):Book:=l.foldl (fun b n=>promote n b) b
def ticked (b:Book) (t:Int):Book:=expAll b.L { b with now:=t }
def clockB (b:Book) (c:Cm):Book × Rp:=
 if c.time<b.now then (b,errR 7)
 else (promAll (b.fl.map Pl.n) (ticked b c.time),⟨0,emS,0,0,0,0,c.time,[],[]⟩)
def namedB (b:Book) (pnr:ByteArray):Option Bk × Int:=
 if (locRd (bytesL pnr)).2≠0 then (none,(locRd (bytesL pnr)).2) else match b.bk (locRd (bytesL pnr)).1 with
  |none=>(none,2)
  |some x=>(some x,0)
def sureX (x:Bk):Bk:={ x with state:=2,till:=0 }
def quitP (id:Int) (p:Pl):Pl:={ p with q:=delQ id p.q }
def gone (b:Book) (x:Bk):Book:=if x.state=3 then b.put x.flt (quitP x.id) (kdel Bk.id x.id b.L) else dropB b x
def seatP (r:RF) (p:Pl):Pl:={ p with r:=r }
def oneB (b:Book) (x:Bk) (c:Cm):Book × Rp:=
 match b.at x.flt with
 |none=>(b,errR 0)
 |some p=>
  if c.kind=3 then (if x.state≠1 then (b,errR 7) else ({ b with L:=kset Bk.id x.id sureX b.L },tellP p (sureX x)))
  else if c.kind=4 then (promote x.flt (gone b x),⟨0,c.pnr,0,0,0,0,0,[],[]⟩)
  else if x.state=3 then (b,errR 7)
  else if c.kind=5 then
   (if (rseatF p.r x.id c.lab).2≠0 then (b,errR (rseatF p.r x.id c.lab).2)
    else (b.put x.flt (seatP (rseatF p.r x.id c.lab).1) b.L,tellP (seatP (rseatF p.r x.id c.lab).1 p) x))
  else (if (rautoF p.r x.id).2.2≠0 then (b,errR (rautoF p.r x.id).2.2)
    else (b.put x.flt (seatP (rautoF p.r x.id).1) b.L,tellP (seatP (rautoF p.r x.id).1 p) x))
def showB (b:Book) (c:Cm):Rp:=
 if ¬ RightC c∨c.kind≠9 then errR 1
 else if c.pnr≠emS then (match namedB b c.pnr with
  |(none,e)=>errR e
  |(some x,_)=>tellB b x)
 else match b.at c.flt with
  |none=>errR 2
  |some p=>⟨0,emS,0,c.flt,0,(p.q.length:Int),0,rleftsF p.r,[]⟩
def applyB (b:Book) (c:Cm):Book × Rp:=
 if ¬ RightC c then (b,errR 1)
 else if c.kind=1 then openB b c
 else if c.kind=2 then heldB b c
 else if c.kind=7 then waitB b c
 else if c.kind=8 then clockB b c
 else if c.kind=9 then (b,showB b c)
 else match namedB b c.pnr with
  |(none,e)=>(b,errR e)
  |(some x,_)=>oneB b x c
def HasP (p:Pl) (x:Bk):Prop:=
 if x.state=3 then (∃ w∈p.q,w.id=x.id∧w.cls=x.cls∧w.many=x.many)∧x.cls<p.r.lims.length
 else ∃ h∈p.r.L,h.owner=x.id∧h.cls=x.cls∧h.many=x.many
structure BkOk (next:Int) (x:Bk):Prop where
 id:1≤x.id∧x.id<next
 flt:0≤x.flt∧x.flt≤9999
 cls:0≤x.cls∧x.cls≤9999
 many:0≤x.many∧x.many≤9999
 state:1≤x.state∧x.state≤3
 till:0≤x.till∧x.till≤1099511627776
 free:x.state≠1→x.till=0
structure LocP (L:List Bk) (p:Pl):Prop where
 has:∀ x∈L,x.flt=p.n→HasP p x
 backQ:∀ w∈p.q,∃ x∈L,x.id=w.id∧x.flt=p.n∧x.state=3
 backH:∀ h∈p.r.L,∃ x∈L,x.id=h.owner∧x.flt=p.n∧x.state≠3
structure Core (b:Book):Prop where
 now:0≤b.now∧b.now≤1099511627776
 next:1≤b.next∧b.next≤28629151
 good:∀ p∈b.fl,Good p.r
 qok:∀ p∈b.fl,QOk p.q
 nums:KRise Pl.n b.fl
 few:b.fl.length≤8
 ids:KRise Bk.id b.L
 each:∀ x∈b.L,BkOk b.next x
 many:b.L.length≤300
 there:∀ x∈b.L,∃ p∈b.fl,p.n=x.flt
 loc:∀ p∈b.fl,LocP b.L p
def Timely (b:Book):Prop:=∀ x∈b.L,x.state=1→b.now<x.till
def NoFit (p:Pl):Prop:=qfirst p.q (rleftsF p.r)=none
structure BookOk (b:Book):Prop where
 core:Core b
 time:Timely b
 nofit:∀ p∈b.fl,NoFit p
theorem core_new:Core newBook:=
 ⟨⟨by decide,by decide⟩,⟨by decide,by decide⟩,fun _ h=>(by cases h),fun _ h=>(by cases h),List.Pairwise.nil,by decide,List.Pairwise.nil,fun _ h=>(by cases h),by decide,fun _ h=>(by cases h),fun _ h=>(by cases h)⟩
theorem ok_new:BookOk newBook:=⟨core_new,fun _ h=>(by cases h),fun _ h=>(by cases h)⟩
theorem Core.swap {b:Book} (c:Core b) {n:Int} {f:Pl→Pl} {L:List Bk} {next:Int} (hn:b.next≤next∧next≤28629151)
  (hf:∀ p∈b.fl,p.n=n→(f p).n=n∧Good (f p).r∧QOk (f p).q∧LocP L (f p))
  (ids:KRise Bk.id L) (each:∀ x∈L,BkOk next x) (many:L.length≤300)
  (out:∀ x,x.flt≠n→(x∈L↔x∈b.L)) (here:∀ x∈L,x.flt=n→∃ p∈b.fl,p.n=n):Core { b.put n f L with next:=next }:=by
 have hmem:∀ {p},p∈kset Pl.n n f b.fl→∃ q∈b.fl,q.n=p.n∧((q.n=n∧p=f q)∨(q.n≠n∧p=q)):=fun {p} hp=>by
  obtain ⟨q,hq,e⟩:=mem_kset.1 hp
  by_cases h:q.n=n
  ·rw [if_pos h] at e
   exact ⟨q,hq,by rw [e,(hf q hq h).1,h],.inl ⟨h,e⟩⟩
  ·rw [if_neg h] at e
   exact ⟨q,hq,by rw [e],.inr ⟨h,e⟩⟩
 have hput:∀ {q},q∈b.fl→∃ p∈kset Pl.n n f b.fl,p.n=q.n:=fun {q} hq=>by
  by_cases h:q.n=n
  ·exact ⟨f q,mem_kset.2 ⟨q,hq,by rw [if_pos h]⟩,by rw [(hf q hq h).1,h]⟩
  ·exact ⟨q,mem_kset.2 ⟨q,hq,by rw [if_neg h]⟩,rfl⟩
 refine ⟨c.now,⟨Int.le_trans c.next.1 hn.1,hn.2⟩,fun p hp=>?_,fun p hp=>?_,kset_rise c.nums fun p hp e=>(hf p hp e).1,by show (kset Pl.n n f b.fl).length≤8;rw [kset_len];exact c.few,ids,each,many,fun x hx=>?_,fun p hp=>?_⟩
 ·obtain ⟨q,hq,_,⟨h,rfl⟩|⟨h,rfl⟩⟩:=hmem hp
  ·exact (hf q hq h).2.1
  ·exact c.good p hq
 ·obtain ⟨q,hq,_,⟨h,rfl⟩|⟨h,rfl⟩⟩:=hmem hp
  ·exact (hf q hq h).2.2.1
  ·exact c.qok p hq
 ·by_cases h:x.flt=n
  ·obtain ⟨p,hp,e⟩:=here x hx h
   obtain ⟨p',hp',e'⟩:=hput hp
   exact ⟨p',hp',by rw [e',e,h]⟩
  ·obtain ⟨p,hp,e⟩:=c.there x ((out x h).1 hx)
   obtain ⟨p',hp',e'⟩:=hput hp
   exact ⟨p',hp',by rw [e',e]⟩
 ·obtain ⟨q,hq,_,⟨h,rfl⟩|⟨h,rfl⟩⟩:=hmem hp
  ·exact (hf q hq h).2.2.2
  ·have hl:=c.loc p hq
   refine ⟨fun x hx e=>hl.has x ((out x (by rw [e];exact h)).1 hx) e,fun w hw=>?_,fun o ho=>?_⟩
   ·obtain ⟨x,hx,a1,a2,a3⟩:=hl.backQ w hw
    exact ⟨x,(out x (by rw [a2];exact h)).2 hx,a1,a2,a3⟩
   ·obtain ⟨x,hx,a1,a2,a3⟩:=hl.backH o ho
    exact ⟨x,(out x (by rw [a2];exact h)).2 hx,a1,a2,a3⟩
theorem BkOk.le {n m:Int} {x:Bk} (h:BkOk n x) (hl:n≤m):BkOk m x:=⟨⟨h.id.1,Int.lt_of_lt_of_le h.id.2 hl⟩,h.flt,h.cls,h.many,h.state,h.till,h.free⟩
theorem at_some {b:Book} {n:Int} {p:Pl} (h:b.at n=some p):p∈b.fl∧p.n=n:=kget_some h
theorem at_iff {b:Book} (c:Core b) {n:Int} {p:Pl}:b.at n=some p↔p∈b.fl∧p.n=n:=kget_iff c.nums
theorem bk_iff {b:Book} (c:Core b) {n:Int} {x:Bk}:b.bk n=some x↔x∈b.L∧x.id=n:=kget_iff c.ids
theorem Core.at_of {b:Book} (c:Core b) {x:Bk} (hx:x∈b.L):∃ p,b.at x.flt=some p:=by
 obtain ⟨p,hp,e⟩:=c.there x hx
 exact ⟨p,(at_iff c).2 ⟨hp,e⟩⟩
theorem at_put {b:Book} {n:Int} {f:Pl→Pl} {L:List Bk} {p:Pl} (hf:(f p).n=n) (c:Core b) (h:b.at n=some p) (c':KRise Pl.n (kset Pl.n n f b.fl)):(b.put n f L).at n=some (f p):=by
 have h1:=at_some h
 exact (kget_iff c').2 ⟨mem_kset.2 ⟨p,h1.1,by rw [if_pos h1.2]⟩,hf⟩
end
end Go.Proofs.YtfgbbckfikiomaaGreatDoor
/- What a flight's steps do to what is left, and to who has what. No condition. -/
namespace Go.Proofs.YtfgbbckfikiomaaGreatDoor
set_option linter.unusedVariables false
open Go Go.VC
variable {r:RF} {o c m:Int}
theorem good_take (g:Good r) (o c m:Int):Good (rtakeF r o c m).1:=by
 obtain ⟨f,_,t⟩:=dec_enc g
 exact (tie_take t g o c m).2.2
theorem good_give (g:Good r) (o:Int):Good (rgiveF r o).1:=by
 obtain ⟨f,_,t⟩:=dec_enc g
 exact (tie_give t g o).2.2
theorem good_seat (g:Good r) (o:Int) (lab:ByteArray):Good (rseatF r o lab).1:=by
 obtain ⟨f,_,t⟩:=dec_enc g
 exact (tie_seat t g o lab fun k h=>find_in h).2.2
theorem good_auto (g:Good r) (o:Int):Good (rautoF r o).1:=by
 obtain ⟨f,_,t⟩:=dec_enc g
 exact (tie_auto t g o).2.2.1
theorem take_num:(rtakeF r o c m).1.num=r.num∧(rtakeF r o c m).1.lims=r.lims:=by
 by_cases h:(rtakeF r o c m).2=0
 ·obtain ⟨A,C,e,_,_⟩:=take_ok h
  rw [e]
  exact ⟨rfl,rfl⟩
 ·rw [take_no h]
  exact ⟨rfl,rfl⟩
theorem take_mem (h:(rtakeF r o c m).2=0) {x:Hold}:x∈(rtakeF r o c m).1.L↔x=⟨o,c,m,[]⟩∨x∈r.L:=by
 obtain ⟨A,C,e,hL,_⟩:=take_ok h
 rw [e,hL]
 dsimp only
 rw [List.mem_append,List.mem_cons,List.mem_append]
 constructor
 ·rintro (h|h|h)<;>simp [h]
 ·rintro (h|h|h)<;>simp [h]
theorem take_facts (h:(rtakeF r o c m).2=0):(1≤o∧o≤28629151)∧getO o r.L=none∧(sellT r.lims r.sold c m).2=0∧rtakeF r o c m=({ r with L:=insH ⟨o,c,m,[]⟩ r.L },0):=by
 unfold rtakeF at h ⊢
 split at h
 ·cases h
 rename_i h1
 split at h
 ·cases h
 rename_i h2
 rw [if_neg h1,if_neg h2]
 split at h
 ·rename_i h3
  rw [if_pos h3]
  exact ⟨by omega,by cases e:getO o r.L with|none=>rfl|some x=>rw [e] at h2;simp at h2,h3,rfl⟩
 ·rename_i h3;exact absurd h h3
theorem take_sold (h:(rtakeF r o c m).2=0):(rtakeF r o c m).1.sold=r.sold.set c.toNat (r.sold.getD c.toNat 0 + m)∧0≤c∧c<r.lims.length∧1≤m:=by
 obtain ⟨_,_,h3,e⟩:=take_facts h
 obtain ⟨_,_,c0,c1,m0⟩:=nest_sell h3
 refine ⟨?_,c0,c1,m0⟩
 rw [e]
 exact (soldL_put (n:=r.lims.length) (insH_perm ⟨o,c,m,[]⟩ r.L) c0 c1).symm
theorem mnF_mono {x y:Nat→Int}:∀ {k:Nat},(∀ i,i<k→x i≤y i)→mnF x k≤mnF y k
 |0,_=>Int.le_refl _
 |k + 1,h=>by
  have h1:=mnF_mono (k:=k) fun i hi=>h i (by omega)
  have h2:=h k (by omega)
  unfold mnF
  split<;>split<;>omega
theorem lefts_len (r:RF):(rleftsF r).length=r.lims.length:=by simp [rleftsF]
theorem lefts_get {k:Nat} (h:k<r.lims.length):(rleftsF r).getD k 0=(leftT r.lims r.sold k).1:=by
 unfold rleftsF
 rw [List.getD_eq_getElem?_getD]
 simp [h]
theorem left_val (g:Good r) {k:Nat} (h:k<r.lims.length):(leftT r.lims r.sold k).1=mnF (roomF r.lims r.sold) (k + 1)∧(leftT r.lims r.sold k).2=0:=by
 unfold leftT
 rw [if_pos ⟨g.nest,by omega,by omega⟩]
 exact ⟨by rw [Int.toNat_natCast],rfl⟩
theorem take_left (g:Good r) (h:(rtakeF r o c m).2=0) {k:Nat} (hk:k<r.lims.length):(rleftsF (rtakeF r o c m).1).getD k 0≤(rleftsF r).getD k 0:=by
 obtain ⟨hs,c0,c1,m0⟩:=take_sold h
 have hl:=(take_num (r:=r) (o:=o) (c:=c) (m:=m)).2
 have g':=good_take g o c m
 rw [lefts_get hk,lefts_get (by rw [hl];exact hk),(left_val g hk).1,(left_val g' (by rw [hl];exact hk)).1,hl,hs]
 refine mnF_mono fun i hi=>?_
 unfold roomF
 have hlen:r.sold.length=r.lims.length:=soldL_len _ _
 have:=fromN_add (sold:=r.sold) (c:=c.toNat) (m:=m) (by omega) (r.lims.length - i) i (by omega)
 rw [this]
 split<;>omega
theorem take_fits (g:Good r) {w:Wt} (hw:w.Ok) (hf:fitsQ (rleftsF r) w=true) (hn:getO w.id r.L=none):(rtakeF r w.id w.cls w.many).2=0:=by
 obtain ⟨⟨a1,a2⟩,⟨b1,b2⟩,⟨c1,c2⟩,_⟩:=hw
 unfold fitsQ at hf
 simp only [Bool.and_eq_true,decide_eq_true_eq] at hf
 rw [lefts_len] at hf
 rw [lefts_get (by omega)] at hf
 have hv:=left_val g (k:=w.cls.toNat) (by omega)
 have e:((w.cls.toNat:Nat):Int)=w.cls:=by omega
 rw [e] at hf hv
 have hs:(sellT r.lims r.sold w.cls w.many).2=0:=by
  unfold sellT
  rw [if_neg (by rw [hv.2];omega),if_neg (by omega)]
 unfold rtakeF
 rw [if_neg (by omega),hn,if_neg (by simp),if_pos hs]
theorem fits_take (g:Good r) (h:(rtakeF r o c m).2=0) {w:Wt} (hw:0≤w.cls) (hf:fitsQ (rleftsF (rtakeF r o c m).1) w=true):fitsQ (rleftsF r) w=true:=by
 unfold fitsQ at *
 simp only [Bool.and_eq_true,decide_eq_true_eq] at *
 rw [lefts_len] at *
 rw [(take_num (r:=r) (o:=o) (c:=c) (m:=m)).2] at hf
 have:=take_left g h (k:=w.cls.toNat) (by omega)
 omega
theorem give_num:(rgiveF r o).1.num=r.num∧(rgiveF r o).1.lims=r.lims:=by
 unfold rgiveF
 split<;>exact ⟨rfl,rfl⟩
theorem give_mem (g:Good r) {x:Hold}:x∈(rgiveF r o).1.L↔x∈r.L∧x.owner≠o:=by
 unfold rgiveF
 cases hg:getO o r.L with
 |none=>
  dsimp only
  exact ⟨fun h=>⟨h,getO_none.1 hg x h⟩,fun h=>h.1⟩
 |some hd=>
  obtain ⟨A,C,hL,hA,ho⟩:=getO_split hg
  have hr:=g.rise
  dsimp only
  rw [hL] at hr ⊢
  rw [delO_app ho hA]
  have hp:=List.pairwise_append.1 hr
  have hc:=List.pairwise_cons.1 hp.2.1
  rw [List.mem_append,List.mem_append,List.mem_cons]
  constructor
  ·rintro (h|h)
   ·exact ⟨.inl h,getO_none.1 hA x h⟩
   ·exact ⟨.inr (.inr h),by have:=hc.1 x h;omega⟩
  ·rintro ⟨h|rfl|h,hn⟩
   ·exact .inl h
   ·exact absurd ho hn
   ·exact .inr h
structure Seatly (r r':RF):Prop where
 num:r'.num=r.num
 lims:r'.lims=r.lims
 rows:r'.rows=r.rows
 grps:r'.grps=r.grps
 each:∃ A hd hd' C,r.L=A++hd::C∧r'.L=A++hd'::C∧hd'.owner=hd.owner∧hd'.cls=hd.cls∧hd'.many=hd.many
theorem Seatly.sold {r':RF} (h:Seatly r r'):r'.sold=r.sold:=by
 obtain ⟨A,hd,hd',C,e1,e2,_,e4,e5⟩:=h.each
 unfold RF.sold soldL
 rw [h.lims]
 apply List.map_congr_left
 intro k _
 rw [e1,e2,cntL_app,cntL_app,cntL_cons,cntL_cons,e4,e5]
theorem Seatly.lefts {r':RF} (h:Seatly r r'):rleftsF r'=rleftsF r:=by
 unfold rleftsF
 rw [h.lims,h.sold]
theorem Seatly.mem {r':RF} (h:Seatly r r') {x:Hold} (hx:x∈r.L):∃ y∈r'.L,y.owner=x.owner∧y.cls=x.cls∧y.many=x.many:=by
 obtain ⟨A,hd,hd',C,e1,e2,e3,e4,e5⟩:=h.each
 rw [e1,List.mem_append,List.mem_cons] at hx
 rw [e2]
 rcases hx with hx|rfl|hx
 ·exact ⟨x,by simp [hx],rfl,rfl,rfl⟩
 ·exact ⟨hd',by simp,e3,e4,e5⟩
 ·exact ⟨x,by simp [hx],rfl,rfl,rfl⟩
theorem Seatly.symm {r':RF} (h:Seatly r r'):Seatly r' r:=by
 obtain ⟨A,hd,hd',C,e1,e2,e3,e4,e5⟩:=h.each
 exact ⟨h.num.symm,h.lims.symm,h.rows.symm,h.grps.symm,A,hd',hd,C,e2,e1,e3.symm,e4.symm,e5.symm⟩
theorem seat_ly (g:Good r) {lab:ByteArray} (h:(rseatF r o lab).2=0):Seatly r (rseatF r o lab).1:=by
 obtain ⟨A,hd,C,n,_,hL,_,_,_,e⟩:=seat_ok g h
 rw [e]
 exact ⟨rfl,rfl,rfl,rfl,A,hd,hd.put n,C,hL,rfl,rfl,rfl,rfl⟩
theorem auto_ly (h:(rautoF r o).2.2=0):Seatly r (rautoF r o).1:=by
 unfold rautoF at *
 cases hg:getO o r.L with
 |none=>rw [hg] at h;cases h
 |some hd=>
  obtain ⟨A,C,hL,hA,ho⟩:=getO_split hg
  rw [hg] at h
  dsimp only at h ⊢
  split at h
  ·cases h
  ·rename_i h1
   rw [if_neg h1]
   split at h
   ·rename_i h2
    rw [if_pos h2]
    refine ⟨rfl,rfl,rfl,rfl,A,hd,{ hd with seats:=(bestT r.rows r.grps (takenL r.L) hd.many).1 },C,hL,?_,rfl,rfl,rfl⟩
    show setO o _ r.L=_
    rw [hL]
    exact setO_app ho hA
   ·rename_i h2;exact absurd h h2
theorem seat_no' {lab:ByteArray} (h:(rseatF r o lab).2≠0):(rseatF r o lab).1=r:=(seat_no h).1
theorem auto_no (h:(rautoF r o).2.2≠0):(rautoF r o).1=r:=by
 unfold rautoF at *
 cases hg:getO o r.L with
 |none=>rfl
 |some hd=>
  rw [hg] at h
  dsimp only at h ⊢
  split
  ·rfl
  ·rename_i h1
   rw [if_neg h1] at h
   split
   ·rename_i h2;rw [if_pos h2] at h;exact absurd rfl h
   ·rfl
end Go.Proofs.YtfgbbckfikiomaaGreatDoor
