/- Package slices: Insert of one number. Condition: a bound on the length. -/
import Derived.Test.YtlplemdmegpoeaaGreatDoorB2
import Derived.Lib.Overlaps
import Derived.Shelf.SlIterI.Nil
import Derived.Shelf.SlIterI.Collect
import Derived.Shelf.SlIterI.Sorted
import Derived.Shelf.SortM.Plain
import Derived.Shelf.SortM.SortNone
import Derived.Ground.GgzProg
import Derived.Ground.SlgmProg
import Derived.Test.YtlplemdmegpoeaaGreatDoorProg
namespace Go.Proofs.YtlplemdmegpoeaaGreatDoor
set_option linter.unusedVariables false
set_option linter.unusedSimpArgs false
open Go Go.VC
variable {R:Cx} {Hs Rest:List HP} {w:World}
theorem ov_name : (Tryz.f282.name == "runtime.NumGoroutine") = false := by kernel_rfl
theorem ov_body:Tryz.f282.body.isNone=true:=by kernel_rfl
theorem ov_next:Extern.findNext Tryz.f282=none:=by kernel_rfl
theorem ov_find:∃ tR,Extern.find Tryz.f282=some (Extern.SlicesOverlaps.overlaps #[ 30,30 ] #[tR]):=⟨4,by kernel_rfl⟩
theorem szI1:szOf Tryz.prog 3=1:=by kernel_rfl
theorem szI (w:World):(sizeOf 3).run Tryz.prog w=.ok 1 w:=by
 obtain ⟨i,hi⟩:=szOf_pos (P:=Tryz.prog) (t:=3) (by rw [szI1];decide)
 have:=sizeOf_run hi w
 rw [szI1] at this
 exact this
abbrev oneC (n:Int) (T:TypeId):Obj:=.cells [.int .i64 n].toArray T (0,0)
theorem cut_some {b k m:Nat} (h:m≠k):cutA (some ⟨b,0,none⟩) k m 1=some ⟨b,k,none⟩:=by
 simp only [cutA,if_neg h,Option.map_some,add_off];simp
theorem overlaps_spec {b1 b2 o:Nat} {n:Int} {T1 T2:TypeId} {l:List Value} {fr:Nat × Nat} {la lc:Nat} {Q:Ending→World→Prop} (hl:l≠[])
  (hw:Sat R (pts b2 (.cells l.toArray T2 fr)::pts b1 (oneC n T1)::Hs) w) (k:Q (.returned (.bool false)) w):
  Ext Tryz.prog 282 #[.slice (some ⟨b1,0,none⟩) 1 1,.slice (some ⟨b2,o,none⟩) la lc] w Q:=by
 have h2:=hw.at
 have h1:=hw.swap.at
 have hne:b1≠b2:=by
  rintro rfl
  obtain ⟨h,hA,hd,h',hB,hd',_⟩:=hw
  rw [show h=_ from hA] at hd hd'
  rw [show h'=_ from hB] at hd'
  have:=hd' b1 (by simp [Heap.one])
  simp only [Cx.add,Heap.add,Heap.one] at this
  split at this<;>simp_all
 obtain ⟨tR,hf⟩:=ov_find
 refine ⟨.bool false,w,?_,k⟩
 rw [run_callFunc_extern Tryz.func282 ov_name ov_body ov_next hf]
 rw [Lib.run_overlaps_apart (P:=Tryz.prog) w 30 tR 3 Tryz.underlying30 1 (fun w=>szI w) ⟨b1,0,none⟩ ⟨b2,o,none⟩ 1 1 la lc hne T1 T2 1 l.length ?_ ?_ ?_ ?_ ?_]
 ·rfl
 ·simp only [World.shape?,h1];rfl
 ·simp only [World.shape?,h2];simp
 ·cases l with
  |nil=>exact absurd rfl hl
  |cons a l=>simp
 ·simp [World.frozen?,h1]
 ·simp [World.frozen?,h1]
end Go.Proofs.YtlplemdmegpoeaaGreatDoor
/- Package slices: Insert of one number. Condition: a bound on the length. -/
namespace Go.Proofs.YtlplemdmegpoeaaGreatDoor
set_option linter.unusedVariables false
set_option linter.unusedSimpArgs false
open Go Go.VC
variable {R:Cx} {Hs Rest:List HP} {w:World}
theorem putL_mid {A B C V:List Value} {p:Nat} (hp:A.length=p) (hB:B.length=V.length):putL (A++B++C) p V=A++V++C:=by
 rw [putL_eq _ _ _ (by simp only [List.length_append];omega)]
 have e1:(A++B++C).take p=A:=by rw [List.append_assoc,List.take_left' hp]
 have e2:(A++B++C).drop (p + V.length)=C:=by rw [List.drop_left' (by rw [List.length_append];omega)]
 rw [e1,e2]
theorem put2 {A ys D rest:List Value} {x:Value} {p:Nat} (hA:A.length=p) (hy:ys.length=D.length + 1):putL (putL ((A++ys)++rest) p [x]) (p + 1) D=(A++x::D)++rest:=by
 match ys,hy with
 |y0::ys',hy=>
  have h1:putL ((A++y0::ys')++rest) p [x]=A++[x]++(ys'++rest):=by
   have:=putL_mid (A:=A) (B:=[y0]) (C:=ys'++rest) (V:=[x]) hA rfl
   rw [←this];simp
  have h2:=putL_mid (A:=A++[x]) (B:=ys') (C:=rest) (V:=D) (p:=p + 1) (by simp [hA]) (by simpa using hy)
  rw [h1,←List.append_assoc,h2];simp
theorem put2' {A D rest:List Value} {x:Value} {p:Nat} (hA:A.length=p) (hr:1≤rest.length):putL (putL ((A++D)++rest) (p + 1) D) p [x]=(A++x::D)++rest.drop 1:=by
 match rest,hr with
 |r0::rest',_=>
  obtain ⟨y0,ys',hy,hl⟩:∃ y0 ys',D++[r0]=y0::ys'∧ys'.length=D.length:=by
   cases D with
   |nil=>exact ⟨r0,[],rfl,rfl⟩
   |cons d D=>exact ⟨d,D++[r0],rfl,by simp⟩
  have e:(A++D)++r0::rest'=(A++[y0])++ys'++rest':=by
   have:(A++D)++r0::rest'=A++(D++[r0])++rest':=by simp
   rw [this,hy];simp
  rw [e,putL_mid (p:=p + 1) (by simp [hA]) hl]
  have:=putL_mid (A:=A) (B:=[y0]) (C:=D++rest') (V:=[x]) hA rfl
  rw [show (A++[y0])++D++rest'=A++[y0]++(D++rest') by simp,this];simp
theorem src_one {b:Nat} {n:Int} {T:TypeId} (h:w.heap[b]? =some (oneC n T)):∀ j v,[Value.int .i64 n][j]? =some v→w.cell? ((⟨b,0,none⟩:Addr).add j)=some v:=by
 intro j v hj
 rw [add_off,cell_of h,Nat.zero_add];exact hj
theorem src_part {b p:Nat} {xs rest:List Value} {T:TypeId} {fr:Nat × Nat} (h:w.heap[b]? =some (.cells (xs++rest).toArray T fr)) (_hp:p≤xs.length):∀ j v,(xs.drop p)[j]? =some v→w.cell? ((⟨b,p,none⟩:Addr).add j)=some v:=by
 intro j v hj
 rw [add_off,cell_of h]
 rw [List.getElem?_drop] at hj
 have hlt:=(List.getElem?_eq_some_iff.1 hj).1
 rw [List.getElem?_append_left (by omega)];exact hj
theorem insert_spec {s:Sl} {l:List Int} {n:Int} {p b:Nat} {T:TypeId} (hl:l.length≤1000000000) (hp:p≤l.length) (hw:Sat R (Own s 3 (intsI l)::pts b (oneC n T)::Hs) w):
  Gets Tryz.prog 249 #[.slice s.a s.len s.cap,.int .i64 p,.slice (some ⟨b,0,none⟩) 1 1] w fun v w'=>∃ t:Sl,v=.slice t.a t.len t.cap∧Sat R (Own t 3 (intsI (l.take p++n::l.drop p))::pts b (oneC n T)::Hs) w':=by
 have hlen:=Own.len hw
 have hcap:=Own.cap hw
 rw [List.length_map] at hlen
 refine call249 s p ⟨some ⟨b,0,none⟩,1,1⟩ _ _ ?_
 unfold B249
 dsimp only
 have w1:IntKind.i64.wrap ((s.len:Int) + ((1:Nat):Int))=((l.length + 1:Nat):Int):=by rw [wrap64 (by omega) (by omega)];omega
 have w2:IntKind.i64.wrap (((l.length + 1:Nat):Int) - p)=((l.length + 1 - p:Nat):Int):=by rw [wrap64 (by omega) (by omega)];omega
 have w3:IntKind.i64.wrap ((p:Int) + ((1:Nat):Int))=((p + 1:Nat):Int):=by rw [wrap64 (by omega) (by omega)];omega
 rw [w1,w2,w3]
 simp only [Int.toNat_natCast]
 refine ⟨by omega,by omega,Br.f rfl (Br.e (fun h=>?_) (fun h=>Br.d (fun h2=>?_) (fun h2=>?_)))⟩
 ·-- behind all
  refine append_rule elI8 hw (Src_one elI8.hk 1 hw rfl) (oneAll_k _ _) (by rw [List.length_map];omega) (by rw [List.length_map];omega) fun t w hw=>⟨t,rfl,?_⟩
  have e:intsI l++[Value.int .i64 n]=intsI (l.take p++n::l.drop p):=by
   rw [List.take_of_length_le (by omega),List.drop_eq_nil_of_le (by omega)];simp
  rw [e] at hw;exact hw
 ·-- no room
  refine ⟨by omega,by omega,?_⟩
  refine zerosGrow_rule (z:=.int .i64 0) Tryz.underlying30 Tryz.underlying3 elI8.hi (by omega) (by rw [List.length_map];omega) (by omega) (by omega) (by omega) hw fun t w ys hys hw=>?_
  have htl:=Own.len hw
  rw [List.length_append,List.length_take,List.length_map,hys] at htl
  refine ⟨by omega,by omega,?_⟩
  rcases Own.cases hw with ⟨_,h0,_⟩|⟨b',rest,fr,rfl,hfr,hw⟩
  ·have:=congrArg List.length h0
   rw [List.length_append,hys,List.length_nil] at this;omega
  dsimp only at htl ⊢
  have hA:((intsI l).take p).length=p:=by rw [List.length_take,List.length_map];omega
  have hxs:((intsI l).take p++ys).length=l.length + 1:=by rw [List.length_append,hA,hys];omega
  have hb1:=(hw.takeP (b:=b) inferInstance).at
  rw [hxs,cut_some (by rw [List.length_append,hxs];omega)]
  refine copy_rule Tryz.underlying30 (by kernel_rfl) hw hfr (cs:=[.int .i64 n]) (by show 1=min _ _;omega) (by rw [List.length_append,hxs];show p + 1≤_;omega) (src_one hb1) rfl fun _ w hw=>?_
  refine drw_rule hw fun w hw=>⟨by omega,by omega,by omega,by omega,?_⟩
  rcases Own.cases hw.swap with ⟨_,h0,_⟩|⟨bs,rest2,fr2,rfl,hfr2,hws⟩
  ·have h3:l.length=0:=by
    have:=congrArg List.length h0
    rw [List.length_map] at this;exact this
   omega
  clear w1 w2 w3
  dsimp only at hlen hcap h h2 ⊢
  rw [List.length_map] at h
  have hsat:=hws.at
  rw [cut_some (by rw [List.length_append,hxs];omega),cut_some (by rw [List.length_append,List.length_map];omega)]
  refine copy_rule Tryz.underlying30 (by kernel_rfl) hws.swap (by rw [putL_len];exact hfr) (cs:=(intsI l).drop p) (by rw [List.length_drop,List.length_map];show _=min _ _;omega)
   (by rw [putL_len,List.length_append,hxs,List.length_drop,List.length_map];omega) (src_part hsat (by rw [List.length_map];omega)) (by rw [←List.map_drop];exact oneAll_k _ _) fun _ w hw=>?_
  rw [put2 hA (by rw [hys,List.length_drop,List.length_map];omega)] at hw
  have e:(intsI l).take p++Value.int .i64 n::(intsI l).drop p=intsI (l.take p++n::l.drop p):=by simp [List.map_take,List.map_drop]
  have hel:(intsI (l.take p++n::l.drop p)).length=l.length + 1:=by simp;omega
  rw [e] at hw
  have hfin:=Own.of_pts hw (by have:=hfr;rw [List.length_append,hxs] at this;rw [List.length_append,hel];exact this)
  rw [hel] at hfin
  refine ⟨⟨some ⟨b',0,none⟩,l.length + 1,(intsI (l.take p++n::l.drop p)++rest).length⟩,?_,?_⟩
  ·dsimp only
   have c1:((intsI l).take p++ys++rest).length=l.length + 1 + rest.length:=List.length_append.trans (by rw [hxs])
   have c2:(intsI (l.take p++n::l.drop p)++rest).length=l.length + 1 + rest.length:=List.length_append.trans (by rw [hel])
   rw [c1,c2]
  ·exact Sat.cons (fun R' h=>h.drop) hfin
 ·-- room
  rcases Own.cases hw with ⟨_,h0,_⟩|⟨bs,rest,fr,rfl,hfr,hws⟩
  ·have h3:l.length=0:=by
    have:=congrArg List.length h0
    rw [List.length_map] at this;exact this
   omega
  clear w1 w2 w3
  dsimp only at hlen hcap h h2 ⊢
  rw [List.length_map] at h
  have hA:((intsI l).take p).length=p:=by rw [List.length_take,List.length_map];omega
  have hcl:(intsI l++rest).length=l.length + rest.length:=by rw [List.length_append,List.length_map]
  have hroom:1≤rest.length:=by
   rw [hcl] at h2
   omega
  refine ⟨by omega,by omega,by omega,by omega,?_⟩
  rw [cut_some (by omega)]
  refine overlaps_spec (by intro h0;have h5:=congrArg List.length h0;rw [hcl,List.length_nil] at h5;omega) hws ?_
  refine ⟨_,rfl,Br.t rfl ?_⟩
  refine drw_rule hws fun w hws=>⟨by omega,by omega,by omega,by omega,?_⟩
  rw [cut_some (by omega)]
  have hsat:=hws.at
  refine copy_rule Tryz.underlying30 (by kernel_rfl) hws hfr (cs:=(intsI l).drop p) (by rw [List.length_drop,List.length_map];show _=min _ _;omega)
   (by rw [hcl,List.length_drop,List.length_map];omega) (src_part hsat (by rw [List.length_map];omega)) (by rw [←List.map_drop];exact oneAll_k _ _) fun _ w hw=>?_
  refine ⟨by omega,by omega,?_⟩
  have hb1:=hw.swap.at
  refine copy_rule Tryz.underlying30 (by kernel_rfl) hw (by rw [putL_len];exact hfr) (cs:=[.int .i64 n]) (by show 1=min _ _;omega) (by rw [putL_len,hcl];show p + 1≤_;omega) (src_one hb1) rfl fun _ w hw=>?_
  have e0:intsI l++rest=((intsI l).take p++(intsI l).drop p)++rest:=by rw [List.take_append_drop]
  rw [e0,put2' hA hroom] at hw
  have e:(intsI l).take p++Value.int .i64 n::(intsI l).drop p=intsI (l.take p++n::l.drop p):=by simp [List.map_take,List.map_drop]
  have hel:(intsI (l.take p++n::l.drop p)).length=l.length + 1:=by simp;omega
  rw [e] at hw
  have hll:(intsI (l.take p++n::l.drop p)++rest.drop 1).length=(intsI l++rest).length:=by rw [List.length_append,hel,hcl,List.length_drop];omega
  have hfin:=Own.of_pts hw (by rw [hll];exact hfr)
  rw [hel,hll] at hfin
  exact ⟨_,rfl,hfin⟩
end Go.Proofs.YtlplemdmegpoeaaGreatDoor
/- SL, part 17: maps whose keys are ints; memory that is only read, several pieces of it lent at once. No condition. -/
namespace Go.VC
set_option linter.unusedVariables false
set_option linter.unusedSimpArgs false
variable {P:Program} {R R' R'':Cx} {Hs Rest:List HP} {w:World} {s:Sl} {T:TypeId}
instance:KeyK Int where
 enc:=Value.int .i64
 desc:=.int .i64
 same a b:=by
  show (if IntKind.i64=IntKind.i64 then some (a==b) else none)=some (a==b)
  rw [if_pos rfl]
 bits a:=by
  have:∀ n,Instr.sameBits n (.int .i64 a) (.int .i64 a)=(IntKind.i64==IntKind.i64 && a==a):=fun n=>by cases n<;>rfl
  rw [this];simp
 eq a b h:=beq_iff_eq.1 h
 check P em K a w h:=by
  show (Instr.checkKey em (9999 + 1) K (.int .i64 a)).run P w=_
  unfold Instr.checkKey
  simp [run_underlying h]
theorem Reads.out {xs:List Value} (h:Sat R (Reads s xs::Hs) w):∃ R',R.Ext R'∧SlR R'.m s xs∧Sat R' Hs w∧∀ Hs' w',Sat R' Hs' w'→Sat R (Reads s xs::Hs') w':=by
 obtain ⟨x,hd,hs,hw,hx⟩:=Reads.lend h
 exact ⟨R.add x,Cx.Ext.add,hs,hw,fun Hs' w' h=>Reads.back hd hx h⟩
end Go.VC
/- A flight in memory. Condition: none. -/
namespace Go.Proofs.YtlplemdmegpoeaaGreatDoor
set_option linter.unusedVariables false
set_option linter.unusedSimpArgs false
open Go Go.VC
variable {R:Cx} {Hs Rest:List HP} {w:World}
structure Hold where
 owner:Int
 cls:Int
 many:Int
 seats:List Int
structure PF where
 num:Int
 rows:Int
 grps:List Int
 lims:List Int
 sold:List Int
 hs:List (Int × Hold)
 own:List (Int × Int)
abbrev hCells (h:Hold) (s:Sl):Obj:=.cells [.int .i64 h.owner,.int .i64 h.cls,.int .i64 h.many,.slice s.a s.len s.cap].toArray 197 (0,0)
def HoldAt (b:Nat) (h:Hold):HP:=exs fun s:Sl=>Star [pts b (hCells h s),Own s 3 (intsI h.seats)]
abbrev HE:=Int × Nat × Hold
def HoldsAt (E:List HE):HP:=Star (E.map fun e=>HoldAt e.2.1 e.2.2)
abbrev hPtrs (E:List HE):List (Int × Value):=E.map fun e=>(e.1,.pointer (some ⟨e.2.1,0,none⟩))
abbrev hEr (E:List HE):List (Int × Hold):=E.map fun e=>(e.1,e.2.2)
abbrev oVals (l:List (Int × Int)):List (Int × Value):=l.map fun e=>(e.1,.int .i64 e.2)
abbrev fCells (f:PF) (sg sl ss:Sl) (hm om:Nat):Obj:=
 .cells [.int .i64 f.num,.int .i64 f.rows,.slice sg.a sg.len sg.cap,.slice sl.a sl.len sl.cap,.slice ss.a ss.len ss.cap,.map (some hm),.map (some om)].toArray 186 (0,0)
abbrev FO (p hm om:Nat) (sg sl ss:Sl) (E:List HE) (f:PF) (Hs:List HP):List HP:=
 pts p (fCells f sg sl ss hm om)::MapAt hm (hPtrs E)::MapAt om (oVals f.own)::HoldsAt E::Hs
structure FX where
 hm:Nat
 om:Nat
 sg:Sl
 sl:Sl
 ss:Sl
 E:List HE
def FlightAt (p:Nat) (f:PF):HP:=exs fun x:FX=>
 Star [pur (hEr x.E=f.hs),Reads x.sg (intsI f.grps),Reads x.sl (intsI f.lims),Reads x.ss (intsI f.sold),pts p (fCells f x.sg x.sl x.ss x.hm x.om),MapAt x.hm (hPtrs x.E),MapAt x.om (oVals f.own),HoldsAt x.E]
theorem Sat.flight {p:Nat} {f:PF}:Sat R (FlightAt p f::Hs) w↔∃ hm om sg sl ss E,hEr E=f.hs∧Sat R (Reads sg (intsI f.grps)::Reads sl (intsI f.lims)::Reads ss (intsI f.sold)::FO p hm om sg sl ss E f Hs) w:=by
 unfold FlightAt
 rw [Sat.exs]
 constructor
 ·rintro ⟨⟨hm,om,sg,sl,ss,E⟩,h⟩
  obtain ⟨h1,h2⟩:=Sat.pur.1 (Sat.star.1 h)
  exact ⟨hm,om,sg,sl,ss,E,h1,h2⟩
 ·rintro ⟨hm,om,sg,sl,ss,E,h1,h2⟩
  exact ⟨⟨hm,om,sg,sl,ss,E⟩,Sat.star.2 (Sat.pur.2 ⟨h1,h2⟩)⟩
theorem Sat.flightO {p:Nat} {f:PF} (hw:Sat R (FlightAt p f::Hs) w):∃ hm om sg sl ss E R',hEr E=f.hs∧R.Ext R'∧SlR R'.m sg (intsI f.grps)∧SlR R'.m sl (intsI f.lims)∧SlR R'.m ss (intsI f.sold)∧Sat R' (FO p hm om sg sl ss E f Hs) w∧
  ∀ Hs' w',Sat R' Hs' w'→Sat R (Reads sg (intsI f.grps)::Reads sl (intsI f.lims)::Reads ss (intsI f.sold)::Hs') w':=by
 obtain ⟨hm,om,sg,sl,ss,E,hE,hw⟩:=Sat.flight.1 hw
 obtain ⟨R1,e1,g1,hw,b1⟩:=Reads.out hw
 obtain ⟨R2,e2,g2,hw,b2⟩:=Reads.out hw
 obtain ⟨R3,e3,g3,hw,b3⟩:=Reads.out hw
 exact ⟨hm,om,sg,sl,ss,E,R3,hE,e1.trans (e2.trans e3),e3.slR (e2.slR g1),e3.slR g2,g3,hw,fun Hs' w' h=>b1 _ _ (b2 _ _ (b3 _ _ h))⟩
theorem Sat.flightC {p hm om:Nat} {sg sl ss:Sl} {E:List HE} {f:PF} (hE:hEr E=f.hs) (hw:Sat R (Reads sg (intsI f.grps)::Reads sl (intsI f.lims)::Reads ss (intsI f.sold)::FO p hm om sg sl ss E f Hs) w):Sat R (FlightAt p f::Hs) w:=
 Sat.flight.2 ⟨hm,om,sg,sl,ss,E,hE,hw⟩
theorem Sat.hold {b:Nat} {h:Hold}:Sat R (HoldAt b h::Hs) w↔∃ s:Sl,Sat R (pts b (hCells h s)::Own s 3 (intsI h.seats)::Hs) w:=by
 unfold HoldAt
 rw [Sat.exs]
 exact ⟨fun ⟨s,h⟩=>⟨s,Sat.star.1 h⟩,fun ⟨s,h⟩=>⟨s,Sat.star.2 h⟩⟩
theorem Sat.holds {a b:List HE} {e:HE}:Sat R (HoldsAt (a++e::b)::Hs) w↔Sat R (HoldAt e.2.1 e.2.2::HoldsAt (a++b)::Hs) w:=by
 have p:((a++e::b).map fun e:HE=>HoldAt e.2.1 e.2.2).Perm (HoldAt e.2.1 e.2.2::(a++b).map fun e:HE=>HoldAt e.2.1 e.2.2):=by
  rw [List.map_append,List.map_cons,List.map_append];exact List.perm_middle
 unfold HoldsAt
 constructor
 ·intro h
  have h1:=(Sat.star.1 h).perm (p.append_right Hs)
  exact h1.cons fun _ h=>Sat.star.2 h
 ·intro h
  have h1:Sat R ((HoldAt e.2.1 e.2.2::(a++b).map fun e:HE=>HoldAt e.2.1 e.2.2)++Hs) w:=h.cons fun _ h=>Sat.star.1 h
  exact Sat.star.2 (h1.perm (p.symm.append_right Hs))
abbrev hMap:MapT Tryz.prog 183 Int 3 227 (.pointer none):=⟨Tryz.underlying183,Tryz.underlying3,Tryz.zeroValue227⟩
abbrev oMap:MapT Tryz.prog 184 Int 3 3 (.int .i64 0):=⟨Tryz.underlying184,Tryz.underlying3,Tryz.zeroValue3⟩
theorem hPtrs_get (k:Int) (E:List HE):getM k (hPtrs E)=(getM k E).map fun x=>.pointer (some ⟨x.1,0,none⟩):=getM_map (fun x:Nat × Hold=>Value.pointer (some ⟨x.1,0,none⟩)) k E
theorem hEr_get (k:Int) (E:List HE):getM k (hEr E)=(getM k E).map (·.2):=getM_map (fun x:Nat × Hold=>x.2) k E
theorem oVals_get (k:Int) (l:List (Int × Int)):getM k (oVals l)=(getM k l).map (Value.int .i64):=getM_map (Value.int .i64) k l
theorem hold_look {m:Nat} {E:List HE} (hw:Sat R (MapAt m (hPtrs E)::Hs) w) (k:Int) (c:Bool):
  (Instr.lookup 183 (.map (some m)) (.int .i64 k) c).run Tryz.prog w=.ok (if c then .tuple #[.pointer ((getM k E).map fun x=>⟨x.1,0,none⟩),.bool (getM k E).isSome] else .pointer ((getM k E).map fun x=>⟨x.1,0,none⟩)) w:=by
 have h:=MapAt.look hMap hw k c
 rw [hPtrs_get] at h
 rw [show Value.int .i64 k=KeyK.enc k from rfl,h]
 cases getM k E<;>rfl
theorem own_look {m:Nat} {l:List (Int × Int)} (hw:Sat R (MapAt m (oVals l)::Hs) w) (k:Int) (c:Bool):
  (Instr.lookup 184 (.map (some m)) (.int .i64 k) c).run Tryz.prog w=.ok (if c then .tuple #[.int .i64 ((getM k l).getD 0),.bool (getM k l).isSome] else .int .i64 ((getM k l).getD 0)) w:=by
 have h:=MapAt.look oMap hw k c
 rw [oVals_get] at h
 rw [show Value.int .i64 k=KeyK.enc k from rfl,h]
 cases getM k l<;>rfl
end Go.Proofs.YtlplemdmegpoeaaGreatDoor
/- A flight: seats told, names, reading. Condition: bounds on lengths. -/
namespace Go.Proofs.YtlplemdmegpoeaaGreatDoor
set_option linter.unusedVariables false
set_option linter.unusedSimpArgs false
open Go Go.VC
variable {R:Cx} {Hs Rest:List HP} {w:World}
theorem setM_map {α β γ:Type} [BEq α] (f:β→γ) (k:α) (v:β):∀ l:List (α × β),setM k (f v) (l.map fun e=>(e.1,f e.2))=(setM k v l).map fun e=>(e.1,f e.2)
 |[]=>rfl
 |e::l=>by
  simp only [List.map_cons,setM]
  split
  ·rfl
  ·rw [setM_map f k v l];rfl
theorem putM_map {α β γ:Type} [BEq α] (f:β→γ) (k:α) (v:β) (l:List (α × β)):putM k (f v) (l.map fun e=>(e.1,f e.2))=(putM k v l).map fun e=>(e.1,f e.2):=by
 unfold putM
 rw [getM_map,Option.isSome_map]
 split
 ·exact setM_map f k v l
 ·simp
def Hold.put (h:Hold) (n:Int):Hold:={ h with seats:=insS n h.seats }
theorem tell_spec {p hm om b:Nat} {sg sl ss:Sl} {a c:List HE} {k n:Int} {h:Hold} {f:PF} (hr:Rise h.seats) (hl:h.seats.length≤1000000000) (hw:Sat R (FO p hm om sg sl ss (a++(k,b,h)::c) f Hs) w):
  Gets Tryz.prog 178 #[.pointer (some ⟨p,0,none⟩),.pointer (some ⟨b,0,none⟩),.int .i64 n] w fun v w'=>v=.tuple #[]∧Sat R (FO p hm om sg sl ss (a++(k,b,h.put n)::c) { f with own:=putM n h.owner f.own } Hs) w':=by
 have hw:=hw.take (HoldsAt (a++(k,b,h)::c))
 obtain ⟨s,hw⟩:=Sat.hold.1 (Sat.holds.1 hw)
 apply call178
 refine NilP.mk rfl ⟨s,At.own (eqS hw) (by exact ⟨rfl,trivial⟩),?_⟩
 obtain ⟨R',hro,_,hw',back⟩:=Own.lend (hw.take (Own s 3 (intsI h.seats))) (by rw [List.length_map];omega)
 refine (bsearch_spec (l:=h.seats) hro hr hl hw').use ?_
 clear hw hw'
 rintro _ w ⟨q,bb,rfl,hq,h1,h2,hw⟩
 have hw:=(back hw).swap
 refine ⟨_,_,rfl,NilP.mk rfl ⟨s,At.own (eqS hw) (by exact ⟨rfl,trivial⟩),?_⟩⟩
 refine new_rule hw fun bn w hw=>?_
 refine (insert_spec (T:=3) hl hq (hw.take (Own s 3 (intsI h.seats)))).use ?_
 clear hw
 rintro _ w ⟨t,rfl,hw⟩
 rw [←insS_at hq h1 h2] at hw
 refine ⟨_,rfl,NilP.mk rfl ?_⟩
 refine store_rule hw (by kernel_rfl) rfl (by simp [Value.cells]) fun w hw=>?_
 have hw:Sat R (pts b (hCells (h.put n) t)::Own t 3 (intsI (insS n h.seats))::pts bn (oneC n 3)::HoldsAt (a++c)::pts p (fCells f sg sl ss hm om)::MapAt hm (hPtrs (a++(k,b,h)::c))::MapAt om (oVals f.own)::Hs) w:=hw
 refine drw_rule hw fun w hw=>?_
 refine NilP.mk rfl ⟨some om,At.own selfS (by exact ⟨rfl,trivial⟩),NilP.mk rfl ⟨h.owner,by rw [add_off];exact At.own selfS (by exact ⟨rfl,trivial⟩),?_⟩⟩
 refine MapAt.put oMap (hw.take (MapAt om (oVals f.own))) n (.int .i64 h.owner) fun w hw=>⟨rfl,?_⟩
 rw [putM_map (Value.int .i64) n h.owner f.own] at hw
 have hw:=(hw.take (pts bn (oneC n 3))).drop
 have hw:Sat R (pts b (hCells (h.put n) t)::Own t 3 (intsI (h.put n).seats)::MapAt om (oVals (putM n h.owner f.own))::HoldsAt (a++c)::pts p (fCells f sg sl ss hm om)::MapAt hm (hPtrs (a++(k,b,h)::c))::Hs) w:=
  (hw.take (Own t 3 (intsI (insS n h.seats)))).take (pts b (hCells (h.put n) t))
 have hw:=Sat.hold.2 ⟨t,hw⟩
 have hw:=(Sat.holds (e:=((k,b,h.put n):HE)) (a:=a) (b:=c)).2 (hw.cons fun _ h=>h.take (HoldsAt (a++c)))
 have e:hPtrs (a++(k,b,h.put n)::c)=hPtrs (a++(k,b,h)::c):=by simp [hPtrs]
 show Sat R (pts p (fCells f sg sl ss hm om)::MapAt hm (hPtrs (a++(k,b,h.put n)::c))::MapAt om (oVals (putM n h.owner f.own))::HoldsAt (a++(k,b,h.put n)::c)::Hs) w
 rw [e]
 exact ((hw.take (MapAt om (oVals (putM n h.owner f.own)))).take (MapAt hm (hPtrs (a++(k,b,h)::c)))).take (pts p (fCells f sg sl ss hm om))
theorem fnumber_spec {p:Nat} {f:PF} (hw:Sat R (FlightAt p f::Hs) w):Gets Tryz.prog 160 #[.pointer (some ⟨p,0,none⟩)] w fun v w'=>v=.int .i64 f.num∧Sat R (FlightAt p f::Hs) w':=by
 obtain ⟨hm,om,sg,sl,ss,E,hE,hw2⟩:=Sat.flight.1 hw
 apply call160
 exact NilP.mk rfl ⟨f.num,by rw [add_off];exact At.own (eqS hw2) (by exact ⟨rfl,trivial⟩),rfl,hw⟩
end Go.Proofs.YtlplemdmegpoeaaGreatDoor
/- A flight: a new one. Condition: bounds on lengths. -/
namespace Go.Proofs.YtlplemdmegpoeaaGreatDoor
set_option linter.unusedVariables false
set_option linter.unusedSimpArgs false
open Go Go.VC
variable {R:Cx} {Hs Rest:List HP} {w:World}
theorem map_rule {K:Nat→World→Prop} (hw:Sat R Hs w) (k:∀ m w',Sat R (MapAt (α:=Int) m []::Hs) w'→K m w'):New (.map #[] 0) K w:=
 new_rule hw fun m w hw=>k m w (MapAt.new rfl hw)
theorem zer_rule {n:Nat} {K:Sl→World→Prop} (hn:n≤1000) (hw:Sat R Hs w) (k:∀ s w',Sat R (Own s 3 (intsI (List.replicate n 0))::Hs) w'→K s w'):
  ∃ w',∃ t:Sl,(Instr.makeSlice 30 (.int .i64 (n:Int)) (.int .i64 (n:Int))).run Tryz.prog w=.ok (.slice t.a t.len t.cap) w'∧K t w':=
 make_rule (bytes:=8) (z:=.int .i64 0) Tryz.underlying30 (by kernel_rfl) Tryz.zeroValue3 rfl (by omega) (by omega) hw fun s w hw=>k s w (by
  rw [show intsI (List.replicate n 0)=List.replicate n (.int .i64 0) by simp [intsI]];exact hw)
def emptyF (num rows:Int) (grps lims:List Int):PF:=⟨num,rows,grps,lims,List.replicate lims.length 0,[],[]⟩
theorem empty_spec {num rows:Int} {sg sl:Sl} {grps lims:List Int} (hl:lims.length≤1000) (hw:Sat R (Reads sg (intsI grps)::Reads sl (intsI lims)::Hs) w):
  Gets Tryz.prog 167 #[.int .i64 num,.agg #[.int .i64 rows,.slice sg.a sg.len sg.cap],.slice sl.a sl.len sl.cap] w fun v w'=>∃ p,v=.pointer (some ⟨p,0,none⟩)∧Sat R (FlightAt p (emptyF num rows grps lims)::Hs) w':=by
 have hlen:sl.len=lims.length:=by
  obtain ⟨_,_,h,_⟩:=Reads.out hw.swap
  have:=h.len
  rw [List.length_map] at this;exact this
 apply call167
 refine new_rule hw fun b4 w hw=>?_
 have hw:Sat R (pts b4 (layC rows sg)::Reads sg (intsI grps)::Reads sl (intsI lims)::Hs) w:=hw
 refine drw_rule hw fun w hw=>?_
 rw [hlen]
 have fin:∀ {hm om:Nat} {ss:Sl} {w:World} (_:Sat R (MapAt (α:=Int) om []::MapAt (α:=Int) hm []::Own ss 3 (intsI (List.replicate lims.length 0))::pts b4 (layC rows sg)::Reads sg (intsI grps)::Reads sl (intsI lims)::Hs) w),
   New (.cells #[.int .i64 num,.int .i64 rows,.slice sg.a sg.len sg.cap,.slice sl.a lims.length sl.cap,.slice ss.a ss.len ss.cap,.map (some hm),.map (some om)] 186 (0,0))
    (fun p w=>Sat R (pts b4 (layC rows sg)::Reads sg (intsI grps)::Reads sl (intsI lims)::Hs) w∧∃ p',Value.pointer (some ⟨p,0,none⟩)=.pointer (some ⟨p',0,none⟩)∧Sat R (FlightAt p' (emptyF num rows grps lims)::Hs) w) w:=fun {hm om ss w} hw=>by
  refine new_rule hw fun p w hw=>⟨hw.drop.drop.drop.drop,p,rfl,?_⟩
  refine Sat.flight.2 ⟨hm,om,sg,sl,ss,[],rfl,?_⟩
  have ec:(Obj.cells #[.int .i64 num,.int .i64 rows,.slice sg.a sg.len sg.cap,.slice sl.a lims.length sl.cap,.slice ss.a ss.len ss.cap,.map (some hm),.map (some om)] 186 (0,0))=fCells (emptyF num rows grps lims) sg sl ss hm om:=by rw [←hlen];rfl
  rw [ec] at hw
  have hw:=(hw.take (pts b4 (layC rows sg))).drop
  have hw:=hw.take (Own ss 3 (intsI (List.replicate lims.length 0)))
  have hw:Sat R (Reads ss (intsI (List.replicate lims.length 0))::pts p (fCells (emptyF num rows grps lims) sg sl ss hm om)::MapAt (α:=Int) om []::MapAt (α:=Int) hm []::Reads sg (intsI grps)::Reads sl (intsI lims)::Hs) w:=Own.reads hw
  have h2:Sat R (HoldsAt []::Reads ss (intsI (List.replicate lims.length 0))::pts p (fCells (emptyF num rows grps lims) sg sl ss hm om)::MapAt (α:=Int) om []::MapAt (α:=Int) hm []::Reads sg (intsI grps)::Reads sl (intsI lims)::Hs) w:=Sat.star.2 hw
  have h3:=(((((((h2.take (HoldsAt [])).take (MapAt (α:=Int) om [])).take (MapAt (α:=Int) hm [])).take (pts p (fCells (emptyF num rows grps lims) sg sl ss hm om))).take (Reads ss (intsI (List.replicate lims.length 0)))).take (Reads sl (intsI lims))).take (Reads sg (intsI grps)))
  exact h3
 refine ⟨rows,sg,At.own selfS (by exact ⟨rfl,rfl,trivial⟩),?_,?_,?_⟩
 ·refine zer_rule hl hw fun ss w hw=>⟨hw.drop,?_,?_⟩
  ·refine map_rule hw fun hm w hw=>⟨hw.drop.drop,map_rule hw fun om w hw=>⟨hw.drop.drop.drop,fin hw⟩⟩
  ·refine map_rule hw fun om w hw=>⟨hw.drop.drop,map_rule hw fun hm w hw=>⟨hw.drop.drop.drop,fin hw.swap⟩⟩
 ·refine map_rule hw fun hm w hw=>⟨hw.drop,?_,?_⟩
  ·refine zer_rule hl hw fun ss w hw=>⟨hw.drop.drop,map_rule hw fun om w hw=>⟨hw.drop.drop.drop,fin ((hw.take (MapAt (α:=Int) hm [])).take (MapAt (α:=Int) om []))⟩⟩
  ·refine map_rule hw fun om w hw=>⟨hw.drop.drop,zer_rule hl hw fun ss w hw=>⟨hw.drop.drop.drop,fin ((hw.take (MapAt (α:=Int) hm [])).take (MapAt (α:=Int) om []))⟩⟩
 ·refine map_rule hw fun om w hw=>⟨hw.drop,?_,?_⟩
  ·refine zer_rule hl hw fun ss w hw=>⟨hw.drop.drop,map_rule hw fun hm w hw=>⟨hw.drop.drop.drop,fin ((hw.take (MapAt (α:=Int) hm [])).take (MapAt (α:=Int) om []))⟩⟩
  ·refine map_rule hw fun hm w hw=>⟨hw.drop.drop,zer_rule hl hw fun ss w hw=>⟨hw.drop.drop.drop,fin ((hw.take (MapAt (α:=Int) hm [])).take (MapAt (α:=Int) om []))⟩⟩
end Go.Proofs.YtlplemdmegpoeaaGreatDoor
/- A flight: New, Take. Condition: bounds on lengths. -/
namespace Go.Proofs.YtlplemdmegpoeaaGreatDoor
set_option linter.unusedVariables false
set_option linter.unusedSimpArgs false
open Go Go.VC
variable {R:Cx} {Hs Rest:List HP} {w:World}
def takeF (f:PF) (owner cls many:Int):PF × Int:=
 if owner<1∨owner>28629151 then (f,1) else if (getM owner f.hs).isSome then (f,7)
 else if (sellT f.lims f.sold cls many).2=0 then ({ f with sold:=(sellT f.lims f.sold cls many).1,hs:=f.hs++[(owner,⟨owner,cls,many,[]⟩)] },0) else (f,(sellT f.lims f.sold cls many).2)
theorem take_fspec {p:Nat} {f:PF} {owner cls many:Int} (hl:f.lims.length≤1000) (hs:f.sold.length≤1000) (hw:Sat R (FlightAt p f::Hs) w):
  Gets Tryz.prog 101 #[.pointer (some ⟨p,0,none⟩),.int .i64 owner,.int .i64 cls,.int .i64 many] w fun v w'=>v=.int .i64 (takeF f owner cls many).2∧Sat R (FlightAt p (takeF f owner cls many).1::Hs) w':=by
 obtain ⟨hm,om,sg,sl,ss,E,R',hE,_,_,rl,rs,hw,back⟩:=Sat.flightO hw
 have same:∀ {w},Sat R' (FO p hm om sg sl ss E f Hs) w→Sat R (FlightAt p f::Hs) w:=fun hw=>Sat.flightC hE (back _ _ hw)
 have eget:(getM owner f.hs).isSome=(getM owner E).isSome:=by rw [←hE,hEr_get,Option.isSome_map]
 apply call101
 refine NilP.mk rfl ⟨some hm,At.own (eqS hw) (by exact ⟨rfl,trivial⟩),(getM owner E).map (fun x=>⟨x.1,0,none⟩),(getM owner E).isSome,fun w' e=>by rw [show w'=w from e];exact hold_look (hw.take (MapAt hm (hPtrs E))) owner true,?_⟩
 refine ⟨fun w=>(1≤owner∧owner≤28629151∧(getM owner E).isSome=false)∧Sat R' (FO p hm om sg sl ss E f Hs) w,?_,?_⟩
 ·refine Br.d (fun h=>?_) (fun h1=>Br.d (fun h=>?_) (fun h2=>Br.mk (fun h=>?_) (fun h=>⟨⟨by omega,by omega,h⟩,hw⟩)))
  ·rw [show takeF f owner cls many=(f,1) by unfold takeF;rw [if_pos (.inl h)]];exact ⟨rfl,same hw⟩
  ·rw [show takeF f owner cls many=(f,1) by unfold takeF;rw [if_pos (.inr h)]];exact ⟨rfl,same hw⟩
  ·rw [show takeF f owner cls many=(f,7) by unfold takeF;rw [if_neg (by omega),if_pos (by rw [eget];exact h)]];exact ⟨rfl,same hw⟩
 clear hw
 rintro _ w ⟨⟨h1,h2,h3⟩,hw⟩
 have e:takeF f owner cls many=if (sellT f.lims f.sold cls many).2=0 then ({ f with sold:=(sellT f.lims f.sold cls many).1,hs:=f.hs++[(owner,⟨owner,cls,many,[]⟩)] },0) else (f,(sellT f.lims f.sold cls many).2):=by
  unfold takeF;rw [if_neg (by omega),if_neg (by rw [eget,h3];simp)]
 rw [e]
 refine drw_rule hw fun w hw=>?_
 refine NilP.mk rfl ⟨sl,At.own selfS (by exact ⟨rfl,trivial⟩),NilP.mk rfl ⟨ss,At.own selfS (by exact ⟨rfl,trivial⟩),?_⟩⟩
 refine (sell_spec (rl.ro (by rw [List.length_map];omega)) (rs.ro (by rw [List.length_map];omega)) hw).use ?_
 rintro _ w ⟨t,rfl,hw⟩
 refine ⟨_,_,rfl,Br.e (fun h4=>?_) (fun h4=>?_)⟩
 ·rw [if_pos h4,h4]
  refine NilP.mk rfl ?_
  refine store_rule hw (by kernel_rfl) rfl (by simp [Value.cells]) fun w hw=>?_
  have hw:Sat R' (pts p (fCells f sg sl t hm om)::Own t 3 (intsI (sellT f.lims f.sold cls many).1)::MapAt hm (hPtrs E)::MapAt om (oVals f.own)::HoldsAt E::Hs) w:=hw
  refine NilP.mk rfl ⟨some hm,At.own (eqS hw) (by exact ⟨rfl,trivial⟩),?_⟩
  refine new_rule hw fun b w hw=>?_
  have hw:Sat R' (pts b (hCells ⟨owner,cls,many,[]⟩ ⟨none,0,0⟩)::pts p (fCells f sg sl t hm om)::Own t 3 (intsI (sellT f.lims f.sold cls many).1)::MapAt hm (hPtrs E)::MapAt om (oVals f.own)::HoldsAt E::Hs) w:=hw
  refine MapAt.put hMap (hw.take (MapAt hm (hPtrs E))) owner (.pointer (some ⟨b,0,none⟩)) fun w hw=>⟨rfl,?_⟩
  have ep:putM owner (Value.pointer (some ⟨b,0,none⟩)) (hPtrs E)=hPtrs (E++[(owner,b,⟨owner,cls,many,[]⟩)]):=by
   unfold putM
   rw [hPtrs_get,Option.isSome_map,h3]
   simp [hPtrs]
  rw [ep] at hw
  have hw:=hw.take (HoldsAt E)
  have hw:=hw.take (pts b (hCells ⟨owner,cls,many,[]⟩ ⟨none,0,0⟩))
  have hw:=(Sat.hold (b:=b) (h:=⟨owner,cls,many,[]⟩)).2 ⟨⟨none,0,0⟩,hw.cons fun _ h=>Own.nil (T:=3) h⟩
  rw [←List.append_nil E] at hw
  have hw:=(Sat.holds (e:=((owner,b,⟨owner,cls,many,[]⟩):HE)) (a:=E) (b:=[])).2 hw
  rw [List.append_nil] at hw
  have hw:=hw.take (Own t 3 (intsI (sellT f.lims f.sold cls many).1))
  have hw:=back _ _ (Own.reads hw)
  refine Sat.flight.2 ⟨hm,om,sg,sl,t,E++[(owner,b,⟨owner,cls,many,[]⟩)],by rw [←hE];simp [hEr],?_⟩
  have hw:=(hw.take (Reads ss (intsI f.sold))).drop
  exact (((((hw.take (HoldsAt (E++[(owner,b,⟨owner,cls,many,[]⟩)]))).take (MapAt om (oVals f.own))).take (MapAt hm (hPtrs (E++[(owner,b,⟨owner,cls,many,[]⟩)])))).take (pts p (fCells f sg sl t hm om))).take (Reads t (intsI (sellT f.lims f.sold cls many).1))).take (Reads sl (intsI f.lims))|>.take (Reads sg (intsI f.grps))
 ·rw [if_neg h4];exact ⟨rfl,same hw.drop⟩
end Go.Proofs.YtlplemdmegpoeaaGreatDoor
/- A flight: Seat, Labels. Condition: bounds on lengths. -/
namespace Go.Proofs.YtlplemdmegpoeaaGreatDoor
set_option linter.unusedVariables false
set_option linter.unusedSimpArgs false
open Go Go.VC
variable {R:Cx} {Hs Rest:List HP} {w:World}
abbrev FO1 (p hm om b:Nat) (sg sl ss s:Sl) (E Er:List HE) (f:PF) (h:Hold) (own:List (Int × Int)) (Hs:List HP):List HP:=
 pts b (hCells h s)::Own s 3 (intsI h.seats)::HoldsAt Er::pts p (fCells f sg sl ss hm om)::MapAt hm (hPtrs E)::MapAt om (oVals own)::Hs
theorem FO.open {p hm om b:Nat} {sg sl ss:Sl} {a c:List HE} {k:Int} {h:Hold} {f:PF} (hw:Sat R (FO p hm om sg sl ss (a++(k,b,h)::c) f Hs) w):∃ s,Sat R (FO1 p hm om b sg sl ss s (a++(k,b,h)::c) (a++c) f h f.own Hs) w:=
 Sat.hold.1 (Sat.holds.1 (hw.take (HoldsAt (a++(k,b,h)::c))))
theorem FO.close {p hm om b:Nat} {sg sl ss s:Sl} {a c:List HE} {k:Int} {h h':Hold} {f:PF} {own:List (Int × Int)} (hw:Sat R (FO1 p hm om b sg sl ss s (a++(k,b,h)::c) (a++c) f h' own Hs) w):
  Sat R (FO p hm om sg sl ss (a++(k,b,h')::c) { f with own:=own } Hs) w:=by
 have hw:=(Sat.hold (b:=b) (h:=h')).2 ⟨s,hw⟩
 have hw:=(Sat.holds (e:=((k,b,h'):HE)) (a:=a) (b:=c)).2 hw
 have e:hPtrs (a++(k,b,h')::c)=hPtrs (a++(k,b,h)::c):=by simp [hPtrs]
 show Sat R (pts p (fCells f sg sl ss hm om)::MapAt hm (hPtrs (a++(k,b,h')::c))::MapAt om (oVals own)::HoldsAt (a++(k,b,h')::c)::Hs) w
 rw [e]
 exact ((hw.take (MapAt om (oVals own))).take (MapAt hm (hPtrs (a++(k,b,h)::c)))).take (pts p (fCells f sg sl ss hm om))
theorem hEr_app (a:List HE) (k:Int) (b:Nat) (h:Hold) (c:List HE):hEr (a++(k,b,h)::c)=hEr a++(k,h)::hEr c:=by simp [hEr]
theorem int_rfl (k:Int):(k==k)=true:=beq_self_eq_true k
end Go.Proofs.YtlplemdmegpoeaaGreatDoor

/- A flight: Left, Give. Condition: bounds on lengths. -/
namespace Go.Proofs.YtlplemdmegpoeaaGreatDoor
set_option linter.unusedVariables false
set_option linter.unusedSimpArgs false
open Go Go.VC
variable {R:Cx} {Hs Rest:List HP} {w:World}
def leftsF (f:PF):List Int:=(List.range f.lims.length).map fun (k:Nat)=>(leftT f.lims f.sold k).1
def leftsTo (f:PF) (j:Nat):List Int:=(List.range f.lims.length).map fun (k:Nat)=>if k<j then (leftT f.lims f.sold k).1 else 0
theorem leftsTo_set (f:PF) {j:Nat} (h:j<f.lims.length):(leftsTo f j).set j (leftT f.lims f.sold j).1=leftsTo f (j + 1):=by
 apply List.ext_getElem
 ·simp [leftsTo]
 ·intro i h1 h2
  simp only [leftsTo,List.length_set,List.length_map,List.length_range] at h1 h2
  rw [List.getElem_set]
  simp only [leftsTo,List.getElem_map,List.getElem_range]
  split
  ·rename_i h3;subst h3;rw [if_pos (by omega)]
  ·by_cases h4:i<j
   ·rw [if_pos h4,if_pos (by omega)]
   ·rw [if_neg h4,if_neg (by omega)]
theorem left_fspec {p:Nat} {f:PF} (hl:f.lims.length≤1000) (hs:f.sold.length≤1000) (hw:Sat R (FlightAt p f::Hs) w):
  Gets Tryz.prog 55 #[.pointer (some ⟨p,0,none⟩)] w fun v w'=>∃ t:Sl,v=.slice t.a t.len t.cap∧Sat R (Own t 3 (intsI (leftsF f))::FlightAt p f::Hs) w':=by
 obtain ⟨hm,om,sg,sl,ss,E,R',hE,_,_,rl,rs,hw,back⟩:=Sat.flightO hw
 have hsl:sl.len=f.lims.length:=by have:=rl.len;rw [List.length_map] at this;exact this
 apply call55
 refine NilP.mk rfl ⟨sl,At.own (eqS hw) (by exact ⟨rfl,trivial⟩),?_⟩
 rw [hsl]
 refine zer_rule hl hw fun t w hw=>?_
 have e0:List.replicate f.lims.length (0:Int)=leftsTo f 0:=by
  apply List.ext_getElem
  ·simp [leftsTo]
  ·intro i h1 h2;simp [leftsTo]
 rw [e0] at hw
 refine ⟨fun i w=>∃ j:Nat,i=j∧j≤f.lims.length∧Sat R' (Own t 3 (intsI (leftsTo f j))::FO p hm om sg sl ss E f Hs) w,fun i _=>f.lims.length - i.toNat,⟨0,rfl,by omega,hw⟩,?_⟩
 clear hw
 rintro _ _ w ⟨j,rfl,hj,hw⟩
 have htl:=Own.len hw
 simp only [leftsTo,List.length_map,List.length_range] at htl
 refine Br.d (fun h=>?_) (fun h=>?_)
 ·have hj2:j<f.lims.length:=by omega
  refine drw_rule hw fun w hw=>?_
  refine NilP.mk rfl ⟨sl,At.own selfS (by exact ⟨rfl,trivial⟩),NilP.mk rfl ⟨ss,At.own selfS (by exact ⟨rfl,trivial⟩),?_⟩⟩
  refine (left_spec (rl.ro (by rw [List.length_map];omega)) (rs.ro (by rw [List.length_map];omega)) hw).use ?_
  rintro _ w ⟨rfl,hw⟩
  refine ⟨_,_,rfl,?_⟩
  refine Own.store (by kernel_rfl) hw (by simp [leftsTo];exact hj2) fun w hw=>?_
  rw [leftsTo_set f hj2] at hw
  rw [wrap64 (by omega) (by omega)]
  exact ⟨⟨j + 1,by omega,by omega,hw⟩,by dsimp only;omega⟩
 ·obtain rfl:j=f.lims.length:=by omega
  have e1:leftsTo f f.lims.length=leftsF f:=by
   unfold leftsTo leftsF
   refine List.map_congr_left fun k hk=>?_
   rw [if_pos (List.mem_range.1 hk)]
  rw [e1] at hw
  refine ⟨t,rfl,?_⟩
  have hw:=back _ _ hw
  exact Sat.cons (fun _ h5=>Sat.flightC hE h5) (hw.take (Own t 3 (intsI (leftsF f))))
end Go.Proofs.YtlplemdmegpoeaaGreatDoor
/-
  DERIVED: THE SHELF's CONTRACTS AT THIS DUMP, IN PLAIN WORDS (tools/lay-plain.mjs out of 'TryIter.lean', which tools/lay-shelf.mjs wrote): THE SAME DECLARATIONS UNDER THE SAME NAMES: 'import', 'namespace', 'open', 'def', 'theorem' AND NOTHING ELSE: no command of the shelf's: FOR A HAND-IN. Each laying: the table of numbers ('.._ren') and one theorem, a field a fact of the dump's own or the kernel's comparison; each contract: ONE APPLICATION.
-/
namespace Go.Proofs
set_option linter.unusedVariables false
set_option linter.unusedSimpArgs false
open Go.Shelf
def Tryz.sorted61_ren:Go.Shelf.Ren:=⟨fun|6=>61|8=>129|9=>130|11=>206|13=>208|12=>207|23=>270|24=>205|14=>261|15=>262|16=>263|17=>264|18=>265|19=>266|20=>267|21=>268|22=>269|25=>286|26=>287|27=>288|28=>289|29=>290|30=>278|31=>297|n=>n,fun|26=>3|28=>116|24=>30|0=>0|3=>3|37=>264|48=>306|50=>141|4=>4|40=>299|39=>298|45=>230|5=>5|9=>9|51=>313|55=>317|57=>321|58=>293|33=>159|n=>n,fun|n=>n⟩
theorem Tryz.sorted61:Go.Proofs.SlLaysZI.n6 Tryz.prog Tryz.sorted61_ren:={
  mixed:=by kernel_rfl
  f6:=⟨Tryz.f61.name,by decide,Tryz.func61.trans (congrArg some (by kernel_rfl))⟩
  f8:=⟨Tryz.f129.name,by decide,Tryz.func129.trans (congrArg some (by kernel_rfl))⟩
  f11:=⟨Tryz.f206.name,by decide,Tryz.func206.trans (congrArg some (by kernel_rfl))⟩
  t0:=Tryz.underlying0
  a0:=Tryz.isAgg0
  z0:=Tryz.sizeOf0
  v0:=Tryz.zeroValue0
  t24:=Tryz.underlying30
  a24:=Tryz.isAgg30
  z24:=Tryz.sizeOf30
  v24:=Tryz.zeroValue30
  t26:=Tryz.underlying3
  a26:=Tryz.isAgg3
  z26:=Tryz.sizeOf3
  v26:=Tryz.zeroValue3
  t28:=Tryz.underlying116
  a28:=Tryz.isAgg116
  z28:=Tryz.sizeOf116
  v28:=Tryz.zeroValue116
  i26:=by kernel_rfl }
def Tryz.sort130_ren:Go.Shelf.Ren:=⟨fun|5=>130|8=>208|7=>207|19=>270|20=>205|10=>261|11=>262|12=>263|13=>264|14=>265|15=>266|16=>267|17=>268|18=>269|30=>286|31=>287|32=>288|33=>289|34=>290|35=>278|40=>297|n=>n,fun|23=>30|25=>3|3=>3|32=>264|22=>30|0=>0|44=>306|46=>141|4=>4|36=>299|35=>298|41=>230|5=>5|9=>9|53=>313|57=>317|63=>321|64=>293|n=>n,fun|n=>n⟩
theorem Tryz.sort130:Go.Proofs.SlLaysM.n5 Tryz.prog Tryz.sort130_ren:={
  mixed:=by kernel_rfl
  f5:=⟨Tryz.f130.name,by decide,Tryz.func130.trans (congrArg some (by kernel_rfl))⟩
  f7:=⟨Tryz.f207.name,by decide,Tryz.func207.trans (congrArg some (by kernel_rfl))⟩
  f8:=Tryz.func208.trans (congrArg some (by kernel_rfl))
  f10:=⟨Tryz.f261.name,by decide,Tryz.func261.trans (congrArg some (by kernel_rfl))⟩
  f11:=⟨Tryz.f262.name,by decide,Tryz.func262.trans (congrArg some (by kernel_rfl))⟩
  f12:=⟨Tryz.f263.name,by decide,Tryz.func263.trans (congrArg some (by kernel_rfl))⟩
  f13:=⟨Tryz.f264.name,by decide,Tryz.func264.trans (congrArg some (by kernel_rfl))⟩
  f14:=⟨Tryz.f265.name,by decide,Tryz.func265.trans (congrArg some (by kernel_rfl))⟩
  f15:=⟨Tryz.f266.name,by decide,Tryz.func266.trans (congrArg some (by kernel_rfl))⟩
  f16:=⟨Tryz.f267.name,by decide,Tryz.func267.trans (congrArg some (by kernel_rfl))⟩
  f17:=⟨Tryz.f268.name,by decide,Tryz.func268.trans (congrArg some (by kernel_rfl))⟩
  f18:=⟨Tryz.f269.name,by decide,Tryz.func269.trans (congrArg some (by kernel_rfl))⟩
  f19:=Tryz.func270.trans (congrArg some (by kernel_rfl))
  f20:=Tryz.func205.trans (congrArg some (by kernel_rfl))
  f30:=⟨Tryz.f286.name,by decide,Tryz.func286.trans (congrArg some (by kernel_rfl))⟩
  f31:=Tryz.func287.trans (congrArg some (by kernel_rfl))
  f32:=Tryz.func288.trans (congrArg some (by kernel_rfl))
  f33:=⟨Tryz.f289.name,by decide,Tryz.func289.trans (congrArg some (by kernel_rfl))⟩
  f34:=⟨Tryz.f290.name,by decide,Tryz.func290.trans (congrArg some (by kernel_rfl))⟩
  f35:=⟨Tryz.f278.name,by decide,Tryz.func278.trans (congrArg some (by kernel_rfl))⟩
  f40:=⟨Tryz.f297.name,by decide,Tryz.func297.trans (congrArg some (by kernel_rfl))⟩
  t0:=Tryz.underlying0
  a0:=Tryz.isAgg0
  z0:=Tryz.sizeOf0
  v0:=Tryz.zeroValue0
  t3:=Tryz.underlying3
  a3:=Tryz.isAgg3
  z3:=Tryz.sizeOf3
  v3:=Tryz.zeroValue3
  t4:=Tryz.underlying4
  a4:=Tryz.isAgg4
  z4:=Tryz.sizeOf4
  v4:=Tryz.zeroValue4
  t5:=Tryz.underlying5
  a5:=Tryz.isAgg5
  z5:=Tryz.sizeOf5
  v5:=Tryz.zeroValue5
  t9:=Tryz.underlying9
  a9:=Tryz.isAgg9
  z9:=Tryz.sizeOf9
  v9:=Tryz.zeroValue9
  t22:=Tryz.underlying30
  a22:=Tryz.isAgg30
  z22:=Tryz.sizeOf30
  v22:=Tryz.zeroValue30
  t23:=Tryz.underlying30
  a23:=Tryz.isAgg30
  z23:=Tryz.sizeOf30
  v23:=Tryz.zeroValue30
  t25:=Tryz.underlying3
  a25:=Tryz.isAgg3
  z25:=Tryz.sizeOf3
  v25:=Tryz.zeroValue3
  t32:=Tryz.underlying264
  a32:=Tryz.isAgg264
  z32:=Tryz.sizeOf264
  v32:=Tryz.zeroValue264
  t35:=Tryz.underlying298
  a35:=Tryz.isAgg298
  z35:=Tryz.sizeOf298
  v35:=Tryz.zeroValue298
  t36:=Tryz.underlying299
  a36:=Tryz.isAgg299
  z36:=Tryz.sizeOf299
  v36:=Tryz.zeroValue299
  t41:=Tryz.underlying230
  a41:=Tryz.isAgg230
  z41:=Tryz.sizeOf230
  v41:=Tryz.zeroValue230
  t44:=Tryz.underlying306
  a44:=Tryz.isAgg306
  z44:=Tryz.sizeOf306
  v44:=Tryz.zeroValue306
  t46:=Tryz.underlying141
  a46:=Tryz.isAgg141
  z46:=Tryz.sizeOf141
  v46:=Tryz.zeroValue141
  t53:=Tryz.underlying313
  a53:=Tryz.isAgg313
  z53:=Tryz.sizeOf313
  v53:=Tryz.zeroValue313
  t57:=Tryz.underlying317
  a57:=Tryz.isAgg317
  z57:=Tryz.sizeOf317
  v57:=Tryz.zeroValue317
  t63:=Tryz.underlying321
  a63:=Tryz.isAgg321
  z63:=Tryz.sizeOf321
  v63:=Tryz.zeroValue321
  t64:=Tryz.underlying293
  a64:=Tryz.isAgg293
  z64:=Tryz.sizeOf293
  v64:=Tryz.zeroValue293 }
open Go.RowKit Go.Maps Go.Sort Go.Shelf in
theorem Tryz.sorts61 (m:Nat):AnyZI.SortsIn Tryz.prog Tryz.sorted61_ren Fence.wide m:=
  ⟨fun blk off cap ss W hH hblk hsz=>callsIn_wide.2 (AnyM.slices_Sort_int Tryz.sort130 blk off cap ss W hH hblk hsz),
   fun p cap W=>callsIn_wide.2 (AnyM.slices_Sort_int_none Tryz.sort130 p cap W)⟩
def Tryz.keys209_ren:Go.Shelf.Ren:=⟨fun|7=>209|10=>271|n=>n,fun|23=>183|26=>3|3=>227|28=>116|0=>0|27=>115|33=>159|4=>4|n=>n,fun|n=>n⟩
theorem Tryz.keys209:Go.Proofs.SlLaysZI.n7 Tryz.prog Tryz.keys209_ren:={
  mixed:=by kernel_rfl
  f7:=⟨Tryz.f209.name,by decide,Tryz.func209.trans (congrArg some (by kernel_rfl))⟩
  f10:=⟨Tryz.f271.name,by decide,Tryz.func271.trans (congrArg some (by kernel_rfl))⟩
  t0:=Tryz.underlying0
  a0:=Tryz.isAgg0
  z0:=Tryz.sizeOf0
  v0:=Tryz.zeroValue0
  t4:=Tryz.underlying4
  a4:=Tryz.isAgg4
  z4:=Tryz.sizeOf4
  v4:=Tryz.zeroValue4
  t23:=Tryz.underlying183
  a23:=Tryz.isAgg183
  z23:=Tryz.sizeOf183
  v23:=Tryz.zeroValue183
  t26:=Tryz.underlying3
  a26:=Tryz.isAgg3
  z26:=Tryz.sizeOf3
  v26:=Tryz.zeroValue3
  t27:=Tryz.underlying115
  a27:=Tryz.isAgg115
  z27:=Tryz.sizeOf115
  v27:=Tryz.zeroValue115
  t28:=Tryz.underlying116
  a28:=Tryz.isAgg116
  z28:=Tryz.sizeOf116
  v28:=Tryz.zeroValue116
  t33:=Tryz.underlying159
  a33:=Tryz.isAgg159
  z33:=Tryz.sizeOf159
  v33:=Tryz.zeroValue159 }
open Go.RowKit Go.Maps Go.Sort Go.Shelf in
theorem Tryz.maps_Keys_209 (mb:Option Nat) (W:World):CallsIn Fence.wide 5 Tryz.prog 209 #[.map mb] W fun e w'=>e=.returned (.func (.func 271) #[] #[.pointer (some ⟨W.heap.size,0,none⟩)])∧w'=W.alloc (.cells #[.map mb] 183):=
  AnyZI.keys_in Tryz.keys209 Fence.wide 5 trivial rfl mb W
open Go.RowKit Go.Maps Go.Sort Go.Shelf in
theorem Tryz.slices_Sorted_keys_61_209 {H:Type} (b nn:Nat) (D0:DataW H) (R:Value→Option (DataW H × List MemPlace)) (w:World) (hown:w.ownsMap Tryz.prog 3 R b nn D0) (hmax:Maps.size D0≤maxLen) (hbytes:Maps.size D0 * 8≤140737488355328):
    CallsIn Fence.wide 5 Tryz.prog 61 #[.func (.func 271) #[] #[.pointer (some ⟨w.heap.size,0,none⟩)]] (w.alloc (.cells #[.map (some b)] 183)) fun e w'=>∃ (v:Value) (ss:List Int),e=.returned v∧ss.Perm (intKeys D0)∧
      w'.ownsRow (w.alloc (.cells #[.map (some b)] 183)).heap.size 3 1 v ss.length ((ss.mergeSort (fun x y=>decide (x≤y))).map encZ)∧(v=.slice none 0 0↔ss=[])∧Below (w.alloc (.cells #[.map (some b)] 183)).heap.size (w.alloc (.cells #[.map (some b)] 183)) w':=by
  have hbl:=hown.lt
  have hseq:SeqGives Fence.wide 2 Tryz.prog 271 #[.pointer (some ⟨w.heap.size,0,none⟩)] encZ (fun ss=>ss.Perm (intKeys D0)) (Maps.size D0) (w.alloc (.cells #[.map (some b)] 183)):=
    AnyZI.keys_gives (ρ:=Tryz.keys209_ren) { Tryz.keys209 with } Fence.wide _ trivial rfl (by omega) w.heap.size b nn D0 _ (by simp) (by simp) (by
      obtain ⟨es,clock,hb,Ft,hs,hD⟩:=hown
      exact ⟨es,clock,(Below.heap_alloc _ _ b hbl).trans hb,Ft,hs,hD⟩)
  exact AnyZI.sorted_in Tryz.sorted61 Fence.wide 5 trivial trivial trivial trivial rfl (by omega) (Tryz.sorts61 _) (enters_of Tryz.func130 (by kernel_rfl) rfl) 271 #[.pointer (some ⟨w.heap.size,0,none⟩)] trivial (enters_of Tryz.func271 (by kernel_rfl) rfl) _ _ hmax hbytes _ hseq
def Tryz.keys66_ren:Go.Shelf.Ren:=⟨fun|7=>66|10=>136|n=>n,fun|23=>78|26=>3|3=>86|28=>116|0=>0|27=>115|33=>159|4=>4|n=>n,fun|n=>n⟩
theorem Tryz.keys66:Go.Proofs.SlLaysZI.n7 Tryz.prog Tryz.keys66_ren:={
  mixed:=by kernel_rfl
  f7:=⟨Tryz.f66.name,by decide,Tryz.func66.trans (congrArg some (by kernel_rfl))⟩
  f10:=⟨Tryz.f136.name,by decide,Tryz.func136.trans (congrArg some (by kernel_rfl))⟩
  t0:=Tryz.underlying0
  a0:=Tryz.isAgg0
  z0:=Tryz.sizeOf0
  v0:=Tryz.zeroValue0
  t4:=Tryz.underlying4
  a4:=Tryz.isAgg4
  z4:=Tryz.sizeOf4
  v4:=Tryz.zeroValue4
  t23:=Tryz.underlying78
  a23:=Tryz.isAgg78
  z23:=Tryz.sizeOf78
  v23:=Tryz.zeroValue78
  t26:=Tryz.underlying3
  a26:=Tryz.isAgg3
  z26:=Tryz.sizeOf3
  v26:=Tryz.zeroValue3
  t27:=Tryz.underlying115
  a27:=Tryz.isAgg115
  z27:=Tryz.sizeOf115
  v27:=Tryz.zeroValue115
  t28:=Tryz.underlying116
  a28:=Tryz.isAgg116
  z28:=Tryz.sizeOf116
  v28:=Tryz.zeroValue116
  t33:=Tryz.underlying159
  a33:=Tryz.isAgg159
  z33:=Tryz.sizeOf159
  v33:=Tryz.zeroValue159 }
open Go.RowKit Go.Maps Go.Sort Go.Shelf in
theorem Tryz.maps_Keys_66 (mb:Option Nat) (W:World):CallsIn Fence.wide 5 Tryz.prog 66 #[.map mb] W fun e w'=>e=.returned (.func (.func 136) #[] #[.pointer (some ⟨W.heap.size,0,none⟩)])∧w'=W.alloc (.cells #[.map mb] 78):=
  AnyZI.keys_in Tryz.keys66 Fence.wide 5 trivial rfl mb W
open Go.RowKit Go.Maps Go.Sort Go.Shelf in
theorem Tryz.slices_Sorted_keys_61_66 {H:Type} (b nn:Nat) (D0:DataW H) (R:Value→Option (DataW H × List MemPlace)) (w:World) (hown:w.ownsMap Tryz.prog 3 R b nn D0) (hmax:Maps.size D0≤maxLen) (hbytes:Maps.size D0 * 8≤140737488355328):
    CallsIn Fence.wide 5 Tryz.prog 61 #[.func (.func 136) #[] #[.pointer (some ⟨w.heap.size,0,none⟩)]] (w.alloc (.cells #[.map (some b)] 78)) fun e w'=>∃ (v:Value) (ss:List Int),e=.returned v∧ss.Perm (intKeys D0)∧
      w'.ownsRow (w.alloc (.cells #[.map (some b)] 78)).heap.size 3 1 v ss.length ((ss.mergeSort (fun x y=>decide (x≤y))).map encZ)∧(v=.slice none 0 0↔ss=[])∧Below (w.alloc (.cells #[.map (some b)] 78)).heap.size (w.alloc (.cells #[.map (some b)] 78)) w':=by
  have hbl:=hown.lt
  have hseq:SeqGives Fence.wide 2 Tryz.prog 136 #[.pointer (some ⟨w.heap.size,0,none⟩)] encZ (fun ss=>ss.Perm (intKeys D0)) (Maps.size D0) (w.alloc (.cells #[.map (some b)] 78)):=
    AnyZI.keys_gives (ρ:=Tryz.keys66_ren) { Tryz.keys66 with } Fence.wide _ trivial rfl (by omega) w.heap.size b nn D0 _ (by simp) (by simp) (by
      obtain ⟨es,clock,hb,Ft,hs,hD⟩:=hown
      exact ⟨es,clock,(Below.heap_alloc _ _ b hbl).trans hb,Ft,hs,hD⟩)
  exact AnyZI.sorted_in Tryz.sorted61 Fence.wide 5 trivial trivial trivial trivial rfl (by omega) (Tryz.sorts61 _) (enters_of Tryz.func130 (by kernel_rfl) rfl) 136 #[.pointer (some ⟨w.heap.size,0,none⟩)] trivial (enters_of Tryz.func136 (by kernel_rfl) rfl) _ _ hmax hbytes _ hseq
def Tryz.keys82_ren:Go.Shelf.Ren:=⟨fun|7=>82|10=>147|n=>n,fun|23=>126|26=>3|3=>131|28=>116|0=>0|27=>115|33=>159|4=>4|n=>n,fun|n=>n⟩
theorem Tryz.keys82:Go.Proofs.SlLaysZI.n7 Tryz.prog Tryz.keys82_ren:={
  mixed:=by kernel_rfl
  f7:=⟨Tryz.f82.name,by decide,Tryz.func82.trans (congrArg some (by kernel_rfl))⟩
  f10:=⟨Tryz.f147.name,by decide,Tryz.func147.trans (congrArg some (by kernel_rfl))⟩
  t0:=Tryz.underlying0
  a0:=Tryz.isAgg0
  z0:=Tryz.sizeOf0
  v0:=Tryz.zeroValue0
  t4:=Tryz.underlying4
  a4:=Tryz.isAgg4
  z4:=Tryz.sizeOf4
  v4:=Tryz.zeroValue4
  t23:=Tryz.underlying126
  a23:=Tryz.isAgg126
  z23:=Tryz.sizeOf126
  v23:=Tryz.zeroValue126
  t26:=Tryz.underlying3
  a26:=Tryz.isAgg3
  z26:=Tryz.sizeOf3
  v26:=Tryz.zeroValue3
  t27:=Tryz.underlying115
  a27:=Tryz.isAgg115
  z27:=Tryz.sizeOf115
  v27:=Tryz.zeroValue115
  t28:=Tryz.underlying116
  a28:=Tryz.isAgg116
  z28:=Tryz.sizeOf116
  v28:=Tryz.zeroValue116
  t33:=Tryz.underlying159
  a33:=Tryz.isAgg159
  z33:=Tryz.sizeOf159
  v33:=Tryz.zeroValue159 }
open Go.RowKit Go.Maps Go.Sort Go.Shelf in
theorem Tryz.maps_Keys_82 (mb:Option Nat) (W:World):CallsIn Fence.wide 5 Tryz.prog 82 #[.map mb] W fun e w'=>e=.returned (.func (.func 147) #[] #[.pointer (some ⟨W.heap.size,0,none⟩)])∧w'=W.alloc (.cells #[.map mb] 126):=
  AnyZI.keys_in Tryz.keys82 Fence.wide 5 trivial rfl mb W
open Go.RowKit Go.Maps Go.Sort Go.Shelf in
theorem Tryz.slices_Sorted_keys_61_82 {H:Type} (b nn:Nat) (D0:DataW H) (R:Value→Option (DataW H × List MemPlace)) (w:World) (hown:w.ownsMap Tryz.prog 3 R b nn D0) (hmax:Maps.size D0≤maxLen) (hbytes:Maps.size D0 * 8≤140737488355328):
    CallsIn Fence.wide 5 Tryz.prog 61 #[.func (.func 147) #[] #[.pointer (some ⟨w.heap.size,0,none⟩)]] (w.alloc (.cells #[.map (some b)] 126)) fun e w'=>∃ (v:Value) (ss:List Int),e=.returned v∧ss.Perm (intKeys D0)∧
      w'.ownsRow (w.alloc (.cells #[.map (some b)] 126)).heap.size 3 1 v ss.length ((ss.mergeSort (fun x y=>decide (x≤y))).map encZ)∧(v=.slice none 0 0↔ss=[])∧Below (w.alloc (.cells #[.map (some b)] 126)).heap.size (w.alloc (.cells #[.map (some b)] 126)) w':=by
  have hbl:=hown.lt
  have hseq:SeqGives Fence.wide 2 Tryz.prog 147 #[.pointer (some ⟨w.heap.size,0,none⟩)] encZ (fun ss=>ss.Perm (intKeys D0)) (Maps.size D0) (w.alloc (.cells #[.map (some b)] 126)):=
    AnyZI.keys_gives (ρ:=Tryz.keys82_ren) { Tryz.keys82 with } Fence.wide _ trivial rfl (by omega) w.heap.size b nn D0 _ (by simp) (by simp) (by
      obtain ⟨es,clock,hb,Ft,hs,hD⟩:=hown
      exact ⟨es,clock,(Below.heap_alloc _ _ b hbl).trans hb,Ft,hs,hD⟩)
  exact AnyZI.sorted_in Tryz.sorted61 Fence.wide 5 trivial trivial trivial trivial rfl (by omega) (Tryz.sorts61 _) (enters_of Tryz.func130 (by kernel_rfl) rfl) 147 #[.pointer (some ⟨w.heap.size,0,none⟩)] trivial (enters_of Tryz.func147 (by kernel_rfl) rfl) _ _ hmax hbytes _ hseq
def Tryz.keys62_ren:Go.Shelf.Ren:=⟨fun|7=>62|10=>131|n=>n,fun|23=>77|26=>3|3=>97|28=>116|0=>0|27=>115|33=>159|4=>4|n=>n,fun|n=>n⟩
theorem Tryz.keys62:Go.Proofs.SlLaysZI.n7 Tryz.prog Tryz.keys62_ren:={
  mixed:=by kernel_rfl
  f7:=⟨Tryz.f62.name,by decide,Tryz.func62.trans (congrArg some (by kernel_rfl))⟩
  f10:=⟨Tryz.f131.name,by decide,Tryz.func131.trans (congrArg some (by kernel_rfl))⟩
  t0:=Tryz.underlying0
  a0:=Tryz.isAgg0
  z0:=Tryz.sizeOf0
  v0:=Tryz.zeroValue0
  t4:=Tryz.underlying4
  a4:=Tryz.isAgg4
  z4:=Tryz.sizeOf4
  v4:=Tryz.zeroValue4
  t23:=Tryz.underlying77
  a23:=Tryz.isAgg77
  z23:=Tryz.sizeOf77
  v23:=Tryz.zeroValue77
  t26:=Tryz.underlying3
  a26:=Tryz.isAgg3
  z26:=Tryz.sizeOf3
  v26:=Tryz.zeroValue3
  t27:=Tryz.underlying115
  a27:=Tryz.isAgg115
  z27:=Tryz.sizeOf115
  v27:=Tryz.zeroValue115
  t28:=Tryz.underlying116
  a28:=Tryz.isAgg116
  z28:=Tryz.sizeOf116
  v28:=Tryz.zeroValue116
  t33:=Tryz.underlying159
  a33:=Tryz.isAgg159
  z33:=Tryz.sizeOf159
  v33:=Tryz.zeroValue159 }
open Go.RowKit Go.Maps Go.Sort Go.Shelf in
theorem Tryz.maps_Keys_62 (mb:Option Nat) (W:World):CallsIn Fence.wide 5 Tryz.prog 62 #[.map mb] W fun e w'=>e=.returned (.func (.func 131) #[] #[.pointer (some ⟨W.heap.size,0,none⟩)])∧w'=W.alloc (.cells #[.map mb] 77):=
  AnyZI.keys_in Tryz.keys62 Fence.wide 5 trivial rfl mb W
open Go.RowKit Go.Maps Go.Sort Go.Shelf in
theorem Tryz.slices_Sorted_keys_61_62 {H:Type} (b nn:Nat) (D0:DataW H) (R:Value→Option (DataW H × List MemPlace)) (w:World) (hown:w.ownsMap Tryz.prog 3 R b nn D0) (hmax:Maps.size D0≤maxLen) (hbytes:Maps.size D0 * 8≤140737488355328):
    CallsIn Fence.wide 5 Tryz.prog 61 #[.func (.func 131) #[] #[.pointer (some ⟨w.heap.size,0,none⟩)]] (w.alloc (.cells #[.map (some b)] 77)) fun e w'=>∃ (v:Value) (ss:List Int),e=.returned v∧ss.Perm (intKeys D0)∧
      w'.ownsRow (w.alloc (.cells #[.map (some b)] 77)).heap.size 3 1 v ss.length ((ss.mergeSort (fun x y=>decide (x≤y))).map encZ)∧(v=.slice none 0 0↔ss=[])∧Below (w.alloc (.cells #[.map (some b)] 77)).heap.size (w.alloc (.cells #[.map (some b)] 77)) w':=by
  have hbl:=hown.lt
  have hseq:SeqGives Fence.wide 2 Tryz.prog 131 #[.pointer (some ⟨w.heap.size,0,none⟩)] encZ (fun ss=>ss.Perm (intKeys D0)) (Maps.size D0) (w.alloc (.cells #[.map (some b)] 77)):=
    AnyZI.keys_gives (ρ:=Tryz.keys62_ren) { Tryz.keys62 with } Fence.wide _ trivial rfl (by omega) w.heap.size b nn D0 _ (by simp) (by simp) (by
      obtain ⟨es,clock,hb,Ft,hs,hD⟩:=hown
      exact ⟨es,clock,(Below.heap_alloc _ _ b hbl).trans hb,Ft,hs,hD⟩)
  exact AnyZI.sorted_in Tryz.sorted61 Fence.wide 5 trivial trivial trivial trivial rfl (by omega) (Tryz.sorts61 _) (enters_of Tryz.func130 (by kernel_rfl) rfl) 131 #[.pointer (some ⟨w.heap.size,0,none⟩)] trivial (enters_of Tryz.func131 (by kernel_rfl) rfl) _ _ hmax hbytes _ hseq
end Go.Proofs
/- The keys of a map of ints: in any order, and sorted. Condition: bounds. -/
namespace Go.Proofs.YtlplemdmegpoeaaGreatDoor
set_option linter.unusedVariables false
set_option linter.unusedSimpArgs false
open Go Go.VC
variable {R:Cx} {Hs Rest:List HP} {w:World}
theorem keysB_map {m c:Nat} {l:List (En Int)} {es:List (Int × Value)} (hs:strip l=es) (hst:StampsOk l c) (hu:(es.map (·.1)).Nodup) (hn:∀ k∈es.map (·.1),-4611686018427387904≤k∧k≤4611686018427387904) (hlen:es.length≤1000000)
  (hm:w.heap[m]? =some (.map (l.map mkE).toArray c)):
  ∃ D0:DataW Unit,w.ownsMap Tryz.prog 3 (fun _=>some (.nil,[])) m 1000000 D0∧Maps.size D0≤1000000∧∀ ss:List Int,ss.Perm (intKeys D0)→ss.Perm (es.map (·.1)):=by
 have hkeys:l.map (·.1)=es.map (·.1):=by rw [←hs];simp [strip,Function.comp_def]
 have hlen2:l.length=es.length:=by have:=congrArg List.length hkeys;simpa using this
 have hkey:∀ e∈l,keyOf Tryz.prog 3 (mkE e).key=some (.int .i64 e.1):=fun e he=>by
  have hm:e.1∈es.map (·.1):=by rw [←hkeys];exact List.mem_map_of_mem he
  have hsz:=hn _ hm
  have hwf:(Lit.int .i64 e.1).wf=true:=by
   have h1:IntKind.i64.min=-9223372036854775808:=by decide
   have h2:IntKind.i64.max=9223372036854775807:=by decide
   simp only [Lit.wf,Bool.and_eq_true,decide_eq_true_eq];omega
  simp only [keyOf,Tryz.underlying3,mkE,mapKey,KeyK.enc]
  rw [if_pos ⟨trivial,hwf⟩]
 have hrd:∀ e∈l,WideElems.rd Tryz.prog 3 (fun _=>some ((.nil:DataW Unit),[])) (mkE e)=some (.int .i64 e.1,.nil):=fun e he=>by
  unfold WideElems.rd
  rw [hkey e he];rfl
 have hrg:((l.map mkE).map (WideElems.rg Tryz.prog 3 (fun _=>some ((.nil:DataW Unit),[]))))=l.map fun e=>(.int .i64 e.1,.nil):=by
  rw [List.map_map]
  apply List.map_congr_left
  intro e he
  simp only [Function.comp,WideElems.rg,hrd e he,Option.getD_some]
 refine ⟨_,⟨(l.map mkE).toArray,c,hm,⟨by simp [maxLen];omega,?_,?_⟩,by simp;omega,rfl⟩,?_,?_⟩
 ·refine ⟨fun x hx=>?_,?_,?_⟩
  ·simp only [List.mem_map] at hx
   obtain ⟨e,he,rfl⟩:=hx
   exact hst.1 e he
  ·have:=hst.2;simpa [mkE,Function.comp_def] using this
  ·have h2:(l.map (·.1)).Nodup:=by rw [hkeys];exact hu
   have e1:((l.map mkE).toArray.toList.map (·.key))=(l.map (·.1)).map (Value.int .i64):=by simp [mkE,Function.comp_def,KeyK.enc]
   rw [e1]
   exact List.Pairwise.map _ (fun a b hab h=>hab (by injection h)) h2
 ·intro x hx
  simp only [List.mem_map] at hx
  obtain ⟨e,he,rfl⟩:=hx
  exact ⟨_,hrd e he⟩
 ·simp only [Maps.size,hrg]
  rw [(WideShapes.sorted_perm _).length_eq];simp;omega
 ·intro ss hss
  refine hss.trans ?_
  simp only [intKeys,hrg]
  refine ((WideShapes.sorted_perm _).map _).trans ?_
  rw [List.map_map,←hkeys]
  exact List.Perm.of_eq (List.map_congr_left fun e _=>rfl)
theorem keysI_map {m c:Nat} {l:List (En Int)} {es:List (Int × Value)} (hs:strip l=es) (hst:StampsOk l c) (hu:(es.map (·.1)).Nodup) (hn:∀ k∈es.map (·.1),-1000000000≤k∧k≤1000000000) (hlen:es.length≤1000000)
  (hm:w.heap[m]? =some (.map (l.map mkE).toArray c)):
  ∃ D0:DataW Unit,w.ownsMap Tryz.prog 3 (fun _=>some (.nil,[])) m 1000000 D0∧Maps.size D0≤1000000∧∀ ss:List Int,ss.Perm (intKeys D0)→ss.Perm (es.map (·.1)):=keysB_map hs hst hu (fun k hk=>by have:=hn k hk;omega) hlen hm
end Go.Proofs.YtlplemdmegpoeaaGreatDoor
/- The keys of a map of ints, by the library's calls. Condition: bounds. -/
namespace Go.Proofs.YtlplemdmegpoeaaGreatDoor
set_option linter.unusedVariables false
set_option linter.unusedSimpArgs false
open Go Go.VC
variable {R:Cx} {Hs Rest:List HP} {w:World}
def sortI (l:List Int):List Int:=l.mergeSort fun x y=>decide (x≤y)
theorem sortI_perm {a b:List Int} (h:a.Perm b):sortI a=sortI b:=by
 have tr:∀ a b c:Int,decide (a≤b)=true→decide (b≤c)=true→decide (a≤c)=true:=fun a b c h1 h2=>by simp only [decide_eq_true_eq] at *;omega
 have to:∀ a b:Int,(decide (a≤b)||decide (b≤a))=true:=fun a b=>by simp only [Bool.or_eq_true,decide_eq_true_eq];omega
 have s1:=List.pairwise_mergeSort tr to a
 have s2:=List.pairwise_mergeSort tr to b
 have p:(a.mergeSort fun x y=>decide (x≤y)).Perm (b.mergeSort fun x y=>decide (x≤y)):=(List.mergeSort_perm a _).trans (h.trans (List.mergeSort_perm b _).symm)
 exact List.Perm.eq_of_pairwise (fun a b _ _ h1 h2=>by simp only [decide_eq_true_eq] at h1 h2;omega) s1 s2 p
theorem sortedH_rule {m:Nat} {es:List (Int × Value)} {K:Sl→World→Prop} (hu:(es.map (·.1)).Nodup) (hn:∀ k∈es.map (·.1),-1000000000≤k∧k≤1000000000) (hlen:es.length≤1000000) (hw:Sat R (MapAt m es::Hs) w)
  (k:∀ s w',Sat R (Own s 3 (intsI (sortI (es.map (·.1))))::MapAt m es::Hs) w'→K s w'):
  Calls Tryz.prog 209 #[.map (some m)] w fun e w1=>∃ t:Value,e=.returned t∧Calls Tryz.prog 61 #[t] w1 fun e w2=>∃ t:Sl,e=.returned (.slice t.a t.len t.cap)∧K t w2:=by
 obtain ⟨l,c,hs,hst,hp⟩:=MapAt.iff.1 hw
 obtain ⟨D0,hown,hsz,hperm⟩:=keysI_map hs hst hu hn hlen hp.at
 refine (callsIn_wide.1 (Tryz.maps_Keys_209 (some m) w)).mono ?_
 rintro _ _ ⟨rfl,rfl⟩
 refine ⟨_,rfl,?_⟩
 refine (callsIn_wide.1 (Tryz.slices_Sorted_keys_61_209 m _ D0 _ w hown (by unfold maxLen;omega) (by omega))).mono ?_
 rintro _ w' ⟨v,ss,rfl,hS,hrow,hnil,hb⟩
 have hw1:Sat R (MapAt m es::Hs) (w.alloc (.cells #[.map (some m)] 183)):=(Sat.alloc _ hw).drop
 obtain ⟨s,rfl,h3⟩:=Sat.ownsRow hw1 hb hrow
 refine ⟨s,rfl,k s _ ?_⟩
 rw [←sortI_perm (hperm ss hS)]
 exact h3
end Go.Proofs.YtlplemdmegpoeaaGreatDoor
/- A flight: Auto. Condition: bounds on lengths. -/
namespace Go.Proofs.YtlplemdmegpoeaaGreatDoor
set_option linter.unusedVariables false
set_option linter.unusedSimpArgs false
open Go Go.VC
variable {R:Cx} {Hs Rest:List HP} {w:World}
theorem insS_end {n:Int}:∀ {l:List Int},(∀ x∈l,x<n)→insS n l=l++[n]
 |[],_=>rfl
 |x::l,h=>by
  unfold insS
  rw [if_pos (h x List.mem_cons_self),insS_end fun y hy=>h y (List.mem_cons_of_mem _ hy)];rfl
end Go.Proofs.YtlplemdmegpoeaaGreatDoor
/- Reference 15: putting a seat; whether two answers are the same. Condition: bounds. -/
namespace Go.Proofs.YtlplemdmegpoeaaGreatDoor
set_option linter.unusedVariables false
set_option linter.unusedSimpArgs false
open Go Go.VC
variable {R:Cx} {Hs Rest:List HP} {w:World}
theorem insS_len (n:Int):∀ l:List Int,(insS n l).length=l.length + 1
 |[]=>rfl
 |x::l=>by
  unfold insS
  split
  ·simp only [List.length_cons,insS_len n l]
  ·rfl
end Go.Proofs.YtlplemdmegpoeaaGreatDoor
/- Reference 02 at this seat: numbers as bytes, a reader. Condition: bounds on lengths. -/
namespace Go.Proofs.YtlplemdmegpoeaaGreatDoor
set_option linter.unusedVariables false
set_option linter.unusedSimpArgs false
open Go Go.VC
variable {R:Cx} {Hs Rest:List HP} {w:World}
theorem rnumber_spec {n:Nat} (hn:n<18446744073709551616) (hw:Sat R Hs w):
    Gets Tryz.prog 137 #[.int .u64 n] w fun v w'=>∃ t:Sl,v=.slice t.a t.len t.cap∧Sat R (Own t 5 (b8 (numB n))::Hs) w':=by
  apply call137
  have h8:=dig_len8 hn
  refine ⟨fun x out w=>∃ (m:Nat) (ds:List Int),x=m∧m≤n∧dig m++ds=dig n∧Sat R (Own out 5 (b8 ds)::Hs) w,fun x _ _=>x.toNat,⟨n,[],rfl,by omega,by simp,Own.nil hw⟩,?_⟩
  clear hw
  rintro _ _ out w ⟨m,ds,rfl,hm,he,hw⟩
  have hdl:ds.length≤8:=by rw [←he,List.length_append] at h8;omega
  refine Br.d (fun h=>?_) (fun h=>?_)
  · have e1:IntKind.u8.wrap ((m:Int).tmod 256)=((m % 256:Nat):Int):=by
      rw [show (m:Int).tmod 256=((m % 256:Nat):Int) from (Int.ofNat_tmod m 256).symm,wrapU8 (by omega) (by omega)]
    have e2:IntKind.u64.wrap ((m:Int).tdiv 256)=((m / 256:Nat):Int):=by
      rw [show (m:Int).tdiv 256=((m / 256:Nat):Int) from (Int.ofNat_tdiv m 256).symm,wrapU64 (by omega) (by omega)]
    rw [e1,e2]
    refine new_rule hw fun b w hw=>?_
    have hw:Sat R (Own ⟨some ⟨b,0,none⟩,1,1⟩ 5 (b8 [((m % 256:Nat):Int)])::Own out 5 (b8 ds)::Hs) w:=own_lit hw
    refine appendOO elB8 (s:=⟨some ⟨b,0,none⟩,1,1⟩) (n:=9) Tryz.underlying47 hw (by simp;omega) (by omega) (by omega) fun s' w hw=>?_
    refine ⟨⟨m / 256,[((m % 256:Nat):Int)]++ds,rfl,by omega,?_,hw.cons fun _ h=>h.drop⟩,by dsimp only;omega⟩
    rw [←List.append_assoc,←dig_pos (by omega)]
    exact he
  · have hm0:m=0:=by omega
    subst hm0
    rw [dig_zero,List.nil_append] at he
    have hol:out.len=ds.length:=by have:=Own.len hw;simpa using this
    have e1:IntKind.u8.wrap (out.len:Int)=((dig n).length:Int):=by rw [wrapU8 (by omega) (by omega),hol,he]
    rw [e1]
    refine new_rule hw fun b w hw=>?_
    have hw:Sat R (Own ⟨some ⟨b,0,none⟩,1,1⟩ 5 (b8 [((dig n).length:Int)])::Own out 5 (b8 ds)::Hs) w:=own_lit hw
    refine appendOO elB8 (s:=⟨some ⟨b,0,none⟩,1,1⟩) (n:=9) Tryz.underlying47 hw (by simp;omega) (by omega) (by omega) fun s' w hw=>?_
    have e2:numB n=[((dig n).length:Int)]++ds:=by rw [he];rfl
    rw [e2]
    exact ⟨s',rfl,hw.cons fun _ h=>h.drop⟩
abbrev rrCells (s:Sl) (n:Nat) (bad:Bool):Obj:=.cells [.slice s.a s.len s.cap,.int .i64 n,.bool bad].toArray 140 (0,0)
def RRdAt (r:Nat) (s:Sl) (bs:List Int) (rd:Rd):HP:=exs fun n:Nat=>Star [pur (n≤bs.length∧bs.drop n=rd.bs),pts r (rrCells s n rd.bad)]
theorem Sat.rrd {r:Nat} {s:Sl} {bs:List Int} {rd:Rd}:Sat R (RRdAt r s bs rd::Hs) w↔∃ n:Nat,(n≤bs.length∧bs.drop n=rd.bs)∧Sat R (pts r (rrCells s n rd.bad)::Hs) w:=by
  unfold RRdAt
  rw [Sat.exs]
  constructor
  · rintro ⟨n,h⟩
    have h:=Sat.star.1 h
    have h:Sat R (pur _::pts r _::Hs) w:=h
    rw [Sat.pur] at h
    exact ⟨n,h⟩
  · rintro ⟨n,h⟩
    exact ⟨n,Sat.star.2 (by show Sat R (pur _::pts r _::Hs) w;rw [Sat.pur];exact h)⟩
theorem p256 {a b:Nat} (h:a≤b):(256:Int) ^ a≤256 ^ b:=by
  rw [show (256:Int)=((256:Nat):Int) from rfl,←Int.natCast_pow,←Int.natCast_pow]
  exact Int.ofNat_le.2 (Nat.pow_le_pow_right (by omega) h)
def nextR (rd:Rd):Int × Bool × Int:=if rd.bad then (0,false,0) else match parse rd.bs with|some (n,neg,k)=>(n,neg,(k:Int))|none=>(0,false,0)
theorem rnext_spec {r:Nat} {s:Sl} {bs:List Int} {n:Nat} {bad:Bool} (hl:bs.length≤1099511627776) (hb:∀ x∈bs,0≤x∧x<256) (hs:SlR R.m s (b8 bs)) (hn:n≤bs.length) (hw:Sat R (pts r (rrCells s n bad)::Hs) w):
    Gets Tryz.prog 143 #[.pointer (some ⟨r,0,none⟩)] w fun v w'=>v=.tuple #[.int .u64 (nextR ⟨bs.drop n,bad⟩).1,.bool (nextR ⟨bs.drop n,bad⟩).2.1,.int .i64 (nextR ⟨bs.drop n,bad⟩).2.2]∧Sat R (pts r (rrCells s n bad)::Hs) w':=by
  have hlen:s.len=bs.length:=by have:=hs.len;simpa using this
  apply call143
  have no:nextR ⟨bs.drop n,bad⟩=(0,false,0)→∀ {w},Sat R (pts r (rrCells s n bad)::Hs) w→(Value.tuple #[.int .u64 0,.bool false,.int .i64 0]=.tuple #[.int .u64 (nextR ⟨bs.drop n,bad⟩).1,.bool (nextR ⟨bs.drop n,bad⟩).2.1,.int .i64 (nextR ⟨bs.drop n,bad⟩).2.2]∧Sat R (pts r (rrCells s n bad)::Hs) w):=fun e {w} hw=>by
    rw [e];exact ⟨rfl,hw⟩
  refine ⟨fun w=>(bad=false∧n<bs.length)∧Sat R (pts r (rrCells s n bad)::Hs) w,drw_rule hw fun w hw=>?_,?_⟩
  · refine NilP.mk rfl ⟨bad,At.own selfS (by exact ⟨rfl,trivial⟩),Br.mk (fun h=>no (by unfold nextR;rw [if_pos h]) hw) (fun h=>?_)⟩
    refine NilP.mk rfl ⟨n,At.own selfS (by exact ⟨rfl,trivial⟩),NilP.mk rfl ⟨s,At.own selfS (by exact ⟨rfl,trivial⟩),?_⟩⟩
    rw [hlen]
    refine Br.d (fun h2=>no ?_ hw) (fun h2=>⟨⟨h,by omega⟩,hw⟩)
    unfold nextR
    simp only
    rw [List.drop_eq_nil_of_le (by omega)]
    split<;>rfl
  clear hw
  rintro _ w ⟨⟨hbad,hlt⟩,hw⟩
  have hc:=hb bs[n] (List.getElem_mem _)
  have hd:bs.drop n=bs[n]::bs.drop (n + 1):=List.drop_eq_getElem_cons hlt
  have e0:IntKind.i64.wrap bs[n]=bs[n]:=wrap64 (by omega) (by omega)
  have nx:nextR ⟨bs.drop n,bad⟩=match parse (bs[n]::bs.drop (n + 1)) with|some (n,neg,k)=>(n,neg,(k:Int))|none=>(0,false,0):=by
    unfold nextR;rw [hbad,hd];rfl
  refine drw_rule hw fun w hw=>?_
  refine NilP.mk rfl ⟨s,At.own selfS (by exact ⟨rfl,trivial⟩),NilP.mk rfl ⟨n,At.own selfS (by exact ⟨rfl,trivial⟩),hs.ix selfS n rfl hlt ?_⟩⟩
  rw [e0]
  have hkn:0≤(if 16≤bs[n] then bs[n] - 16 else bs[n]):=by split<;>omega
  obtain ⟨k,hk⟩:=Int.eq_ofNat_of_zero_le hkn
  have hk2:(if 16≤bs[n] then bs[n] - 16 else bs[n]).toNat=k:=by rw [hk];rfl
  refine ⟨fun x w=>x=(k:Int)∧Sat R (pts r (rrCells s n bad)::Hs) w,Br.d (fun h=>⟨?_,hw⟩) (fun h=>⟨?_,hw⟩),?_⟩
  · rw [wrap64 (by omega) (by omega),←hk,if_pos (by omega)]
  · rw [←hk,if_neg (by omega)]
  clear hw
  rintro _ _ w ⟨rfl,hw⟩
  have dl:(bs.drop (n + 1)).length=bs.length - (n + 1):=List.length_drop
  have pno:¬ (bs[n]<32∧k≤8∧k≤(bs.drop (n + 1)).length∧(k=0→bs[n]=0)∧(k≠0→(bs.drop (n + 1)).head?≠some 0))→nextR ⟨bs.drop n,bad⟩=(0,false,0):=fun h=>by
    rw [nx];unfold parse;simp only [hk2];rw [if_neg h]
  have pyes:(bs[n]<32∧k≤8∧k≤(bs.drop (n + 1)).length∧(k=0→bs[n]=0)∧(k≠0→(bs.drop (n + 1)).head?≠some 0))→nextR ⟨bs.drop n,bad⟩=(valI 0 ((bs.drop (n + 1)).take k),decide (16≤bs[n]),((k + 1:Nat):Int)):=fun h=>by
    rw [nx];unfold parse;simp only [hk2];rw [if_pos h]
  refine ⟨fun w=>(bs[n]<32∧k≤8∧k≤(bs.drop (n + 1)).length∧(k=0→bs[n]=0)∧(k≠0→(bs.drop (n + 1)).head?≠some 0))∧Sat R (pts r (rrCells s n bad)::Hs) w,drw_rule hw fun w hw=>?_,?_⟩
  · refine Br.d (fun h=>no (pno fun h2=>by omega) hw) (fun h8=>?_)
    refine NilP.mk rfl ⟨n,At.own selfS (by exact ⟨rfl,trivial⟩),NilP.mk rfl ⟨s,At.own selfS (by exact ⟨rfl,trivial⟩),?_⟩⟩
    rw [wrap64 (x:=(n:Int) + 1) (by omega) (by omega),wrap64 (by omega) (by omega),hlen]
    refine Br.d (fun h=>no (pno fun h2=>by omega) hw) (fun hln=>?_)
    have h32:bs[n]<32:=by split at hk<;>omega
    have last:(k≠0∨bs[n]=0)→Br (decide ((k:Int)>0))
             (NilP (some ⟨r,0,none⟩) fun a_t70=>
              ∃ t72:Sl,(At (Sat R (pts r (rrCells s n bad)::Hs)) (Addr.add a_t70 0) [.slice t72.a t72.len t72.cap])∧
              NilP (some ⟨r,0,none⟩) fun a_t74=>
              ∃ t76:Int,(At (Sat R (pts r (rrCells s n bad)::Hs)) ⟨a_t74.block,a_t74.off + 1,none⟩ [.int .i64 t76])∧
              Rng (IntKind.i64.wrap (t76 + 1)) t72.len (NilP t72.a fun a_t78=>
              ∃ t79:Int,(At (Sat R (pts r (rrCells s n bad)::Hs)) (Addr.add a_t78 ((IntKind.i64.wrap (t76 + 1)).toNat)) [.int .u8 t79])∧
              Br (t79==0)
               (Value.tuple #[.int .u64 0,.bool false,.int .i64 0]=.tuple #[.int .u64 (nextR ⟨bs.drop n,bad⟩).1,.bool (nextR ⟨bs.drop n,bad⟩).2.1,.int .i64 (nextR ⟨bs.drop n,bad⟩).2.2]∧Sat R (pts r (rrCells s n bad)::Hs) w)
               ((bs[n]<32∧k≤8∧k≤(bs.drop (n + 1)).length∧(k=0→bs[n]=0)∧(k≠0→(bs.drop (n + 1)).head?≠some 0))∧Sat R (pts r (rrCells s n bad)::Hs) w)))
             ((bs[n]<32∧k≤8∧k≤(bs.drop (n + 1)).length∧(k=0→bs[n]=0)∧(k≠0→(bs.drop (n + 1)).head?≠some 0))∧Sat R (pts r (rrCells s n bad)::Hs) w):=fun hz=>by
      refine Br.d (fun h=>?_) (fun h=>⟨⟨h32,by omega,by omega,by omega,fun h2=>by omega⟩,hw⟩)
      refine NilP.mk rfl ⟨s,At.own selfS (by exact ⟨rfl,trivial⟩),NilP.mk rfl ⟨n,At.own selfS (by exact ⟨rfl,trivial⟩),?_⟩⟩
      rw [wrap64 (by omega) (by omega)]
      have hn1:n + 1<bs.length:=by omega
      have hh:(bs.drop (n + 1)).head? =some bs[n + 1]:=by rw [List.drop_eq_getElem_cons hn1];rfl
      refine hs.ix selfS (n + 1) (by omega) hn1 ?_
      refine Br.e (fun h0=>no (pno fun h2=>?_) hw) (fun h0=>⟨⟨h32,by omega,by omega,by omega,fun h2=>?_⟩,hw⟩)
      · exact h2.2.2.2.2 (by omega) (by rw [hh,h0])
      · rw [hh];intro h3;exact h0 (Option.some.inj h3)
    refine Br.d (fun h16=>?_) (fun h16=>?_)
    · refine Br.e (fun h0=>no (pno fun h2=>?_) hw) (fun h0=>last (.inl (by omega)))
      have:=h2.2.2.2.1 (by omega)
      omega
    · refine last ?_
      rw [if_neg (by omega)] at hk
      by_cases hk0:k=0
      · exact .inr (by omega)
      · exact .inl hk0
  clear hw
  rintro _ w ⟨hp,hw⟩
  have e:=pyes hp
  rw [e]
  obtain ⟨h32,hk8,hkl,_,_⟩:=hp
  have hbd:∀ j,∀ x∈(bs.drop (n + 1)).take j,0≤x∧x<256:=fun j x hx=>hb x (List.mem_of_mem_drop (List.mem_of_mem_take hx))
  have vb:∀ j,j≤8→0≤valI 0 ((bs.drop (n + 1)).take j)∧valI 0 ((bs.drop (n + 1)).take j)<256 ^ j:=fun j hj=>by
    refine ⟨valI_nn (by omega) (hbd j),?_⟩
    have h1:=valI_lt (acc:=0) (by omega) (hbd j)
    have h2:((bs.drop (n + 1)).take j).length≤j:=by rw [List.length_take];omega
    have h3:(256:Int) ^ ((bs.drop (n + 1)).take j).length≤256 ^ j:=p256 h2
    rw [show (0:Int) + 1=1 from rfl,Int.one_mul] at h1
    omega
  refine ⟨fun x i w=>∃ j:Nat,i=j∧j≤k∧x=valI 0 ((bs.drop (n + 1)).take j)∧Sat R (pts r (rrCells s n bad)::Hs) w,fun _ i _=>k - i.toNat,⟨0,rfl,by omega,rfl,hw⟩,?_⟩
  clear hw
  rintro _ _ _ w ⟨j,rfl,hj,rfl,hw⟩
  refine Br.d (fun h=>drw_rule hw fun w hw=>?_) (fun h=>?_)
  · refine NilP.mk rfl ⟨s,At.own selfS (by exact ⟨rfl,trivial⟩),NilP.mk rfl ⟨n,At.own selfS (by exact ⟨rfl,trivial⟩),?_⟩⟩
    rw [wrap64 (x:=(n:Int) + 1) (by omega) (by omega),wrap64 (x:=(n:Int) + 1 + j) (by omega) (by omega)]
    have hnj:n + 1 + j<bs.length:=by omega
    refine hs.ix selfS (n + 1 + j) (by omega) hnj ?_
    have hx:=hb bs[n + 1 + j] (List.getElem_mem _)
    have et:(bs.drop (n + 1)).take (j + 1)=(bs.drop (n + 1)).take j++[bs[n + 1 + j]]:=by
      rw [List.take_add_one,List.getElem?_drop,List.getElem?_eq_getElem hnj];rfl
    have hv:=vb j (by omega)
    have hv2:=vb (j + 1) (by omega)
    rw [et,valI_snoc] at hv2
    have h7:(256:Int) ^ j≤256 ^ 7:=p256 (by omega)
    have hv3:=hv.2
    have e7:(256:Int) ^ 7=72057594037927936:=by decide
    rw [wrapU64 (x:=bs[n + 1 + j]) (by omega) (by omega),wrapU64 (x:=valI 0 ((bs.drop (n + 1)).take j) * 256) (by omega) (by omega),wrapU64 (by omega) (by omega),wrap64 (by omega) (by omega)]
    exact ⟨⟨j + 1,by omega,by omega,by rw [et,valI_snoc],hw⟩,by dsimp only;omega⟩
  · have:j=k:=by omega
    subst this
    rw [wrap64 (by omega) (by omega)]
    refine ⟨?_,hw⟩
    simp
theorem rrnum_spec {r:Nat} {s:Sl} {bs:List Int} {rd:Rd} {most:Int} (hl:bs.length≤1099511627776) (hb:∀ x∈bs,0≤x∧x<256) (hs:SlR R.m s (b8 bs)) (hw:Sat R (RRdAt r s bs rd::Hs) w):
    Gets Tryz.prog 77 #[.pointer (some ⟨r,0,none⟩),.int .u64 most] w fun v w'=>v=.int .u64 (rdNum most rd).1∧Sat R (RRdAt r s bs (rdNum most rd).2::Hs) w':=by
  obtain ⟨n,⟨hn,hd⟩,hw⟩:=Sat.rrd.1 hw
  apply call77
  refine (rnext_spec hl hb hs hn hw).use ?_
  rintro _ w ⟨rfl,hw⟩
  refine ⟨_,_,_,rfl,?_⟩
  rw [hd]
  have bad:rdNum most rd=(0,⟨rd.bs,true⟩)→NilP (some ⟨r,0,none⟩) fun a_t25=>
      ∃ w_2:World,((Instr.storeAt 4 (.pointer ((some ⟨a_t25.block,a_t25.off + 2,none⟩))) (.bool true)).run Tryz.prog w=.ok () w_2)∧
      (Value.int .u64 0=.int .u64 (rdNum most rd).1∧Sat R (RRdAt r s bs (rdNum most rd).2::Hs) w_2):=fun e=>by
    refine NilP.mk rfl ?_
    refine store_rule hw (by kernel_rfl) rfl (by simp [Value.cells]) fun w hw=>?_
    have hw:=hw.re (pts r (rrCells s n true))
    rw [e]
    exact ⟨rfl,Sat.rrd.2 ⟨n,⟨hn,hd⟩,hw⟩⟩
  refine ⟨fun w=>(∃ x k,rd.bad=false∧parse rd.bs=some (x,false,k)∧x≤most)∧Sat R (pts r (rrCells s n rd.bad)::Hs) w,?_,?_⟩
  · by_cases hbd:rd.bad=true
    · have e:nextR ⟨rd.bs,rd.bad⟩=(0,false,0):=by unfold nextR;rw [if_pos hbd]
      rw [e];dsimp only
      refine Br.mk (fun h=>bad ?_) (fun h=>by simp at h)
      unfold rdNum;rw [if_pos hbd];rw [show rd=⟨rd.bs,rd.bad⟩ from rfl,hbd]
    · have hbd:rd.bad=false:=by simpa using hbd
      cases hp:parse rd.bs with
      |none=>
        have e:nextR ⟨rd.bs,rd.bad⟩=(0,false,0):=by unfold nextR;simp [hp]
        rw [e];dsimp only
        refine Br.mk (fun h=>bad ?_) (fun h=>by simp at h)
        unfold rdNum;rw [if_neg (by rw [hbd];simp),hp]
      |some p=>
        obtain ⟨x,neg,k⟩:=p
        have e:nextR ⟨rd.bs,rd.bad⟩=(x,neg,(k:Int)):=by unfold nextR;simp [hp,hbd]
        rw [e];dsimp only
        have hb2:∀ x∈rd.bs,0≤x∧x<256:=fun x hx=>hb x (by rw [←hd] at hx;exact List.mem_of_mem_drop hx)
        obtain ⟨_,_,k0,_,_⟩:=parse_bd hb2 hp
        have e2:rdNum most rd=if neg=false∧x≤most then (x,⟨rd.bs.drop k,false⟩) else (0,⟨rd.bs,true⟩):=by
          unfold rdNum;rw [if_neg (by rw [hbd];simp),hp]
        refine Br.e (fun h=>by omega) (fun _=>Br.mk (fun h=>bad ?_) (fun h=>Br.d (fun h2=>bad ?_) (fun h2=>?_)))
        · rw [e2,if_neg (by rintro ⟨h3,_⟩;rw [h3] at h;cases h)]
        · rw [e2,if_neg (by rintro ⟨_,h3⟩;omega)]
        · exact ⟨⟨x,k,hbd,by rw [h],by omega⟩,hw⟩
  clear bad hw
  rintro _ w ⟨⟨x,k,hbd,hp,hx⟩,hw⟩
  have hb2:∀ x∈rd.bs,0≤x∧x<256:=fun x hx=>hb x (by rw [←hd] at hx;exact List.mem_of_mem_drop hx)
  obtain ⟨_,_,k0,_,k2⟩:=parse_bd hb2 hp
  have e:nextR ⟨rd.bs,rd.bad⟩=(x,false,(k:Int)):=by unfold nextR;simp [hp,hbd]
  have e2:rdNum most rd=(x,⟨rd.bs.drop k,false⟩):=by
    unfold rdNum;rw [if_neg (by rw [hbd];simp),hp];dsimp only;rw [if_pos ⟨rfl,hx⟩]
  rw [e,e2]
  dsimp only
  have hlen:rd.bs.length=bs.length - n:=by rw [←hd,List.length_drop]
  refine NilP.mk rfl ⟨n,At.own (eqS hw) (by exact ⟨rfl,trivial⟩),NilP.mk rfl ?_⟩
  dsimp only
  rw [wrap64 (by omega) (by omega)]
  refine store_rule hw (by kernel_rfl) rfl (by simp [Value.cells]) fun w hw=>?_
  rw [hbd] at hw
  have hw:=hw.re (pts r (rrCells s (n + k) false))
  exact ⟨rfl,Sat.rrd.2 ⟨n + k,⟨by omega,by rw [←List.drop_drop,hd]⟩,hw⟩⟩
theorem rrwhole_spec {r:Nat} {s:Sl} {bs:List Int} {rd:Rd} (hs:SlR R.m s (b8 bs)) (hw:Sat R (RRdAt r s bs rd::Hs) w):
    Gets Tryz.prog 80 #[.pointer (some ⟨r,0,none⟩)] w fun v w'=>v=.bool (rdWhole rd)∧Sat R (RRdAt r s bs rd::Hs) w':=by
  have hsl:s.len=bs.length:=by have:=hs.len;simpa using this
  obtain ⟨n,⟨hn,hd⟩,hw⟩:=Sat.rrd.1 hw
  have hlen:rd.bs.length=bs.length - n:=by rw [←hd,List.length_drop]
  apply call80
  refine drw_rule hw fun w hw=>?_
  refine NilP.mk rfl ⟨rd.bad,At.own selfS (by exact ⟨rfl,trivial⟩),Br.nb (fun h=>?_) (fun h=>?_)⟩
  · refine NilP.mk rfl ⟨n,At.own selfS (by exact ⟨rfl,trivial⟩),NilP.mk rfl ⟨s,At.own selfS (by exact ⟨rfl,trivial⟩),?_,Sat.rrd.2 ⟨n,⟨hn,hd⟩,hw⟩⟩⟩
    unfold rdWhole
    rw [h,hsl]
    congr 1
    rw [Bool.not_false,Bool.true_and,hlen]
    show decide ((n:Int)=(bs.length:Int))=_
    rw [decide_eq_decide];omega
  · refine ⟨?_,Sat.rrd.2 ⟨n,⟨hn,hd⟩,hw⟩⟩
    unfold rdWhole
    rw [h];rfl
end Go.Proofs.YtlplemdmegpoeaaGreatDoor
/- Numbers, one behind the other: Encode's inner function; reference 15's numbers. Condition: bounds on lengths. -/
namespace Go.Proofs.YtlplemdmegpoeaaGreatDoor
set_option linter.unusedVariables false
set_option linter.unusedSimpArgs false
open Go Go.VC
variable {R:Cx} {Hs Rest:List HP} {w:World}
def numsB (l:List Int):List Int:=(l.map fun x=>numB x.toNat).flatten
theorem numsB_take {l:List Int} {k:Nat} (hk:k<l.length):numsB (l.take (k + 1))=numsB (l.take k)++numB l[k].toNat:=by
 unfold numsB
 rw [List.take_add_one,List.getElem?_eq_getElem hk,List.map_append,List.flatten_append]
 simp only [Option.toList_some,List.map_cons,List.map_nil,List.flatten_cons,List.flatten_nil,List.append_nil]
theorem numsB_len:∀ {l:List Int},(∀ x∈l,0≤x∧x<18446744073709551616)→(numsB l).length≤9 * l.length
 |[],_=>by simp [numsB]
 |x::l,h=>by
  have h1:=h x (List.mem_cons_self ..)
  have:=numB_len (n:=x.toNat) (by omega)
  have h2:=numsB_len (l:=l) fun y hy=>h y (List.mem_cons_of_mem _ hy)
  unfold numsB at h2 ⊢
  rw [List.map_cons,List.flatten_cons,List.length_append,List.length_cons]
  omega
theorem numsB_bd:∀ {l:List Int},(∀ x∈l,0≤x∧x<18446744073709551616)→∀ y∈numsB l,0≤y∧y<256
 |[],_=>by simp [numsB]
 |x::l,h=>fun y hy=>by
  have h1:=h x (List.mem_cons_self ..)
  unfold numsB at hy
  rw [List.map_cons,List.flatten_cons,List.mem_append] at hy
  rcases hy with hy|hy
  ·exact numB_bd (n:=x.toNat) (by omega) y hy
  ·exact numsB_bd (fun y hy=>h y (List.mem_cons_of_mem _ hy)) y hy
theorem numsB_app (a b:List Int):numsB (a++b)=numsB a++numsB b:=by simp [numsB]
def OutB (p:Nat) (bs:List Int):HP:=exs fun s:Sl=>Star [lp p s,Own s 5 (b8 bs)]
theorem Sat.outB {p:Nat} {bs:List Int}:Sat R (OutB p bs::Hs) w↔∃ s:Sl,Sat R (lp p s::Own s 5 (b8 bs)::Hs) w:=by
 unfold OutB
 rw [Sat.exs]
 exact ⟨fun ⟨s,h⟩=>⟨s,Sat.star.1 h⟩,fun ⟨s,h⟩=>⟨s,Sat.star.2 h⟩⟩
theorem put_law {f:FuncId} {p:Nat} {s:Sl} {xs bs:List Int} (hxs:∀ x∈xs,0≤x∧x<9223372036854775808) (hl:bs.length + 9 * xs.length≤1099511627776) (hs:RoI R s xs) (hw:Sat R (OutB p bs::Hs) w)
  (hf:∀ {K:Value→World→Prop} {w:World},B132 s (some ⟨p,0,none⟩) K w→Gets Tryz.prog f #[.slice s.a s.len s.cap,.pointer (some ⟨p,0,none⟩)] w K):
  Gets Tryz.prog f #[.slice s.a s.len s.cap,.pointer (some ⟨p,0,none⟩)] w fun v w'=>v=.tuple #[]∧Sat R (OutB p (bs++numsB xs)::Hs) w':=by
 have hlen:=hs.len
 apply hf
 refine ⟨fun i w=>∃ k:Nat,i=k∧k≤xs.length∧Sat R (OutB p (bs++numsB (xs.take k))::Hs) w,fun i _=>xs.length - i.toNat,⟨0,rfl,by omega,by simpa [numsB] using hw⟩,?_⟩
 clear hw
 rintro _ _ w ⟨k,rfl,hk,hw⟩
 refine Br.d (fun h=>?_) (fun h=>?_)
 ·have hkx:k<xs.length:=by omega
  have hx:=hxs xs[k] (List.getElem_mem _)
  have hxt:∀ x∈xs.take k,0≤x∧x<18446744073709551616:=fun x hx=>by have:=hxs x (List.mem_of_mem_take hx);omega
  have hnl:=numsB_len hxt
  rw [List.length_take] at hnl
  refine hs.idx (eqS hw) hkx ?_
  obtain ⟨s0,hw⟩:=Sat.outB.1 hw
  refine drw_ruleT hw fun w hw=>?_
  refine NilP.mk rfl ⟨s0,At.own selfS (by exact ⟨rfl,trivial⟩),?_⟩
  obtain ⟨n,hn⟩:=Int.eq_ofNat_of_zero_le hx.1
  rw [hn,wrapU64 (by omega) (by omega)]
  refine (number_spec (by omega) hw).use ?_
  rintro _ w ⟨t,rfl,hw⟩
  refine ⟨t,rfl,hw.absorb,?_⟩
  have hw:Sat R (Own s0 5 (b8 (bs++numsB (xs.take k)))::Own t 5 (b8 (numB n))::lp p s0::VC.tru::Hs) w:=hw.arr
  have hnb:=numB_len (n:=n) (by omega)
  refine appendOO elB8 (s:=s0) (n:=1099511627790) Tryz.underlying47 hw (by rw [List.length_append];omega) (by omega) (by omega) fun s2 w hw=>?_
  have hw:Sat R (lp p s0::Own s2 5 (b8 (bs++numsB (xs.take k)++numB n))::Hs) w:=by
   have h:Sat R (Own t 5 (b8 (numB n))::VC.tru::lp p s0::Own s2 5 (b8 (bs++numsB (xs.take k)++numB n))::Hs) w:=hw.arr
   exact h.drop.drop
  refine store_rule hw (by kernel_rfl) rfl (by simp [Value.cells]) fun w hw=>?_
  have hw:=hw.re (lp p s2)
  rw [wrap64 (by omega) (by omega)]
  refine ⟨⟨k + 1,by omega,by omega,Sat.outB.2 ⟨s2,?_⟩⟩,by dsimp only;omega⟩
  rw [numsB_take hkx,hn,Int.toNat_natCast,←List.append_assoc]
  exact hw
 ·have:k=xs.length:=by omega
  subst this
  rw [List.take_length] at hw
  exact ⟨rfl,hw⟩
theorem eput_spec {p:Nat} {s:Sl} {xs bs:List Int} (hxs:∀ x∈xs,0≤x∧x<9223372036854775808) (hl:bs.length + 9 * xs.length≤1099511627776) (hs:RoI R s xs) (hw:Sat R (OutB p bs::Hs) w):
  Gets Tryz.prog 132 #[.slice s.a s.len s.cap,.pointer (some ⟨p,0,none⟩)] w fun v w'=>v=.tuple #[]∧Sat R (OutB p (bs++numsB xs)::Hs) w':=
 put_law hxs hl hs hw fun h=>call132 _ _ _ _ h
end Go.Proofs.YtlplemdmegpoeaaGreatDoor
/- Lists of holds in memory. Condition: none. -/
namespace Go.Proofs.YtlplemdmegpoeaaGreatDoor
set_option linter.unusedVariables false
set_option linter.unusedSimpArgs false
open Go Go.VC
variable {R:Cx} {Hs Rest:List HP} {w:World}
def rowH (h:Hold) (t:Sl):List Value:=[.int .i64 h.owner,.int .i64 h.cls,.int .i64 h.many,.slice t.a t.len t.cap]
def rowsH (L:List Hold) (ts:List Sl):List (List Value):=(L.zip ts).map fun x=>rowH x.1 x.2
def seatsH (L:List Hold) (ts:List Sl):List HP:=(L.zip ts).map fun x=>Reads x.2 (intsI x.1.seats)
def HoldsL (s:Sl) (L:List Hold):HP:=exs fun ts:List Sl=>Star (pur (ts.length=L.length)::OwnN 4 s 197 (rowsH L ts)::seatsH L ts)
theorem Sat.holdsL {s:Sl} {L:List Hold}:Sat R (HoldsL s L::Hs) w↔∃ ts:List Sl,ts.length=L.length∧Sat R (OwnN 4 s 197 (rowsH L ts)::(seatsH L ts++Hs)) w:=by
 unfold HoldsL
 rw [Sat.exs]
 constructor
 ·rintro ⟨ts,h⟩
  obtain ⟨h1,h2⟩:=Sat.pur.1 (Sat.star.1 h)
  exact ⟨ts,h1,h2⟩
 ·rintro ⟨ts,h1,h2⟩
  exact ⟨ts,Sat.star.2 (Sat.pur.2 ⟨h1,h2⟩)⟩
structure HsR (R:Cx) (s:Sl) (L:List Hold) (ts:List Sl):Prop where
 len:ts.length=L.length
 rows:RoN 4 R s (rowsH L ts)
 seats:∀ i (h:i<L.length) (h':i<ts.length),SlR R.m ts[i] (intsI L[i].seats)
theorem seats_leak:∀ {L:List Hold} {ts:List Sl} {R:Cx},ts.length=L.length→Sat R (seatsH L ts++Hs) w→∃ R':Cx,R.Ext R'∧(∀ i (h:i<L.length) (h':i<ts.length),SlR R'.m ts[i] (intsI L[i].seats))∧Sat R' Hs w
 |[],_,R,_,hw=>⟨R,Cx.Ext.refl,fun i h=>by simp at h,by simpa [seatsH] using hw⟩
 |h::L,[],R,hl,_=>by simp at hl
 |h::L,t::ts,R,hl,hw=>by
  have hw:Sat R (Reads t (intsI h.seats)::(seatsH L ts++Hs)) w:=hw
  obtain ⟨R1,e1,s1,hw⟩:=Reads.leak hw
  obtain ⟨R2,e2,s2,hw⟩:=seats_leak (by simpa using hl) hw
  refine ⟨R2,e1.trans e2,fun i h h'=>?_,hw⟩
  rcases i with _|i
  ·exact e2.slR s1
  ·exact s2 i (by simpa using h) (by simpa using h')
theorem HoldsL.leak {s:Sl} {L:List Hold} (hw:Sat R (HoldsL s L::Hs) w):∃ (R':Cx) (ts:List Sl),R.Ext R'∧HsR R' s L ts∧Sat R' Hs w:=by
 obtain ⟨ts,hl,hw⟩:=Sat.holdsL.1 hw
 obtain ⟨R1,e1,hr,hw⟩:=OwnN.leak hw
 obtain ⟨R2,e2,hs,hw⟩:=seats_leak hl hw
 exact ⟨R2,ts,e1.trans e2,⟨hl,e2.roN hr,hs⟩,hw⟩
end Go.Proofs.YtlplemdmegpoeaaGreatDoor
/- Whether two lists of holds are the same: reference 15. Condition: none. -/
namespace Go.Proofs.YtlplemdmegpoeaaGreatDoor
set_option linter.unusedVariables false
set_option linter.unusedSimpArgs false
open Go Go.VC
variable {R:Cx} {Hs Rest:List HP} {w:World}
theorem rowsH_len {L:List Hold} {ts:List Sl} (h:ts.length=L.length):(rowsH L ts).length=L.length:=by simp [rowsH,h]
theorem rowsH_at {L:List Hold} {ts:List Sl} {k:Nat} (h:k<L.length) (h':k<ts.length) (h2:k<(rowsH L ts).length):(rowsH L ts)[k]=rowH L[k] ts[k]:=by simp [rowsH]
theorem HsR.fld {s:Sl} {L:List Hold} {ts:List Sl} {S:World→Prop} {k j:Nat} {v:Value} (hr:HsR R s L ts) (hS:∀ w,S w→Sat R Hs w) (hk:k<L.length) (hk':k<ts.length) (hv:(rowH L[k] ts[k])[j]? =some v) {F:Addr→Prop}
  (f:∀ a:Addr,a.spot=none→At S ⟨(a.add (mulS k 4)).block,(a.add (mulS k 4)).off + j,none⟩ [v]→F a):Rng (k:Int) s.len (NilP s.a F):=by
 have hl:=rowsH_len hr.len
 refine (hr.rows.reads hS).rng (k:=k) (by omega) fun b off ha hat=>f _ rfl ?_
 rw [elt_addr]
 refine hat j [v] ?_
 rw [rowsH_at hk hk']
 obtain ⟨hlt,he⟩:=List.getElem?_eq_some_iff.1 hv
 rw [List.drop_eq_getElem_cons hlt,he]
 exact ⟨rfl,trivial⟩
theorem add_zero_fld (a:Addr) (k:Nat) (h:a.spot=none):Addr.add (Addr.add a (mulS k 4)) 0=⟨(a.add (mulS k 4)).block,(a.add (mulS k 4)).off + 0,none⟩:=by
 obtain ⟨b,o,s⟩:=a
 dsimp only at h
 subst h
 rw [add_off,add_off]
def holdEq (a b:Hold):Prop:=a.owner=b.owner∧a.cls=b.cls∧a.many=b.many∧a.seats=b.seats
theorem hold_ext {a b:Hold} (h:holdEq a b):a=b:=by
 obtain ⟨h1,h2,h3,h4⟩:=h
 cases a;cases b;simp_all
instance:DecidableEq Hold:=fun a b=>decidable_of_iff (a.owner=b.owner∧a.cls=b.cls∧a.many=b.many∧a.seats=b.seats) ⟨hold_ext,fun h=>by subst h;exact ⟨rfl,rfl,rfl,rfl⟩⟩
end Go.Proofs.YtlplemdmegpoeaaGreatDoor
/- Reference 15's flight in memory; place. Condition: none. -/
namespace Go.Proofs.YtlplemdmegpoeaaGreatDoor
set_option linter.unusedVariables false
set_option linter.unusedSimpArgs false
open Go Go.VC
variable {R:Cx} {Hs Rest:List HP} {w:World}
structure RF where
 num:Int
 rows:Int
 grps:List Int
 lims:List Int
 L:List Hold
abbrev rCells (r:RF) (sg sl s:Sl):Obj:=.cells [.int .i64 r.num,.int .i64 r.rows,.slice sg.a sg.len sg.cap,.slice sl.a sl.len sl.cap,.slice s.a s.len s.cap].toArray 179 (0,0)
end Go.Proofs.YtlplemdmegpoeaaGreatDoor
/- A flight, plain: the document's steps; how the program's go with them. No program in sight. Condition: none. -/
namespace Go.Proofs.YtlplemdmegpoeaaGreatDoor
set_option linter.unusedVariables false
set_option linter.unusedSimpArgs false
open Go Go.VC
def cntL (k:Int):List Hold→Int
 |[]=>0
 |h::L=>(if h.cls=k then h.many else 0) + cntL k L
def soldL (n:Nat) (L:List Hold):List Int:=(List.range n).map fun (k:Nat)=>cntL (k:Int) L
def takenL (L:List Hold):List Int:=L.flatMap Hold.seats
theorem cntL_cons (k:Int) (h:Hold) (L:List Hold):cntL k (h::L)=(if h.cls=k then h.many else 0) + cntL k L:=rfl
theorem cntL_app (k:Int):∀ A B:List Hold,cntL k (A++B)=cntL k A + cntL k B
 |[],B=>by simp [cntL]
 |h::A,B=>by simp only [List.cons_append,cntL,cntL_app k A B];omega
theorem cntL_perm {k:Int} {A B:List Hold} (h:A.Perm B):cntL k A=cntL k B:=by
 induction h with
 |nil=>rfl
 |cons x _ ih=>simp only [cntL,ih]
 |swap x y l=>simp only [cntL];exact Int.add_left_comm _ _ _
 |trans _ _ a b=>exact a.trans b
theorem soldL_len (n:Nat) (L:List Hold):(soldL n L).length=n:=by simp [soldL]
theorem soldL_get {n k:Nat} {L:List Hold} (h:k<(soldL n L).length):(soldL n L)[k]=cntL (k:Int) L:=by simp [soldL]
theorem soldL_getD {n k:Nat} {L:List Hold} (h:k<n):(soldL n L).getD k 0=cntL (k:Int) L:=by
 rw [List.getD_eq_getElem?_getD,List.getElem?_eq_getElem (by rw [soldL_len];exact h),soldL_get];rfl
theorem soldL_set {n:Nat} {L L':List Hold} {c:Int} {x:Int} (h0:0≤c) (h1:c<n) (hc:cntL c L'=x) (ho:∀ k:Nat,(k:Int)≠c→cntL (k:Int) L'=cntL (k:Int) L):(soldL n L).set c.toNat x=soldL n L':=by
 apply List.ext_getElem
 ·simp [soldL]
 ·intro i h2 h3
  rw [List.getElem_set]
  split
  ·rename_i e
   rw [soldL_get]
   rw [←hc]
   congr 1
   omega
  ·rename_i e
   rw [soldL_get,soldL_get]
   exact (ho i (by omega)).symm
theorem soldL_put {n:Nat} {h:Hold} {L L':List Hold} (p:L'.Perm (h::L)) (h0:0≤h.cls) (h1:h.cls<n):(soldL n L).set h.cls.toNat ((soldL n L).getD h.cls.toNat 0 + h.many)=soldL n L':=by
 refine soldL_set h0 h1 ?_ fun k hk=>?_
 ·rw [soldL_getD (by omega),cntL_perm p,show ((h.cls.toNat:Nat):Int)=h.cls by omega]
  rw [cntL_cons,if_pos rfl];omega
 ·rw [cntL_perm p]
  show (if h.cls=(k:Int) then h.many else 0) + cntL (k:Int) L=_
  rw [if_neg (fun e=>hk e.symm)];omega
def getO (o:Int):List Hold→Option Hold
 |[]=>none
 |h::L=>if h.owner=o then some h else getO o L
def insH (h:Hold):List Hold→List Hold
 |[]=>[h]
 |x::L=>if x.owner<h.owner then x::insH h L else h::x::L
theorem getO_cons (o:Int) (h:Hold) (L:List Hold):getO o (h::L)=if h.owner=o then some h else getO o L:=rfl
theorem getO_none {o:Int}:∀ {L:List Hold},getO o L=none↔∀ h∈L,h.owner≠o
 |[]=>by simp [getO]
 |h::L=>by
  rw [getO_cons]
  constructor
  ·intro e x hx
   split at e
   ·cases e
   ·rename_i hne
    rcases List.mem_cons.1 hx with rfl|hx
    ·exact hne
    ·exact getO_none.1 e x hx
  ·intro e
   rw [if_neg (e h List.mem_cons_self)]
   exact getO_none.2 fun x hx=>e x (List.mem_cons_of_mem _ hx)
theorem getO_app {o:Int} {h:Hold} {C:List Hold} (ho:h.owner=o):∀ {A:List Hold},getO o A=none→getO o (A++h::C)=some h
 |[],_=>by show getO o (h::C)=_;rw [getO_cons,if_pos ho]
 |x::A,e=>by
  rw [getO_cons] at e
  split at e
  ·cases e
  ·rename_i hx
   show getO o (x::(A++h::C))=_
   rw [getO_cons,if_neg hx];exact getO_app ho e
theorem insH_perm (h:Hold):∀ L:List Hold,(insH h L).Perm (h::L)
 |[]=>List.Perm.refl _
 |x::L=>by
  unfold insH
  split
  ·exact ((insH_perm h L).cons x).trans (List.Perm.swap _ _ _)
  ·exact List.Perm.refl _
def OwR (L:List Hold):Prop:=L.Pairwise fun a b=>a.owner<b.owner
theorem OwR.ne {L:List Hold} (h:OwR L):L.Pairwise fun a b=>a.owner≠b.owner:=h.imp fun h e=>by omega
theorem getO_iff {o:Int} {h:Hold}:∀ {L:List Hold},(L.Pairwise fun a b=>a.owner≠b.owner)→(getO o L=some h↔h∈L∧h.owner=o)
 |[],_=>by simp [getO]
 |x::L,hp=>by
  obtain ⟨h1,h2⟩:=List.pairwise_cons.1 hp
  rw [getO_cons]
  split
  ·rename_i hx
   constructor
   ·intro e;cases e;exact ⟨List.mem_cons_self,hx⟩
   ·rintro ⟨hm,ho⟩
    rcases List.mem_cons.1 hm with rfl|hm
    ·rfl
    ·exact absurd (hx.trans ho.symm) (h1 h hm)
  ·rename_i hx
   rw [getO_iff h2]
   constructor
   ·rintro ⟨a,b⟩;exact ⟨List.mem_cons_of_mem _ a,b⟩
   ·rintro ⟨hm,ho⟩
    rcases List.mem_cons.1 hm with rfl|hm
    ·exact absurd ho hx
    ·exact ⟨hm,ho⟩
theorem getO_perm {o:Int} {A B:List Hold} (p:A.Perm B) (h:A.Pairwise fun a b=>a.owner≠b.owner):getO o A=getO o B:=by
 have h':B.Pairwise fun a b=>a.owner≠b.owner:=(p.pairwise_iff fun h=>h.symm).1 h
 apply Option.ext
 intro x
 rw [getO_iff h,getO_iff h',p.mem_iff]
theorem insH_rise {h:Hold}:∀ {L:List Hold},OwR L→getO h.owner L=none→OwR (insH h L)
 |[],_,_=>by simp [OwR,insH]
 |x::L,hp,hn=>by
  obtain ⟨h1,h2⟩:=List.pairwise_cons.1 hp
  rw [getO_cons] at hn
  split at hn
  ·cases hn
  rename_i hx
  unfold insH
  split
  ·rename_i hlt
   refine List.pairwise_cons.2 ⟨fun y hy=>?_,insH_rise h2 hn⟩
   rcases List.mem_cons.1 ((insH_perm h L).mem_iff.1 hy) with rfl|hy
   ·exact hlt
   ·exact h1 y hy
  ·rename_i hlt
   refine List.pairwise_cons.2 ⟨fun y hy=>?_,hp⟩
   rcases List.mem_cons.1 hy with rfl|hy
   ·omega
   ·have:=h1 y hy;omega
theorem owR_mid {A C:List Hold} {h h':Hold} (ho:h'.owner=h.owner) (hp:OwR (A++h::C)):OwR (A++h'::C):=by
 unfold OwR at *
 rw [List.pairwise_append,List.pairwise_cons] at *
 refine ⟨hp.1,⟨fun y hy=>by rw [ho];exact hp.2.1.1 y hy,hp.2.1.2⟩,fun a ha b hb=>?_⟩
 rcases List.mem_cons.1 hb with rfl|hb
 ·rw [ho];exact hp.2.2 a ha h List.mem_cons_self
 ·exact hp.2.2 a ha b (List.mem_cons_of_mem _ hb)
def RF.sold (r:RF):List Int:=soldL r.lims.length r.L
def rtakeF (r:RF) (owner cls many:Int):RF × Int:=
 if owner<1∨owner>28629151 then (r,1) else if (getO owner r.L).isSome then (r,7)
 else if (sellT r.lims r.sold cls many).2=0 then ({ r with L:=insH ⟨owner,cls,many,[]⟩ r.L },0) else (r,(sellT r.lims r.sold cls many).2)
def rleftsF (r:RF):List Int:=(List.range r.lims.length).map fun (k:Nat)=>(leftT r.lims r.sold k).1
structure HoldOk (n:Nat) (N:Int) (h:Hold):Prop where
 owner:1≤h.owner∧h.owner≤28629151
 cls:0≤h.cls∧h.cls<n
 many:1≤h.many
 rise:Rise h.seats
 few:(h.seats.length:Int)≤h.many
 seats:∀ x∈h.seats,0≤x∧x<N
structure Good (r:RF):Prop where
 num:1≤r.num∧r.num≤9999
 lay:layOk r.rows r.grps=true
 nest:nestOk r.lims r.sold=true
 l0:r.lims.getD 0 0=layN r.rows r.grps
 rise:OwR r.L
 each:∀ h∈r.L,HoldOk r.lims.length (layN r.rows r.grps) h
 apart:r.L.Pairwise fun a b=>∀ x∈a.seats,x ∉ b.seats
structure Tie (f:PF) (r:RF):Prop where
 num:f.num=r.num
 rows:f.rows=r.rows
 grps:f.grps=r.grps
 lims:f.lims=r.lims
 sold:f.sold=r.sold
 hs:(f.hs.map (·.2)).Perm r.L
 key:∀ e∈f.hs,e.2.owner=e.1
 own:∀ n o,getM n f.own=some o↔∃ h∈r.L,h.owner=o∧n∈h.seats
 nod:(f.own.map (·.1)).Nodup
theorem tie_get1 {o:Int}:∀ {hs:List (Int × Hold)},(∀ e∈hs,e.2.owner=e.1)→getM o hs=getO o (hs.map (·.2))
 |[],_=>rfl
 |e::hs,h=>by
  have h1:=h e List.mem_cons_self
  have ih:=tie_get1 (o:=o) fun x hx=>h x (List.mem_cons_of_mem _ hx)
  rw [List.map_cons,getO_cons,h1,←ih]
  show (if o==e.1 then some e.2 else getM o hs)=_
  by_cases he:e.1=o
  ·rw [if_pos he,if_pos (by rw [he];exact beq_self_eq_true o)]
  ·rw [if_neg he,if_neg (by rw [beq_iff_eq];exact fun e'=>he e'.symm)]
variable {f:PF} {r:RF}
theorem Tie.ne (t:Tie f r) (g:OwR r.L):(f.hs.map (·.2)).Pairwise fun a b=>a.owner≠b.owner:=(t.hs.pairwise_iff fun h=>h.symm).2 g.ne
theorem Tie.get (t:Tie f r) (g:OwR r.L) (o:Int):getM o f.hs=getO o r.L:=by
 rw [tie_get1 t.key,getO_perm t.hs (t.ne g)]
theorem Tie.taken (t:Tie f r) (n:Int):(getM n f.own).isSome=true↔n∈takenL r.L:=by
 unfold takenL
 rw [List.mem_flatMap,Option.isSome_iff_exists]
 constructor
 ·rintro ⟨o,h⟩
  obtain ⟨x,hx,_,hn⟩:=(t.own n o).1 h
  exact ⟨x,hx,hn⟩
 ·rintro ⟨x,hx,hn⟩
  exact ⟨x.owner,(t.own n x.owner).2 ⟨x,hx,rfl,hn⟩⟩
end Go.Proofs.YtlplemdmegpoeaaGreatDoor
/- A flight: Holds. Condition: bounds on lengths. -/
namespace Go.Proofs.YtlplemdmegpoeaaGreatDoor
set_option linter.unusedVariables false
set_option linter.unusedSimpArgs false
open Go Go.VC
variable {R:Cx} {Hs Rest:List HP} {w:World}
def hold0:Hold:=⟨0,0,0,[]⟩
def holdOf (f:PF) (k:Int):Hold:=(getM k f.hs).getD hold0
def holdsF (f:PF):List Hold:=(sortI (f.hs.map (·.1))).map (holdOf f)
theorem elH:ElN Tryz.prog 177 177 197 4 48:=⟨Tryz.underlying177,⟨_,Tryz.underlying177⟩,by kernel_rfl⟩
theorem HoldsL.nil (hw:Sat R Hs w):Sat R (HoldsL ⟨none,0,0⟩ []::Hs) w:=Sat.holdsL.2 ⟨[],rfl,OwnN.nil hw⟩
theorem rowsH_snoc {L:List Hold} {ts:List Sl} (hl:ts.length=L.length) (h:Hold) (t:Sl):rowsH (L++[h]) (ts++[t])=rowsH L ts++[rowH h t]:=by
 unfold rowsH
 rw [List.zip_append hl.symm,List.map_append];rfl
theorem seatsH_snoc {L:List Hold} {ts:List Sl} (hl:ts.length=L.length) (h:Hold) (t:Sl):seatsH (L++[h]) (ts++[t])=seatsH L ts++[Reads t (intsI h.seats)]:=by
 unfold seatsH
 rw [List.zip_append hl.symm,List.map_append];rfl
theorem HoldsL.snoc {s:Sl} {L:List Hold} {ts:List Sl} {h:Hold} {t:Sl} (hl:ts.length=L.length) (hw:Sat R (OwnN 4 s 197 (rowsH L ts++[rowH h t])::Reads t (intsI h.seats)::(seatsH L ts++Hs)) w):Sat R (HoldsL s (L++[h])::Hs) w:=by
 refine Sat.holdsL.2 ⟨ts++[t],by simp [hl],?_⟩
 rw [rowsH_snoc hl,seatsH_snoc hl,List.append_assoc]
 exact hw.cons fun _ h5=>h5.perm List.perm_middle.symm
theorem holds_fspec {p:Nat} {f:PF} (hu:(f.hs.map (·.1)).Nodup) (hn:∀ k∈f.hs.map (·.1),-1000000000≤k∧k≤1000000000) (hlen:f.hs.length≤100000) (hR:∀ e∈f.hs,e.2.seats.length≤1000000) (hw:Sat R (FlightAt p f::Hs) w):
  Gets Tryz.prog 134 #[.pointer (some ⟨p,0,none⟩)] w fun v w'=>∃ t:Sl,v=.slice t.a t.len t.cap∧Sat R (HoldsL t (holdsF f)::FlightAt p f::Hs) w':=by
 obtain ⟨hm,om,sg,sl,ss,E,R',hE,_,_,_,_,hw,back⟩:=Sat.flightO hw
 have hk1:(hPtrs E).map (·.1)=f.hs.map (·.1):=by rw [←hE];simp [hPtrs,hEr,Function.comp_def]
 have hel:(hPtrs E).length=f.hs.length:=by rw [←hE];simp [hPtrs,hEr]
 apply call134
 refine NilP.mk rfl ⟨some hm,At.own (eqS hw) (by exact ⟨rfl,trivial⟩),?_⟩
 refine sortedH_rule (es:=hPtrs E) (by rw [hk1];exact hu) (by rw [hk1];exact hn) (by omega) (hw.take (MapAt hm (hPtrs E))) fun sk w hw=>?_
 rw [hk1] at hw
 have hksl:(sortI (f.hs.map (·.1))).length=f.hs.length:=by unfold sortI;rw [List.length_mergeSort,List.length_map]
 have hmem:∀ k∈sortI (f.hs.map (·.1)),k∈f.hs.map (·.1):=fun k hk=>List.mem_mergeSort.1 hk
 unfold holdsF
 generalize sortI (f.hs.map (·.1))=ks at *
 obtain ⟨R2,e2,hks,hw⟩:=Own.leak hw
 have hkl:=hks.len
 rw [List.length_map] at hkl
 have hro:RoI R2 sk ks:=hks.ro (by rw [List.length_map];omega)
 have hw:Sat R2 (FO p hm om sg sl ss E f Hs) w:=hw.arr
 refine ⟨fun out i w=>∃ j:Nat,i=j∧j≤ks.length∧Sat R2 (HoldsL out ((ks.take j).map (holdOf f))::FO p hm om sg sl ss E f Hs) w,fun _ i _=>ks.length - i.toNat,⟨0,rfl,by omega,HoldsL.nil hw⟩,?_⟩
 clear hw
 rintro _ out _ w ⟨j,rfl,hj,hw⟩
 refine Br.d (fun h=>?_) (fun h=>?_)
 ·have hj2:j<ks.length:=by omega
  refine Ro.ix hro (eqS hw) j rfl hj2 ?_
  have hkin:(getM ks[j] E).isSome=true:=by
   have h1:=hmem ks[j] (List.getElem_mem _)
   rw [←hE,hEr,List.map_map] at h1
   obtain ⟨e,he,hek⟩:=List.mem_map.1 h1
   have key:∀ (l:List HE),e∈l→(getM ks[j] l).isSome=true:=fun l=>by
    induction l with
    |nil=>intro h;cases h
    |cons x l ih=>
     intro h
     show (if ks[j]==x.1 then some x.2 else getM ks[j] l).isSome=true
     split
     ·rfl
     ·rename_i hx
      rcases List.mem_cons.1 h with rfl|h
      ·exact absurd (beq_iff_eq.2 hek.symm) hx
      ·exact ih h
   exact key E he
  obtain ⟨⟨b,h⟩,hget⟩:=Option.isSome_iff_exists.1 hkin
  have hof:holdOf f ks[j]=h:=by unfold holdOf;rw [←hE,hEr_get,hget];rfl
  have htk:(ks.take (j + 1)).map (holdOf f)=(ks.take j).map (holdOf f)++[h]:=by
   rw [List.take_add_one,List.getElem?_eq_getElem hj2,Option.toList_some,List.map_append,List.map_singleton,hof]
  have hLl:((ks.take j).map (holdOf f)).length=j:=by rw [List.length_map,List.length_take];omega
  generalize (ks.take j).map (holdOf f)=L at *
  generalize ks[j]=k at *
  obtain ⟨a,c,rfl,hna⟩:=getM_split hget
  have hl:h.seats.length≤1000000:=hR (k,h) (by rw [←hE,hEr_app];simp)
  refine NilP.mk rfl ⟨some hm,At.own (eqS hw) (by exact ⟨rfl,trivial⟩),some ⟨b,0,none⟩,fun w' e=>?_,NilP.mk rfl ?_⟩
  ·rw [show w'=w from e,hold_look (hw.take (MapAt hm (hPtrs (a++(k,b,h)::c)))) k false,hget];rfl
  have hw:Sat R2 (FO p hm om sg sl ss (a++(k,b,h)::c) f (HoldsL out L::Hs)) w:=hw.arr
  obtain ⟨s,hw⟩:=FO.open hw
  refine ⟨h.owner,h.cls,h.many,s,At.own (eqS hw) (by exact ⟨rfl,rfl,rfl,rfl,trivial⟩),?_⟩
  refine new_rule hw fun bh w hw=>?_
  have hw:Sat R2 (pts bh (hCells ⟨0,0,0,[]⟩ ⟨none,0,0⟩)::FO1 p hm om b sg sl ss s (a++(k,b,h)::c) (a++c) f h f.own (HoldsL out L::Hs)) w:=hw
  refine store_rule hw (by kernel_rfl) rfl (by simp [Value.cells]) fun w hw=>?_
  have hw:=hw.re (pts bh (hCells h s))
  refine ⟨s,At.own (eqS hw) (by exact ⟨rfl,trivial⟩),?_⟩
  obtain ⟨R3,hro3,_,hw3,back3⟩:=Own.lend (hw.take (Own s 3 (intsI h.seats))) (by rw [List.length_map];omega)
  refine (cloneI_spec hro3 (by omega) hw3).use ?_
  clear hw hw3
  rintro _ w ⟨t,rfl,hw⟩
  have hw:=back3 hw
  refine ⟨t,rfl,?_⟩
  have hw:Sat R2 (pts bh (hCells h s)::Own t 3 (intsI h.seats)::FO1 p hm om b sg sl ss s (a++(k,b,h)::c) (a++c) f h f.own (HoldsL out L::Hs)) w:=hw.arr
  refine store_rule hw (by kernel_rfl) rfl (by simp [Value.cells]) fun w hw=>?_
  have hw:=hw.re (pts bh (hCells h t))
  refine ⟨h.owner,h.cls,h.many,t,At.own (eqS hw) (by exact ⟨rfl,rfl,rfl,rfl,trivial⟩),?_⟩
  obtain ⟨ts,hts,hw⟩:=Sat.holdsL.1 (hw.take (HoldsL out L))
  have hrl:=rowsH_len hts
  refine pushN_rule (x:=rowH h t) elH hw rfl rfl (by omega) (by omega) fun o2 w hw=>?_
  rw [wrap64 (by omega) (by omega)]
  refine ⟨⟨j + 1,by omega,by omega,?_⟩,by dsimp only;omega⟩
  rw [htk]
  have hw:Sat R2 (OwnN 4 o2 197 (rowsH L ts++[rowH h t])::(seatsH L ts++(Own t 3 (intsI h.seats)::pts bh (hCells h t)::FO1 p hm om b sg sl ss s (a++(k,b,h)::c) (a++c) f h f.own Hs))) w:=
   hw.cons fun _ h5=>h5.perm (List.Perm.append_left _ (Arr.perm (Hs:=_) (Hs':=Own t 3 (intsI h.seats)::pts bh (hCells h t)::FO1 p hm om b sg sl ss s (a++(k,b,h)::c) (a++c) f h f.own Hs)))
  have hw:Sat R2 (OwnN 4 o2 197 (rowsH L ts++[rowH h t])::Reads t (intsI h.seats)::(seatsH L ts++(pts bh (hCells h t)::FO1 p hm om b sg sl ss s (a++(k,b,h)::c) (a++c) f h f.own Hs))) w:=
   hw.cons fun _ h5=>Own.reads (h5.perm List.perm_middle)
  have hw:=HoldsL.snoc hts hw
  exact hw.cons fun _ h5=>FO.close (f:=f) h5.drop
 ·rw [List.take_of_length_le (by omega)] at hw
  refine ⟨out,rfl,?_⟩
  have hw:=e2.back hw
  have hw:=back _ _ hw
  exact Sat.cons (fun _ h5=>Sat.flightC hE h5) (hw.take (HoldsL out (ks.map (holdOf f))))
end Go.Proofs.YtlplemdmegpoeaaGreatDoor
/- A flight's bytes. Condition: bounds on lengths. -/
namespace Go.Proofs.YtlplemdmegpoeaaGreatDoor
set_option linter.unusedVariables false
set_option linter.unusedSimpArgs false
open Go Go.VC
variable {R:Cx} {Hs Rest:List HP} {w:World}
theorem _root_.Go.VC.Sat.allTru {Hs:List HP}:∀ {R:Cx},Sat R Hs w→Sat R [VC.tru] w:=by
 induction Hs with
 |nil=>exact fun h=>h.tru
 |cons A Hs ih=>exact fun h=>Sat.absorb (h.cons fun _ h=>ih h)
theorem _root_.Go.VC.Sat.restTru2 {A:HP} (h:Sat R (A::Hs) w):Sat R [A,VC.tru] w:=h.cons fun _ h=>h.allTru
theorem _root_.Go.VC.MapAt.len {P:Program} {α:Type} [BEq α] [KeyK α] {m:Nat} {es:List (α × Value)} {T ty:TypeId} (hT:P.underlying T=some (.map (P.mapKeyOf T) (P.mapElemOf T))) (hw:Sat R (MapAt m es::Hs) w):
  (Builtin.len_ #[T] ty #[.map (some m)]).run P w=.ok (.int .i64 es.length) w:=by
 obtain ⟨l,c,hs,hst,hp⟩:=MapAt.iff.1 hw
 rw [run_len_map w T ty m _ c hT hp.at]
 subst hs
 simp [goInt,strip]
def listB (l:List Int):List Int:=numsB [(l.length:Int)]++numsB l
def holdB (h:Hold):List Int:=numsB [h.owner,h.cls,h.many]++listB h.seats
def holdsB (L:List Hold):List Int:=(L.map holdB).flatten
def encB (num rows:Int) (grps lims:List Int) (L:List Hold):List Int:=numsB [num,rows]++listB grps++listB lims++numsB [(L.length:Int)]++holdsB L
abbrev small (l:List Int):Prop:=∀ x∈l,0≤x∧x<9223372036854775808
theorem small_u {l:List Int} (h:small l):∀ x∈l,0≤x∧x<18446744073709551616:=fun x hx=>by have:=h x hx;omega
theorem listB_len {l:List Int} (h:small l) (hl:l.length<9223372036854775808):(listB l).length≤9 * l.length + 9:=by
 unfold listB
 have h1:=numsB_len (small_u h)
 have h2:(numsB [(l.length:Int)]).length≤9:=numsB_len (by intro y hy;simp at hy;omega)
 rw [List.length_append];omega
structure HSmall (h:Hold):Prop where
 o:0≤h.owner∧h.owner<9223372036854775808
 c:0≤h.cls∧h.cls<9223372036854775808
 m:0≤h.many∧h.many<9223372036854775808
 s:small h.seats
 n:h.seats.length≤1000
theorem HSmall.three {h:Hold} (a:HSmall h):small [h.owner,h.cls,h.many]:=by
 intro x hx
 rcases List.mem_cons.1 hx with rfl|hx
 ·exact a.o
 rcases List.mem_cons.1 hx with rfl|hx
 ·exact a.c
 rw [List.mem_singleton.1 hx];exact a.m
theorem holdB_len {h:Hold} (a:HSmall h):(holdB h).length≤9036:=by
 unfold holdB
 have h1:(numsB [h.owner,h.cls,h.many]).length≤27:=numsB_len (small_u a.three)
 have h2:=listB_len a.s (by have:=a.n;omega)
 have:=a.n
 rw [List.length_append];omega
theorem holdsB_len:∀ {L:List Hold},(∀ h∈L,HSmall h)→(holdsB L).length≤9036 * L.length
 |[],_=>Nat.le_refl _
 |h::L,a=>by
  have h1:=holdB_len (a h List.mem_cons_self)
  have h2:=holdsB_len fun x hx=>a x (List.mem_cons_of_mem _ hx)
  show (holdB h++holdsB L).length≤_
  rw [List.length_append,List.length_cons];omega
theorem holdsB_take {L:List Hold} {j:Nat} (h:j<L.length):holdsB (L.take (j + 1))=holdsB (L.take j)++holdB L[j]:=by
 unfold holdsB
 rw [List.take_add_one,List.getElem?_eq_getElem h,List.map_append,List.flatten_append]
 simp only [Option.toList_some,List.map_cons,List.map_nil,List.flatten_cons,List.flatten_nil,List.append_nil]
abbrev putV (pb:Nat):Value:=.func (.func 132) #[] #[.pointer (some ⟨pb,0,none⟩)]
abbrev putC (bp pb:Nat):HP:=pts bp (.cells [putV pb].toArray 113 (0,0))
theorem put_few {bn pb:Nat} {bs xs:List Int} {n:Nat} (hn:n=xs.length) (hxs:small xs) (hl:bs.length + 9 * xs.length≤1099511627776) (hw:Sat R (pts bn (.cells (xs.map (Value.int .i64)).toArray 3 (0,0))::OutB pb bs::Hs) w):
  CalW Tryz.prog cl (putV pb) [.slice (some ⟨bn,0,none⟩) n n] w fun e w'=>e=.returned (.tuple #[])∧Sat R (OutB pb (bs++numsB xs)::Hs) w':=by
 refine CalW.mk (by kernel_rfl) ?_
 have hw:=own_lit (n:=n) hw (by rw [List.length_map];exact hn)
 obtain ⟨R1,hr1,keep1,hw,back1⟩:=Own.lendI hw (by omega)
 refine (eput_spec (s:=⟨some ⟨bn,0,none⟩,n,n⟩) hxs hl hr1 hw).use ?_
 rintro _ w ⟨rfl,hw⟩
 exact ⟨rfl,(back1 hw).drop⟩
theorem elist_spec {bp pb:Nat} {s:Sl} {xs bs:List Int} (hxs:small xs) (hl:bs.length + 9 * xs.length≤1000000000) (hs:RoI R s xs) (hw:Sat R (putC bp pb::OutB pb bs::Hs) w):
  Gets Tryz.prog 133 #[.slice s.a s.len s.cap,.pointer (some ⟨bp,0,none⟩)] w fun v w'=>v=.tuple #[]∧Sat R (putC bp pb::OutB pb (bs++listB xs)::Hs) w':=by
 have hsl:=hs.len
 have h1:(numsB [(xs.length:Int)]).length≤9:=numsB_len (by intro y hy;simp at hy;omega)
 apply call133
 refine NilP.mk rfl ⟨putV pb,At.own (eqS hw) (by exact ⟨rfl,trivial⟩),?_⟩
 rw [hsl]
 refine new_rule hw fun bn w hw=>?_
 have hw:Sat R (pts bn (.cells ([(xs.length:Int)].map (Value.int .i64)).toArray 3 (0,0))::OutB pb bs::putC bp pb::Hs) w:=hw.cons fun _ h=>h.swap
 refine (put_few (n:=1) (by rfl) (by intro y hy;simp at hy;omega) (by simp;omega) hw).mono ?_
 rintro _ w ⟨rfl,hw⟩
 refine ⟨rfl,NilP.mk rfl ⟨putV pb,At.own (eqS hw) (by exact ⟨rfl,trivial⟩),CalW.mk (by kernel_rfl) ?_⟩⟩
 rw [←hsl]
 refine (eput_spec hxs (by rw [List.length_append];omega) hs hw).use ?_
 rintro _ w ⟨rfl,hw⟩
 refine ⟨rfl,rfl,?_⟩
 rw [List.append_assoc] at hw
 exact hw.swap
end Go.Proofs.YtlplemdmegpoeaaGreatDoor
/- Reference 15's flight in memory: opened, closed; place, Sold, taken, Left, Labels. Condition: bounds. -/
namespace Go.Proofs.YtlplemdmegpoeaaGreatDoor
set_option linter.unusedVariables false
set_option linter.unusedSimpArgs false
open Go Go.VC
variable {R R':Cx} {Hs Rest:List HP} {w:World}
def SeatsAt (L:List Hold) (ts:List Sl):HP:=Star (seatsH L ts)
structure RX where
 sg:Sl
 sl:Sl
 s:Sl
 ts:List Sl
def RFAt (q:Nat) (r:RF):HP:=exs fun x:RX=>
 Star [pur (x.ts.length=r.L.length),Reads x.sg (intsI r.grps),Reads x.sl (intsI r.lims),pts q (rCells r x.sg x.sl x.s),OwnN 4 x.s 197 (rowsH r.L x.ts),SeatsAt r.L x.ts]
abbrev RO (q:Nat) (r:RF) (sg sl s:Sl) (ts:List Sl) (Hs:List HP):List HP:=Reads sg (intsI r.grps)::Reads sl (intsI r.lims)::pts q (rCells r sg sl s)::OwnN 4 s 197 (rowsH r.L ts)::SeatsAt r.L ts::Hs
theorem Sat.rf {q:Nat} {r:RF}:Sat R (RFAt q r::Hs) w↔∃ sg sl s ts,ts.length=r.L.length∧Sat R (RO q r sg sl s ts Hs) w:=by
 unfold RFAt
 rw [Sat.exs]
 constructor
 ·rintro ⟨⟨sg,sl,s,ts⟩,h⟩
  obtain ⟨h1,h2⟩:=Sat.pur.1 (Sat.star.1 h)
  exact ⟨sg,sl,s,ts,h1,h2⟩
 ·rintro ⟨sg,sl,s,ts,h1,h2⟩
  exact ⟨⟨sg,sl,s,ts⟩,Sat.star.2 (Sat.pur.2 ⟨h1,h2⟩)⟩
theorem seats_out:∀ {L:List Hold} {ts:List Sl} {R:Cx},ts.length=L.length→Sat R (seatsH L ts++Hs) w→∃ R':Cx,R.Ext R'∧(∀ i (h:i<L.length) (h':i<ts.length),SlR R'.m ts[i] (intsI L[i].seats))∧Sat R' Hs w∧∀ Hs' w',Sat R' Hs' w'→Sat R (seatsH L ts++Hs') w'
 |[],_,R,_,hw=>⟨R,Cx.Ext.refl,fun i h=>by simp at h,by simpa [seatsH] using hw,fun Hs' w' h=>by simpa [seatsH] using h⟩
 |h::L,[],R,hl,_=>by simp at hl
 |h::L,t::ts,R,hl,hw=>by
  have hw:Sat R (Reads t (intsI h.seats)::(seatsH L ts++Hs)) w:=hw
  obtain ⟨R1,e1,s1,hw,b1⟩:=Reads.out hw
  obtain ⟨R2,e2,s2,hw,b2⟩:=seats_out (by simpa using hl) hw
  refine ⟨R2,e1.trans e2,fun i h h'=>?_,hw,fun Hs' w' h=>b1 _ _ (b2 _ _ h)⟩
  rcases i with _|i
  ·exact e2.slR s1
  ·exact s2 i (by simpa using h) (by simpa using h')
structure RfR (R:Cx) (r:RF) (sg sl s:Sl) (ts:List Sl):Prop where
 grps:SlR R.m sg (intsI r.grps)
 lims:SlR R.m sl (intsI r.lims)
 hs:HsR R s r.L ts
 cap:s.len≤s.cap
theorem RfR.len {r:RF} {sg sl s:Sl} {ts:List Sl} (h:RfR R r sg sl s ts):s.len=r.L.length:=by
 have:=h.hs.rows.len
 rwa [rowsH_len h.hs.len] at this
theorem RO.out {q:Nat} {r:RF} {sg sl s:Sl} {ts:List Sl} (hl:ts.length=r.L.length) (hw:Sat R (RO q r sg sl s ts Hs) w):∃ R',R.Ext R'∧RfR R' r sg sl s ts∧Sat R' (pts q (rCells r sg sl s)::Hs) w∧∀ Hs' w',Sat R' (pts q (rCells r sg sl s)::Hs') w'→Sat R (RO q r sg sl s ts Hs') w':=by
 obtain ⟨R1,e1,g1,hw,b1⟩:=Reads.out hw
 obtain ⟨R2,e2,g2,hw,b2⟩:=Reads.out hw
 have hw:Sat R2 (OwnN 4 s 197 (rowsH r.L ts)::SeatsAt r.L ts::pts q (rCells r sg sl s)::Hs) w:=hw.arr
 have hc:=OwnN.cap (by omega) hw
 obtain ⟨R3,g3,⟨x,hx⟩,hw,b3⟩:=OwnN.lend hw
 have e3:R2.Ext R3:=by rw [hx];exact Cx.Ext.add
 obtain ⟨R4,e4,g4,hw,b4⟩:=seats_out hl (Sat.star.1 hw)
 refine ⟨R4,e1.trans (e2.trans (e3.trans e4)),⟨e4.slR (e3.slR (e2.slR g1)),e4.slR (e3.slR g2),⟨hl,e4.roN g3,g4⟩,hc⟩,hw,fun Hs' w' h=>b1 _ _ (b2 _ _ ?_)⟩
 have h1:Sat R2 (OwnN 4 s 197 (rowsH r.L ts)::SeatsAt r.L ts::pts q (rCells r sg sl s)::Hs') w':=b3 (Sat.star.2 (b4 _ _ h))
 exact h1.arr
theorem Sat.rfO {q:Nat} {r:RF} (hw:Sat R (RFAt q r::Hs) w):∃ sg sl s ts R',R.Ext R'∧RfR R' r sg sl s ts∧Sat R' (pts q (rCells r sg sl s)::Hs) w∧
  (∀ Hs' w',Sat R' (pts q (rCells r sg sl s)::Hs') w'→Sat R (RO q r sg sl s ts Hs') w')∧ts.length=r.L.length:=by
 obtain ⟨sg,sl,s,ts,hl,hw⟩:=Sat.rf.1 hw
 obtain ⟨R',e,h,hw,b⟩:=RO.out hl hw
 exact ⟨sg,sl,s,ts,R',e,h,hw,b,hl⟩
structure HCls (n:Nat) (h:Hold):Prop where
 c:0≤h.cls∧h.cls<n
 m:0≤h.many∧h.many≤10000
theorem cntL_le {k:Int} {n:Nat}:∀ {L:List Hold},(∀ h∈L,HCls n h)→0≤cntL k L∧cntL k L≤10000 * L.length
 |[],_=>⟨Int.le_refl _,Int.le_refl _⟩
 |h::L,a=>by
  obtain ⟨i1,i2⟩:=cntL_le (k:=k) fun x hx=>a x (List.mem_cons_of_mem _ hx)
  have:=(a h List.mem_cons_self).m
  rw [cntL_cons,List.length_cons]
  split<;>omega
theorem zer_nums {n:Nat} {K:Sl→World→Prop} (hn:n≤1000) (hw:Sat R Hs w) (k:∀ s w',Sat R (Own s 3 (intsI (soldL n []))::Hs) w'→K s w'):
  ∃ w',∃ t:Sl,(Instr.makeSlice 30 (.int .i64 (n:Int)) (.int .i64 (n:Int))).run Tryz.prog w=.ok (.slice t.a t.len t.cap) w'∧K t w':=
 make_rule (bytes:=8) (z:=.int .i64 0) Tryz.underlying30 (by kernel_rfl) Tryz.zeroValue3 rfl (by omega) (by omega) hw fun s w hw=>k s w (by
  have e:intsI (soldL n [])=List.replicate n (.int .i64 0):=by
   apply List.ext_getElem
   ·simp [soldL]
   ·intro i h1 h2;simp [soldL,cntL]
  rw [e];exact hw)
theorem rsold_spec {q:Nat} {r:RF} {sg sl s:Sl} {ts:List Sl} (h:RfR R r sg sl s ts) (hll:r.L.length≤1000000) (hlm:r.lims.length≤1000) (hc:∀ x∈r.L,HCls r.lims.length x) (hw:Sat R (pts q (rCells r sg sl s)::Hs) w):
  Gets Tryz.prog 127 #[.pointer (some ⟨q,0,none⟩)] w fun v w'=>∃ t:Sl,v=.slice t.a t.len t.cap∧Sat R (Own t 3 (intsI r.sold)::pts q (rCells r sg sl s)::Hs) w':=by
 have hsl:=h.len
 have hl:=h.hs.len
 have hlen:sl.len=r.lims.length:=by have:=h.lims.len;rwa [List.length_map] at this
 apply call127
 refine NilP.mk rfl ⟨sl,At.own (eqS hw) (by exact ⟨rfl,trivial⟩),?_⟩
 rw [hlen]
 refine zer_nums hlm hw fun t w hw=>?_
 refine ⟨fun i w=>∃ j:Nat,i=j∧j≤r.L.length∧Sat R (Own t 3 (intsI (soldL r.lims.length (r.L.take j)))::pts q (rCells r sg sl s)::Hs) w,fun i _=>r.L.length - i.toNat,⟨0,rfl,by omega,hw⟩,?_⟩
 clear hw
 rintro _ _ w ⟨j,rfl,hj,hw⟩
 refine NilP.mk rfl ⟨s,At.own (eqS hw) (by exact ⟨rfl,trivial⟩),Br.d (fun h1=>?_) (fun h1=>?_)⟩
 ·have j1:j<r.L.length:=by omega
  have hx:=hc r.L[j] (List.getElem_mem _)
  obtain ⟨c,hce⟩:=Int.eq_ofNat_of_zero_le hx.c.1
  have hcl:c<r.lims.length:=by have:=hx.c;omega
  have hcb:=cntL_le (k:=(c:Int)) (n:=r.lims.length) (L:=r.L.take j) fun x hx=>hc x (List.mem_of_mem_take hx)
  rw [List.length_take,Nat.min_eq_left hj] at hcb
  have hsll:=soldL_len r.lims.length (r.L.take j)
  have hcv:(soldL r.lims.length (r.L.take j))[c]'(by rw [hsll];exact hcl)=cntL (c:Int) (r.L.take j):=soldL_get _
  have hput:(soldL r.lims.length (r.L.take j)).set c (cntL (c:Int) (r.L.take j) + r.L[j].many)=soldL r.lims.length (r.L.take (j + 1)):=by
   have h5:=soldL_put (h:=r.L[j]) (L:=r.L.take j) (L':=r.L.take (j + 1)) (by
    rw [List.take_add_one,List.getElem?_eq_getElem j1]
    exact List.perm_append_comm) hx.c.1 hx.c.2
   rw [hce,Int.toNat_natCast,soldL_getD hcl] at h5
   exact h5
  have hrow:∀ {S:World→Prop} {Hs:List HP} {i:Nat} {v:Value},(∀ w,S w→Sat R Hs w)→(rowH r.L[j] (ts[j]'(by omega)))[i]? =some v→∀ {F:Addr→Prop},(∀ a:Addr,a.spot=none→At S ⟨(a.add (mulS j 4)).block,(a.add (mulS j 4)).off + i,none⟩ [v]→F a)→Rng (j:Int) s.len (NilP s.a F):=fun {S Hs i v} hS hv {F} f=>h.hs.fld hS j1 (by omega) hv f
  refine drw_rule hw fun w hw=>?_
  refine NilP.mk rfl ⟨s,At.own selfS (by exact ⟨rfl,trivial⟩),hrow (i:=1) selfS rfl fun a1 _ h1=>⟨r.L[j].cls,h1,NilP.mk rfl ⟨s,At.own selfS (by exact ⟨rfl,trivial⟩),hrow (i:=1) selfS rfl fun a2 _ h2=>⟨r.L[j].cls,h2,?_⟩⟩⟩⟩
  rw [hce]
  refine Own.ix hw selfS c rfl (by rw [hsll];omega) ?_
  refine NilP.mk rfl ⟨s,At.own selfS (by exact ⟨rfl,trivial⟩),hrow (i:=2) selfS rfl fun a3 _ h3=>⟨r.L[j].many,h3,?_⟩⟩
  rw [hcv,wrap64 (by have:=hx.m;omega) (by have:=hx.m;omega)]
  refine Own.store (by kernel_rfl) hw (by rw [hsll];omega) fun w hw=>?_
  rw [hput] at hw
  rw [wrap64 (by omega) (by omega)]
  exact ⟨⟨j + 1,by omega,by omega,hw⟩,by dsimp only;omega⟩
 ·rw [List.take_of_length_le (by omega)] at hw
  exact ⟨t,rfl,hw⟩
theorem takenL_take {L:List Hold} {j:Nat} (h:j<L.length):takenL (L.take (j + 1))=takenL (L.take j)++L[j].seats:=by
 unfold takenL
 rw [List.take_add_one,List.getElem?_eq_getElem h,List.flatMap_append]
 simp only [Option.toList_some,List.flatMap_cons,List.flatMap_nil,List.append_nil]
theorem takenL_len:∀ {L:List Hold},(∀ h∈L,h.seats.length≤1000)→(takenL L).length≤1000 * L.length
 |[],_=>Nat.le_refl _
 |h::L,a=>by
  have h1:=a h List.mem_cons_self
  have h2:=takenL_len fun x hx=>a x (List.mem_cons_of_mem _ hx)
  show (h.seats++takenL L).length≤_
  rw [List.length_append,List.length_cons];omega
end Go.Proofs.YtlplemdmegpoeaaGreatDoor
/- A flight, plain: each step of the program's goes with the document's; what holds of a flight holds on. Condition: none. -/
namespace Go.Proofs.YtlplemdmegpoeaaGreatDoor
set_option linter.unusedVariables false
set_option linter.unusedSimpArgs false
open Go Go.VC
section
variable {β:Type}
theorem getM_cons (k:Int) (e:Int × β) (l:List (Int × β)):getM k (e::l)=if k=e.1 then some e.2 else getM k l:=by
 show (if k==e.1 then some e.2 else getM k l)=_
 by_cases h:k=e.1
 ·rw [if_pos h,if_pos (beq_iff_eq.2 h)]
 ·rw [if_neg h,if_neg (fun h'=>h (beq_iff_eq.1 h'))]
theorem getM_mem {k:Int}:∀ {l:List (Int × β)},(getM k l).isSome=true↔k∈l.map (·.1)
 |[]=>by simp [getM]
 |e::l=>by
  rw [getM_cons,List.map_cons,List.mem_cons]
  split
  ·rename_i h;simp [h]
  ·rename_i h;rw [getM_mem (l:=l)];simp [h]
theorem getM_no {k:Int} {l:List (Int × β)}:getM k l=none↔k ∉ l.map (·.1):=by
 rw [←getM_mem,Option.isSome_iff_ne_none];simp
theorem getM_app2 (k:Int):∀ (a b:List (Int × β)),getM k (a++b)=if k∈a.map (·.1) then getM k a else getM k b
 |[],b=>by simp
 |e::a,b=>by
  show getM k (e::(a++b))=_
  rw [getM_cons,getM_cons,getM_app2 k a b,List.map_cons]
  by_cases h:k=e.1
  ·rw [if_pos h,if_pos (by rw [h];exact List.mem_cons_self),if_pos h]
  ·rw [if_neg h,if_neg h]
   by_cases h2:k∈a.map (·.1)
   ·rw [if_pos h2,if_pos (List.mem_cons_of_mem _ h2)]
   ·rw [if_neg h2,if_neg]
    intro h3
    rcases List.mem_cons.1 h3 with h3|h3
    ·exact h h3
    ·exact h2 h3
theorem setM_keys {k:Int} {v:β}:∀ {l:List (Int × β)},(setM k v l).map (·.1)=l.map (·.1)
 |[]=>rfl
 |e::l=>by
  show List.map _ (if k==e.1 then (e.1,v)::l else e::setM k v l)=_
  split
  ·rfl
  ·rw [List.map_cons,setM_keys];rfl
theorem getM_setM {k k':Int} {v:β}:∀ {l:List (Int × β)},(getM k l).isSome=true→getM k' (setM k v l)=if k'=k then some v else getM k' l
 |[],h=>by cases h
 |e::l,h=>by
  show getM k' (if k==e.1 then (e.1,v)::l else e::setM k v l)=_
  rw [getM_cons] at h
  by_cases h1:k=e.1
  ·rw [if_pos (beq_iff_eq.2 h1),getM_cons,getM_cons,h1]
   split<;>rfl
  ·rw [if_neg h1] at h
   rw [if_neg (fun h'=>h1 (beq_iff_eq.1 h')),getM_cons,getM_cons,getM_setM h]
   by_cases h2:k'=e.1
   ·rw [if_pos h2,if_pos h2,if_neg (fun h3=>h1 (h3.symm.trans h2))]
   ·rw [if_neg h2,if_neg h2]
theorem getM_putM (k k':Int) (v:β) (l:List (Int × β)):getM k' (putM k v l)=if k'=k then some v else getM k' l:=by
 unfold putM
 split
 ·rename_i h;exact getM_setM h
 ·rename_i h
  rw [getM_app2]
  have hk:getM k l=none:=by cases hg:getM k l with|none=>rfl|some x=>rw [hg] at h;simp at h
  by_cases h1:k'=k
  ·rw [if_pos h1,if_neg (by rw [h1];exact getM_no.1 hk),getM_cons,if_pos h1]
  ·rw [if_neg h1]
   by_cases h2:k'∈l.map (·.1)
   ·rw [if_pos h2]
   ·rw [if_neg h2,getM_cons,if_neg h1,getM_no.2 h2];rfl
theorem putM_nodup {k:Int} {v:β} {l:List (Int × β)} (h:(l.map (·.1)).Nodup):((putM k v l).map (·.1)).Nodup:=by
 unfold putM
 split
 ·rw [setM_keys];exact h
 ·rename_i hk
  rw [List.map_append,List.nodup_append]
  refine ⟨h,by simp,fun a ha b hb=>?_⟩
  rw [List.map_cons,List.map_nil,List.mem_singleton] at hb
  rintro rfl
  rw [hb] at ha
  exact hk (getM_mem.2 ha)
end
theorem mem_insS {n x:Int}:∀ {l:List Int},x∈insS n l↔x=n∨x∈l
 |[]=>by simp [insS]
 |y::l=>by
  unfold insS
  split
  ·rw [List.mem_cons,mem_insS,List.mem_cons]
   constructor
   ·rintro (h|h|h)
    ·exact .inr (.inl h)
    ·exact .inl h
    ·exact .inr (.inr h)
   ·rintro (h|h|h)
    ·exact .inr (.inl h)
    ·exact .inl h
    ·exact .inr (.inr h)
  ·rw [List.mem_cons]
theorem rise_iff {l:List Int}:Rise l↔l.Pairwise (·<·):=by
 rw [List.pairwise_iff_getElem]
 exact ⟨fun h i j hi hj hij=>h i j hj hij,fun h i j hj hij=>h i j (by omega) hj hij⟩
theorem insS_pw {n:Int}:∀ {l:List Int},l.Pairwise (·<·)→n ∉ l→(insS n l).Pairwise (·<·)
 |[],_,_=>by simp [insS]
 |x::l,hp,hn=>by
  obtain ⟨h1,h2⟩:=List.pairwise_cons.1 hp
  have hx:n≠x:=fun e=>hn (by rw [e];exact List.mem_cons_self)
  unfold insS
  split
  ·refine List.pairwise_cons.2 ⟨fun y hy=>?_,insS_pw h2 fun h=>hn (List.mem_cons_of_mem _ h)⟩
   rcases mem_insS.1 hy with rfl|hy
   ·assumption
   ·exact h1 y hy
  ·refine List.pairwise_cons.2 ⟨fun y hy=>?_,hp⟩
   rcases List.mem_cons.1 hy with rfl|hy
   ·omega
   ·have:=h1 y hy;omega
theorem fromN_add {sold:List Int} {c:Nat} {m:Int} (hc:c<sold.length):∀ (t k:Nat),k + t=sold.length→fromN (sold.set c (sold.getD c 0 + m)) k=fromN sold k + (if k≤c then m else 0)
 |0,k,h=>by
  rw [fromN_end (by rw [List.length_set];omega),fromN_end (by omega),if_neg (by omega)];rfl
 |t + 1,k,h=>by
  have ih:=fromN_add (m:=m) hc t (k + 1) (by omega)
  rw [fromN_step (k:=k) (by rw [List.length_set];omega),fromN_step (sold:=sold) (k:=k) (by omega),ih,List.getElem_set]
  by_cases e:c=k
  ·subst e
   rw [if_pos rfl,if_neg (by omega),if_pos (Nat.le_refl _),getD_lt hc];omega
  ·rw [if_neg e]
   by_cases h2:k≤c
   ·rw [if_pos (by omega),if_pos h2];omega
   ·rw [if_neg (by omega),if_neg h2];omega
def totL:List Hold→Int
 |[]=>0
 |h::L=>h.many + totL L
theorem soldL_nil (n:Nat):soldL n []=List.replicate n 0:=by
 apply List.ext_getElem
 ·simp [soldL]
 ·intro i h1 h2;rw [soldL_get];simp [cntL]
theorem fromN_zero (n:Nat):∀ t k:Nat,k + t=n→fromN (List.replicate n (0:Int)) k=0
 |0,k,h=>fromN_end (by rw [List.length_replicate];omega)
 |t + 1,k,h=>by rw [fromN_step (by rw [List.length_replicate];omega),fromN_zero n t (k + 1) (by omega)];simp
theorem totL_from {n:Nat}:∀ {L:List Hold},(∀ h∈L,0≤h.cls∧h.cls<n)→fromN (soldL n L) 0=totL L
 |[],_=>by rw [soldL_nil,fromN_zero n n 0 (by omega)];rfl
 |h::L,hc=>by
  have h0:=hc h List.mem_cons_self
  have ih:=totL_from fun x hx=>hc x (List.mem_cons_of_mem _ hx)
  rw [←soldL_put (List.Perm.refl (h::L)) h0.1 h0.2,fromN_add (by rw [soldL_len];omega) n 0 (by rw [soldL_len];omega),if_pos (by omega),ih]
  show _=h.many + totL L
  omega
theorem cntL_nn {k:Int}:∀ {L:List Hold},(∀ h∈L,1≤h.many)→0≤cntL k L
 |[],_=>Int.le_refl _
 |h::L,hm=>by
  have ih:=cntL_nn (k:=k) fun x hx=>hm x (List.mem_cons_of_mem _ hx)
  have h1:=hm h List.mem_cons_self
  rw [cntL_cons]
  split<;>omega
theorem nest_le {lim a b:List Int} (h:nestOk lim a=true) (hl:b.length=a.length) (hb:∀ k,k<lim.length→0≤b.getD k 0∧b.getD k 0≤a.getD k 0):nestOk lim b=true:=by
 obtain ⟨h1,h2,h3⟩:=nestOk_iff.1 h
 refine nestOk_iff.2 ⟨h1,hl.trans h2,fun k hk=>⟨⟨(hb k hk).1,Int.le_trans (hb k hk).2 (h3 k hk).1.2⟩,?_⟩⟩
 refine Int.le_trans ?_ (h3 k hk).2
 have key:∀ t k:Nat,k + t=lim.length→fromN b k≤fromN a k:=by
  intro t
  induction t with
  |zero=>intro k hk;rw [fromN_end (by omega),fromN_end (by omega)];exact Int.le_refl _
  |succ t ih=>
   intro k hk
   rw [fromN_step (sold:=b) (by omega),fromN_step (sold:=a) (by omega)]
   have e1:=ih (k + 1) (by omega)
   have e2:=(hb k (by omega)).2
   rw [getD_lt (by omega),getD_lt (by omega)] at e2
   omega
 exact key (lim.length - k) k (by omega)
theorem nest_zero {lim:List Int} (h:limOk lim=true):nestOk lim (List.replicate lim.length 0)=true:=by
 refine nestOk_iff.2 ⟨h,by simp,fun k hk=>?_⟩
 rw [fromN_zero lim.length (lim.length - k) k (by omega),List.getD_eq_getElem?_getD]
 have:=(limOk_iff.1 h).2 k hk
 rw [getD_lt hk]
 simp [hk]
 omega
theorem fromN_ge {a:List Int} (h:∀ k,k<a.length→0≤a.getD k 0):∀ t k:Nat,k + t=a.length→0≤fromN a k
 |0,k,e=>by rw [fromN_end (by omega)];exact Int.le_refl _
 |t + 1,k,e=>by
  have h1:=fromN_ge h t (k + 1) (by omega)
  have h2:=h k (by omega)
  rw [getD_lt (by omega)] at h2
  rw [fromN_step (by omega)];omega
theorem nest_sell {lim sold:List Int} {c many:Int} (h:(sellT lim sold c many).2=0):
  (sellT lim sold c many).1=sold.set c.toNat (sold.getD c.toNat 0 + many)∧nestOk lim (sellT lim sold c many).1=true∧0≤c∧c<lim.length∧1≤many:=by
 unfold sellT at h ⊢
 split at h
 ·cases h
 split at h
 ·cases h
 rename_i h1 h2
 rw [if_neg h1,if_neg h2]
 have h3:(leftT lim sold c).2=0:=Classical.byContradiction fun e=>h1 (.inl e)
 obtain ⟨hn,hc0,hc1⟩:=left_ok h3
 have hl:(leftT lim sold c).1=mnF (roomF lim sold) (c.toNat + 1):=by unfold leftT;rw [if_pos ⟨hn,hc0,hc1⟩]
 rw [hl] at h2
 obtain ⟨i1,i2,i3⟩:=nestOk_iff.1 hn
 have hm:=mnF_is (roomF lim sold) (c.toNat + 1)
 suffices key:nestOk lim (sold.set c.toNat (sold.getD c.toNat 0 + many))=true from ⟨rfl,key,hc0,hc1,by omega⟩
 refine nestOk_iff.2 ⟨i1,by rw [List.length_set];exact i2,fun k hk=>?_⟩
 have hf:=fromN_add (sold:=sold) (c:=c.toNat) (m:=many) (by omega) (lim.length - k) k (by omega)
 have hk3:=i3 k hk
 have hle:fromN (sold.set c.toNat (sold.getD c.toNat 0 + many)) k≤lim.getD k 0:=by
  rw [hf]
  split
  ·have h5:mnF (roomF lim sold) (c.toNat + 1)≤lim.getD k 0 - fromN sold k:=hm.2.1 k (by omega) (by omega)
   omega
  ·omega
 refine ⟨?_,hle⟩
 have hnn:∀ j,j<(sold.set c.toNat (sold.getD c.toNat 0 + many)).length→0≤(sold.set c.toNat (sold.getD c.toNat 0 + many)).getD j 0:=fun j hj=>by
  rw [List.length_set] at hj
  rw [getD_lt (by rw [List.length_set];exact hj),List.getElem_set]
  have hj3:=i3 j (by omega)
  rw [getD_lt hj] at hj3
  split
  ·rename_i e
   have h9:=i3 c.toNat (by omega)
   omega
  ·omega
 have h0:=hnn k (by rw [List.length_set];omega)
 refine ⟨h0,?_⟩
 have hs:=fromN_step (sold:=sold.set c.toNat (sold.getD c.toNat 0 + many)) (k:=k) (by rw [List.length_set];omega)
 have hg:=fromN_ge hnn (lim.length - (k + 1)) (k + 1) (by rw [List.length_set];omega)
 have hlk:=((limOk_iff.1 i1).2 k hk).1.2
 rw [getD_lt (by rw [List.length_set];omega)]
 rw [getD_lt hk] at hle
 omega
variable {f:PF} {r:RF}
theorem mem_taken {L:List Hold} {x:Int}:x∈takenL L↔∃ h∈L,x∈h.seats:=List.mem_flatMap
theorem tie_take (t:Tie f r) (g:Good r) (o c m:Int):(takeF f o c m).2=(rtakeF r o c m).2∧Tie (takeF f o c m).1 (rtakeF r o c m).1∧Good (rtakeF r o c m).1:=by
 unfold takeF rtakeF
 rw [t.get g.rise,t.lims,t.sold]
 split
 ·exact ⟨rfl,t,g⟩
 rename_i ho
 split
 ·exact ⟨rfl,t,g⟩
 rename_i hn
 have hno:getO o r.L=none:=by cases e:getO o r.L with|none=>rfl|some x=>rw [e] at hn;simp at hn
 split
 ·rename_i hs
  obtain ⟨e1,e2,c0,c1,hm⟩:=nest_sell hs
  have hsold:(sellT r.lims r.sold c m).1=soldL r.lims.length (insH ⟨o,c,m,[]⟩ r.L):=by
   rw [e1];exact soldL_put (h:=⟨o,c,m,[]⟩) (insH_perm _ _) c0 c1
  refine ⟨rfl,⟨t.num,t.rows,t.grps,rfl,hsold,?_,?_,?_,t.nod⟩,⟨g.num,g.lay,?_,g.l0,insH_rise g.rise hno,?_,?_⟩⟩
  ·show ((f.hs++[(o,(⟨o,c,m,[]⟩:Hold))]).map (·.2)).Perm _
   rw [List.map_append]
   refine (List.perm_append_comm.trans ?_).trans (insH_perm _ _).symm
   exact t.hs.cons _
  ·intro e he
   rcases List.mem_append.1 he with he|he
   ·exact t.key e he
   ·rw [List.mem_singleton.1 he]
  ·intro n o'
   show getM n f.own=some o'↔_
   rw [t.own]
   constructor
   ·rintro ⟨h,hh,e,hs⟩;exact ⟨h,(insH_perm _ _).mem_iff.2 (List.mem_cons_of_mem _ hh),e,hs⟩
   ·rintro ⟨h,hh,e,hs⟩
    rcases List.mem_cons.1 ((insH_perm _ _).mem_iff.1 hh) with rfl|hh
    ·cases hs
    ·exact ⟨h,hh,e,hs⟩
  ·show nestOk r.lims (soldL r.lims.length (insH ⟨o,c,m,[]⟩ r.L))=true
   rw [←hsold];exact e2
  ·intro h hh
   rcases List.mem_cons.1 ((insH_perm _ _).mem_iff.1 hh) with rfl|hh
   ·exact ⟨by dsimp only;omega,⟨c0,c1⟩,hm,fun i j hj=>by simp at hj,by simp;omega,fun x hx=>by cases hx⟩
   ·exact g.each h hh
  ·show (insH ⟨o,c,m,[]⟩ r.L).Pairwise _
   refine ((insH_perm _ _).pairwise_iff fun {a b} h x hx hx'=>h x hx' hx).2 (List.pairwise_cons.2 ⟨fun y _ x hx=>(by cases hx),g.apart⟩)
 ·exact ⟨rfl,t,g⟩
theorem soldL_mid {n:Nat} {A C:List Hold} {h h':Hold} (e1:h'.cls=h.cls) (e2:h'.many=h.many):soldL n (A++h'::C)=soldL n (A++h::C):=by
 unfold soldL
 refine List.map_congr_left fun k _=>?_
 rw [cntL_app,cntL_app]
 simp only [cntL,e1,e2]
theorem apart_mid {A C:List Hold} {h:Hold} (g:(A++h::C).Pairwise fun a b=>∀ x∈a.seats,x ∉ b.seats):(∀ y∈A++C,∀ x∈h.seats,x ∉ y.seats)∧(A++C).Pairwise fun a b=>∀ x∈a.seats,x ∉ b.seats:=by
 have p:(A++h::C).Perm (h::(A++C)):=List.perm_middle
 have:=(p.pairwise_iff fun {a b} h x hx hx'=>h x hx' hx).1 g
 exact List.pairwise_cons.1 this
theorem mem_mid {A C:List Hold} {h y:Hold} (hy:y∈A++C):y∈A++h::C:=by
 rw [List.mem_append] at hy
 rw [List.mem_append,List.mem_cons]
 rcases hy with hy|hy
 ·exact .inl hy
 ·exact .inr (.inr hy)
theorem good_set {A C:List Hold} {h h':Hold} (g:Good r) (hL:r.L=A++h::C) (e1:h'.owner=h.owner) (e2:h'.cls=h.cls) (e3:h'.many=h.many) (hr:Rise h'.seats) (hf:(h'.seats.length:Int)≤h.many)
  (hs:∀ x∈h'.seats,x∈h.seats∨(x ∉ takenL r.L∧0≤x∧x<layN r.rows r.grps)):Good { r with L:=A++h'::C }:=by
 have hh:=g.each h (by rw [hL];simp)
 have hap:=g.apart
 rw [hL] at hap
 obtain ⟨a1,a2⟩:=apart_mid hap
 refine ⟨g.num,g.lay,?_,g.l0,?_,?_,?_⟩
 ·show nestOk r.lims (soldL r.lims.length (A++h'::C))=true
  rw [soldL_mid e2 e3,←hL];exact g.nest
 ·have:=g.rise;rw [hL] at this;exact owR_mid e1 this
 ·intro x hx
  show HoldOk r.lims.length (layN r.rows r.grps) x
  have hx:x∈A++h'::C:=hx
  rw [List.mem_append,List.mem_cons] at hx
  rcases hx with hx|rfl|hx
  ·exact g.each x (by rw [hL];simp [hx])
  ·exact ⟨by rw [e1];exact hh.owner,by rw [e2];exact hh.cls,by rw [e3];exact hh.many,hr,by rw [e3];exact hf,fun y hy=>by
    rcases hs y hy with hy|hy
    ·exact hh.seats y hy
    ·exact hy.2⟩
  ·exact g.each x (by rw [hL];simp [hx])
 ·show (A++h'::C).Pairwise _
  refine ((List.perm_middle (a:=h') (l₁:=A) (l₂:=C)).pairwise_iff fun {a b} h x hx hx'=>h x hx' hx).2 (List.pairwise_cons.2 ⟨fun y hy x hx=>?_,a2⟩)
  rcases hs x hx with hx|hx
  ·exact a1 y hy x hx
  ·exact fun hxy=>hx.1 (mem_taken.2 ⟨y,by rw [hL];exact mem_mid hy,hxy⟩)
theorem tie_set {A C:List Hold} {h h':Hold} {own':List (Int × Int)} (t:Tie f r) (g:Good r) (hL:r.L=A++h::C) (hA:getO h.owner A=none) (e1:h'.owner=h.owner) (e2:h'.cls=h.cls) (e3:h'.many=h.many)
  (hs:∀ x∈h'.seats,x∈h.seats∨x ∉ takenL r.L) (hn:(own'.map (·.1)).Nodup) (ho:∀ n,getM n own'=if n∈h'.seats then some h.owner else if n∈h.seats then none else getM n f.own):
  Tie { f with hs:=setM h.owner h' f.hs,own:=own' } { r with L:=A++h'::C }:=by
 have hap:=g.apart
 rw [hL] at hap
 obtain ⟨a1,a2⟩:=apart_mid hap
 have hg:getM h.owner f.hs=some h:=by rw [t.get g.rise,hL];exact getO_app rfl hA
 obtain ⟨a,c,hsp,hna⟩:=getM_split hg
 have hset:setM h.owner h' f.hs=a++(h.owner,h')::c:=by rw [hsp];exact setM_app hna (int_rfl _)
 refine ⟨t.num,t.rows,t.grps,t.lims,?_,?_,?_,?_,hn⟩
 ·show f.sold=soldL r.lims.length (A++h'::C)
  rw [soldL_mid e2 e3,←hL];exact t.sold
 ·show ((setM h.owner h' f.hs).map (·.2)).Perm (A++h'::C)
  have p:=t.hs
  rw [hsp,hL,List.map_append,List.map_cons] at p
  rw [hset,List.map_append,List.map_cons]
  have p2:=(List.perm_middle.symm.trans p).trans List.perm_middle
  exact (List.perm_middle.trans (p2.cons_inv.cons h')).trans List.perm_middle.symm
 ·show ∀ e∈setM h.owner h' f.hs,e.2.owner=e.1
  rw [hset]
  intro e he
  rw [List.mem_append,List.mem_cons] at he
  rcases he with he|rfl|he
  ·exact t.key e (by rw [hsp];simp [he])
  ·exact e1
  ·exact t.key e (by rw [hsp];simp [he])
 ·intro n o
  show getM n own'=some o↔∃ x∈A++h'::C,x.owner=o∧n∈x.seats
  rw [ho]
  constructor
  ·intro e
   split at e
   ·rename_i hn';cases e
    exact ⟨h',by simp,e1,hn'⟩
   ·split at e
    ·cases e
    ·rename_i h1 h2
     obtain ⟨x,hx,hxo,hxn⟩:=(t.own n o).1 e
     rw [hL,List.mem_append,List.mem_cons] at hx
     rcases hx with hx|rfl|hx
     ·exact ⟨x,by simp [hx],hxo,hxn⟩
     ·exact absurd hxn h2
     ·exact ⟨x,by simp [hx],hxo,hxn⟩
  ·rintro ⟨x,hx,hxo,hxn⟩
   rw [List.mem_append,List.mem_cons] at hx
   have other:x∈A++C→(if n∈h'.seats then some h.owner else if n∈h.seats then none else getM n f.own)=some o:=fun hx=>by
    have hxL:x∈r.L:=by rw [hL];exact mem_mid hx
    have n1:n ∉ h.seats:=fun hh=>a1 x hx n hh hxn
    have n2:n ∉ h'.seats:=fun hh=>by
     rcases hs n hh with hh|hh
     ·exact n1 hh
     ·exact hh (mem_taken.2 ⟨x,hxL,hxn⟩)
    rw [if_neg n2,if_neg n1]
    exact (t.own n o).2 ⟨x,hxL,hxo,hxn⟩
   rcases hx with hx|rfl|hx
   ·exact other (by simp [hx])
   ·rw [if_pos hxn,←hxo,e1]
   ·exact other (by simp [hx])
end Go.Proofs.YtlplemdmegpoeaaGreatDoor
/- A flight, plain: Auto; its state. Condition: none. -/
namespace Go.Proofs.YtlplemdmegpoeaaGreatDoor
set_option linter.unusedVariables false
set_option linter.unusedSimpArgs false
open Go Go.VC
variable {f:PF} {r:RF}
theorem Good.tot (g:Good r):totL r.L≤layN r.rows r.grps:=by
 rw [←totL_from (n:=r.lims.length) fun h hh=>(g.each h hh).cls,←g.l0]
 have hl:=(limOk_iff.1 (nestOk_iff.1 g.nest).1).1.1
 exact ((nestOk_iff.1 g.nest).2.2 0 (by omega)).2
theorem len_tot:∀ {L:List Hold},(∀ h∈L,1≤h.many)→(L.length:Int)≤totL L∧∀ h∈L,h.many≤totL L
 |[],_=>⟨Int.le_refl _,by simp⟩
 |h::L,hm=>by
  obtain ⟨i1,i2⟩:=len_tot fun x hx=>hm x (List.mem_cons_of_mem _ hx)
  have h1:=hm h List.mem_cons_self
  have e:totL (h::L)=h.many + totL L:=rfl
  rw [e,List.length_cons]
  refine ⟨by omega,fun x hx=>?_⟩
  rcases List.mem_cons.1 hx with rfl|hx
  ·omega
  ·have:=i2 x hx;omega
theorem Good.len (g:Good r):(r.L.length:Int)≤600∧∀ h∈r.L,h.many≤600:=by
 obtain ⟨h1,h2⟩:=len_tot fun h hh=>(g.each h hh).many
 have h3:=g.tot
 have h4:=(layN_bd r.rows r.grps).2
 exact ⟨by omega,fun h hh=>by have:=h2 h hh;omega⟩
theorem tie_keys (t:Tie f r) (g:OwR r.L):(f.hs.map (·.1)).Perm (r.L.map Hold.owner):=by
 have e:f.hs.map (·.1)=(f.hs.map (·.2)).map Hold.owner:=by
  rw [List.map_map]
  exact List.map_congr_left fun e he=>(t.key e he).symm
 rw [e]
 exact t.hs.map _
theorem tie_sort (t:Tie f r) (g:OwR r.L):sortI (f.hs.map (·.1))=r.L.map Hold.owner:=by
 rw [sortI_perm (tie_keys t g)]
 unfold sortI
 refine List.mergeSort_of_pairwise ?_
 rw [List.pairwise_map]
 exact g.imp fun h=>by simp only [decide_eq_true_eq];omega
theorem tie_holds (t:Tie f r) (g:OwR r.L):holdsF f=r.L:=by
 unfold holdsF
 rw [tie_sort t g,List.map_map]
 have key:∀ h∈r.L,(holdOf f ∘ Hold.owner) h=h:=fun h hh=>by
  show (getM h.owner f.hs).getD hold0=h
  rw [t.get g,(getO_iff g.ne).2 ⟨hh,rfl⟩];rfl
 rw [List.map_congr_left key,List.map_id']
theorem tie_left (t:Tie f r):leftsF f=rleftsF r:=by
 unfold leftsF rleftsF
 rw [t.lims,t.sold]
theorem Tie.nodK (t:Tie f r) (g:OwR r.L):(f.hs.map (·.1)).Nodup:=by
 refine ((tie_keys t g).nodup_iff).2 ?_
 rw [List.nodup_iff_pairwise_ne,List.pairwise_map]
 exact g.ne
theorem Tie.mem (t:Tie f r) {e:Int × Hold} (he:e∈f.hs):e.2∈r.L:=t.hs.mem_iff.1 (List.mem_map.2 ⟨e,he,rfl⟩)
theorem Tie.ownIn (t:Tie f r) (g:Good r):∀ k∈f.own.map (·.1),0≤k∧k<layN r.rows r.grps:=fun k hk=>by
 obtain ⟨o,ho⟩:=Option.isSome_iff_exists.1 (getM_mem.2 hk)
 obtain ⟨h,hh,_,hs⟩:=(t.own k o).1 ho
 exact (g.each h hh).seats k hs
theorem nodup_bd:∀ (N:Nat) {l:List Int},l.Nodup→(∀ x∈l,0≤x∧x<N)→l.length≤N
 |0,[],_,_=>Nat.le_refl _
 |0,x::l,_,hb=>by have:=hb x List.mem_cons_self;omega
 |N + 1,l,h,hb=>by
  by_cases hm:(N:Int)∈l
  ·have h1:=nodup_bd N (h.erase (N:Int)) fun x hx=>by
    have h2:=(h.mem_erase_iff).1 hx
    have:=hb x h2.2
    have:=h2.1
    omega
   rw [List.length_erase_of_mem hm] at h1
   omega
  ·have h1:=nodup_bd N h fun x hx=>by
    have:=hb x hx
    have:x≠N:=fun e=>hm (by rw [←e];exact hx)
    omega
   omega
theorem Tie.bounds (t:Tie f r) (g:Good r):f.hs.length≤600∧f.own.length≤600∧f.lims.length≤8∧f.sold.length≤8∧f.grps.length≤4∧(∀ e∈f.hs,Rise e.2.seats∧e.2.seats.length≤600)∧(∀ k∈f.hs.map (·.1),1≤k∧k≤28629151):=by
 have hl:=g.len
 have h1:=t.hs.length_eq
 rw [List.length_map] at h1
 have h2:=nodup_bd (layN r.rows r.grps).toNat t.nod fun x hx=>by have:=t.ownIn g x hx;omega
 rw [List.length_map] at h2
 have h3:=layN_bd r.rows r.grps
 have h4:=(limOk_iff.1 (nestOk_iff.1 g.nest).1).1.2
 have h5:=(layOk_iff.1 g.lay).1
 refine ⟨by omega,by omega,by rw [t.lims];exact h4,by rw [t.sold];show (soldL _ _).length≤8;rw [soldL_len];exact h4,by rw [t.grps];omega,fun e he=>?_,fun k hk=>?_⟩
 ·have hh:=g.each _ (t.mem he)
  have:=hl.2 _ (t.mem he)
  exact ⟨hh.rise,by have:=hh.few;omega⟩
 ·obtain ⟨e,he,rfl⟩:=List.mem_map.1 hk
  have hh:=g.each _ (t.mem he)
  have:=hh.owner
  rw [t.key e he] at this;exact this
def rnewF (num rows:Int) (grps lims:List Int):RF:=⟨num,rows,grps,lims,[]⟩
theorem tie_new {num rows:Int} {grps lims:List Int}:Tie (emptyF num rows grps lims) (rnewF num rows grps lims):=by
 refine ⟨rfl,rfl,rfl,rfl,?_,List.Perm.refl _,fun e he=>(by cases he),fun n o=>?_,List.nodup_nil⟩
 ·show List.replicate _ 0=soldL _ []
  rw [soldL_nil];rfl
 ·constructor
  ·intro h;cases h
  ·rintro ⟨h,hh,_⟩;cases hh
end Go.Proofs.YtlplemdmegpoeaaGreatDoor
/- Reference 15: New, Take, Give, Seat, Unseat, Auto. Condition: bounds. -/
namespace Go.Proofs.YtlplemdmegpoeaaGreatDoor
set_option linter.unusedVariables false
set_option linter.unusedSimpArgs false
open Go Go.VC
variable {R R':Cx} {Hs Rest:List HP} {w:World}
section
variable {γ:Type} (f:Hold × Sl→γ)
theorem zipm_ins (h:Hold) (t:Sl):∀ (k:Nat) (L:List Hold) (ts:List Sl),ts.length=L.length→k≤L.length→((L.take k++h::L.drop k).zip (ts.take k++t::ts.drop k)).map f=((L.zip ts).map f).take k++f (h,t)::((L.zip ts).map f).drop k
 |0,L,ts,_,_=>by simp
 |k + 1,[],ts,_,hk=>by simp at hk
 |k + 1,x::L,[],hl,_=>by simp at hl
 |k + 1,x::L,y::ts,hl,hk=>by
  have ih:=zipm_ins h t k L ts (by simpa using hl) (by simpa using hk)
  simp only [List.take_succ_cons,List.drop_succ_cons,List.cons_append,List.zip_cons_cons,List.map_cons,ih]
end
theorem SeatsAt.ins {L:List Hold} {ts:List Sl} {k:Nat} {h:Hold} {t:Sl} (hl:ts.length=L.length) (hk:k≤L.length) (hw:Sat R (Reads t (intsI h.seats)::SeatsAt L ts::Hs) w):Sat R (SeatsAt (L.take k++h::L.drop k) (ts.take k++t::ts.drop k)::Hs) w:=by
 refine Sat.star.2 ?_
 rw [show seatsH (L.take k++h::L.drop k) (ts.take k++t::ts.drop k)=(seatsH L ts).take k++Reads t (intsI h.seats)::(seatsH L ts).drop k from zipm_ins (fun x=>Reads x.2 (intsI x.1.seats)) h t k L ts hl hk]
 have hw:Sat R (Reads t (intsI h.seats)::(seatsH L ts++Hs)) w:=hw.cons fun _ h=>Sat.star.1 h
 refine hw.perm ?_
 rw [List.append_assoc,List.cons_append]
 refine (List.Perm.trans ?_ List.perm_middle.symm)
 rw [←List.append_assoc,List.take_append_drop]
end Go.Proofs.YtlplemdmegpoeaaGreatDoor
/- A flight: Encode. Condition: bounds on lengths. -/
namespace Go.Proofs.YtlplemdmegpoeaaGreatDoor
set_option linter.unusedVariables false
set_option linter.unusedSimpArgs false
open Go Go.VC
variable {R:Cx} {Hs Rest:List HP} {w:World}
theorem HsR.row {s:Sl} {L:List Hold} {ts:List Sl} {S:World→Prop} {k:Nat} (hr:HsR R s L ts) (hS:∀ w,S w→Sat R Hs w) (hk:k<L.length) (hk':k<ts.length) {F:Addr→Prop}
  (f:∀ a:Addr,At S (Addr.add a (mulS k 4)) (rowH L[k] ts[k])→F a):Rng (k:Int) s.len (NilP s.a F):=by
 have hl:=rowsH_len hr.len
 refine (hr.rows.reads hS).rng (k:=k) (by omega) fun b off ha hat=>f _ ?_
 rw [elt_addr0]
 refine hat 0 _ ?_
 rw [rowsH_at hk hk']
 exact ⟨rfl,rfl,rfl,rfl,trivial⟩
def encF (f:PF):List Int:=encB f.num f.rows f.grps f.lims (holdsF f)
theorem holdsF_len (f:PF):(holdsF f).length=f.hs.length:=by unfold holdsF sortI;rw [List.length_map,List.length_mergeSort,List.length_map]
structure FSmall (f:PF):Prop where
 num:0≤f.num∧f.num<9223372036854775808
 rows:0≤f.rows∧f.rows<9223372036854775808
 grps:small f.grps
 lims:small f.lims
 gl:f.grps.length≤1000
 ll:f.lims.length≤1000
 hs:∀ h∈holdsF f,HSmall h
 hl:f.hs.length≤10000
theorem encode_fspec {p:Nat} {f:PF} (sm:FSmall f) (hu:(f.hs.map (·.1)).Nodup) (hn:∀ k∈f.hs.map (·.1),-1000000000≤k∧k≤1000000000) (hR:∀ e∈f.hs,e.2.seats.length≤1000000) (hw:Sat R (FlightAt p f::Hs) w):
  Gets Tryz.prog 64 #[.pointer (some ⟨p,0,none⟩)] w fun v w'=>∃ t:Sl,v=.slice t.a t.len t.cap∧Sat R (Own t 5 (b8 (encF f))::FlightAt p f::Hs) w':=by
 obtain ⟨hm,om,sg,sl,ss,E,R',hE,ee,rg,rl,_,hw,back⟩:=Sat.flightO hw
 have rgo:RoI R' sg f.grps:=rg.ro (by rw [List.length_map];have:=sm.gl;omega)
 have rlo:RoI R' sl f.lims:=rl.ro (by rw [List.length_map];have:=sm.ll;omega)
 have hel:(hPtrs E).length=f.hs.length:=by rw [←hE];simp [hPtrs,hEr]
 apply call64
 suffices H:∀ K:Value→World→Prop,(∀ (t:Sl) w',Sat R (Own t 5 (b8 (encF f))::FlightAt p f::Hs) w'→K (.slice t.a t.len t.cap) w')→B64 (some ⟨p,0,none⟩) K w from
  H _ fun t w' h=>⟨t,rfl,h⟩
 intro K hK
 refine new_rule hw fun pb w hw=>new_rule hw fun bp w hw=>?_
 have hw:Sat R' (pts bp (.cells [.nilFunc].toArray 113 (0,0))::lp pb ⟨none,0,0⟩::FO p hm om sg sl ss E f Hs) w:=hw
 refine store_rule hw (by kernel_rfl) rfl (by simp [Value.cells]) fun w hw=>?_
 have hw:Sat R' (putC bp pb::lp pb ⟨none,0,0⟩::FO p hm om sg sl ss E f Hs) w:=hw
 have hw:Sat R' (OutB pb []::putC bp pb::FO p hm om sg sl ss E f Hs) w:=Sat.outB.2 ⟨⟨none,0,0⟩,hw.swap.cons fun _ h=>Own.nil h⟩
 have l2:(numsB [f.num,f.rows]).length≤18:=numsB_len (by intro y hy;have:=sm.num;have:=sm.rows;simp at hy;omega)
 have lg:=listB_len sm.grps (by have:=sm.gl;omega)
 have ll:=listB_len sm.lims (by have:=sm.ll;omega)
 have l1:(numsB [(f.hs.length:Int)]).length≤9:=numsB_len (by intro y hy;have:=sm.hl;simp at hy;omega)
 have:=sm.gl
 have:=sm.ll
 have:=sm.hl
 refine drw_rule' (Sat R' [putC bp pb,pts p (fCells f sg sl ss hm om),VC.tru]) hw (fun w hw=>?_) fun w hw=>?_
 ·have hw:Sat R' (putC bp pb::pts p (fCells f sg sl ss hm om)::OutB pb []::MapAt hm (hPtrs E)::MapAt om (oVals f.own)::HoldsAt E::Hs) w:=hw.arr
  exact hw.cons fun _ h=>h.restTru2
 refine ⟨putV pb,At.own selfS (by exact ⟨rfl,trivial⟩),NilP.mk rfl ⟨f.num,by rw [add_off];exact At.own selfS (by exact ⟨rfl,trivial⟩),NilP.mk rfl ⟨f.rows,At.own selfS (by exact ⟨rfl,trivial⟩),?_⟩⟩⟩
 refine new_rule hw fun bn w hw=>⟨?_,?_⟩
 ·have hw:Sat R' (putC bp pb::pts p (fCells f sg sl ss hm om)::OutB pb []::MapAt hm (hPtrs E)::MapAt om (oVals f.own)::HoldsAt E::Hs) w:=hw.drop.arr
  exact hw.cons fun _ h=>h.restTru2
 have hw:Sat R' (pts bn (.cells ([f.num,f.rows].map (Value.int .i64)).toArray 3 (0,0))::OutB pb []::putC bp pb::FO p hm om sg sl ss E f Hs) w:=hw
 refine (put_few (n:=2) (by rfl) (by intro y hy;have:=sm.num;have:=sm.rows;simp at hy;omega) (by simp) hw).mono ?_
 rintro _ w ⟨rfl,hw⟩
 rw [List.nil_append] at hw
 refine ⟨rfl,?_,?_⟩
 ·have hw:Sat R' (putC bp pb::pts p (fCells f sg sl ss hm om)::OutB pb (numsB [f.num,f.rows])::MapAt hm (hPtrs E)::MapAt om (oVals f.own)::HoldsAt E::Hs) w:=hw.arr
  exact hw.cons fun _ h=>h.restTru2
 refine NilP.mk rfl ⟨sg,At.own (eqS hw) (by exact ⟨rfl,trivial⟩),?_⟩
 refine (elist_spec sm.grps (by omega) rgo hw.swap).use ?_
 rintro _ w ⟨rfl,hw⟩
 refine ⟨rfl,NilP.mk rfl ⟨sl,At.own (eqS hw) (by exact ⟨rfl,trivial⟩),?_⟩⟩
 refine (elist_spec sm.lims (by rw [List.length_append];omega) rlo hw).use ?_
 rintro _ w ⟨rfl,hw⟩
 refine ⟨rfl,?_⟩
 have hb1:(numsB [f.num,f.rows]++listB f.grps++listB f.lims).length≤20000:=by rw [List.length_append,List.length_append];omega
 have hfin:numsB [f.num,f.rows]++listB f.grps++listB f.lims++numsB [(f.hs.length:Int)]++holdsB (holdsF f)=encF f:=by
  unfold encF encB;rw [holdsF_len]
 generalize hpre:numsB [f.num,f.rows]++listB f.grps++listB f.lims=pre at *
 refine drw_rule' (Sat R' [putC bp pb,pts p (fCells f sg sl ss hm om),MapAt hm (hPtrs E),VC.tru]) hw (fun w hw=>?_) fun w hw=>?_
 ·have hw:Sat R' (putC bp pb::pts p (fCells f sg sl ss hm om)::MapAt hm (hPtrs E)::OutB pb pre::MapAt om (oVals f.own)::HoldsAt E::Hs) w:=hw.arr
  exact hw.cons fun _ h=>h.cons fun _ h=>h.restTru2
 refine ⟨putV pb,At.own selfS (by exact ⟨rfl,trivial⟩),NilP.mk rfl ⟨some hm,At.own selfS (by exact ⟨rfl,trivial⟩),f.hs.length,fun w' h=>?_,?_⟩⟩
 ·rw [←hel]
  exact MapAt.len (by kernel_rfl) (h.take (MapAt hm (hPtrs E)))
 refine new_rule hw fun bn w hw=>⟨?_,?_⟩
 ·have hw:Sat R' (putC bp pb::pts p (fCells f sg sl ss hm om)::MapAt hm (hPtrs E)::OutB pb pre::MapAt om (oVals f.own)::HoldsAt E::Hs) w:=hw.drop.arr
  exact hw.cons fun _ h=>h.cons fun _ h=>h.restTru2
 have hw:Sat R' (pts bn (.cells ([(f.hs.length:Int)].map (Value.int .i64)).toArray 3 (0,0))::OutB pb pre::putC bp pb::FO p hm om sg sl ss E f Hs) w:=hw.cons fun _ h=>h.swap
 refine (put_few (n:=1) (by rfl) (by intro y hy;simp at hy;omega) (by simp;omega) hw).mono ?_
 rintro _ w ⟨rfl,hw⟩
 refine ⟨rfl,?_,?_⟩
 ·have hw:Sat R' (putC bp pb::pts p (fCells f sg sl ss hm om)::MapAt hm (hPtrs E)::OutB pb (pre++numsB [(f.hs.length:Int)])::MapAt om (oVals f.own)::HoldsAt E::Hs) w:=hw.arr
  exact hw.cons fun _ h=>h.cons fun _ h=>h.restTru2
 have hw:Sat R' (FO p hm om sg sl ss E f (OutB pb (pre++numsB [(f.hs.length:Int)])::putC bp pb::Hs)) w:=hw.arr
 have hw:=Sat.flightC hE (back _ _ hw)
 refine (holds_fspec hu hn (by omega) hR hw).use ?_
 rintro _ w ⟨t,rfl,hw⟩
 refine ⟨t,rfl,?_⟩
 have hb2:(pre++numsB [(f.hs.length:Int)]).length≤20010:=by rw [List.length_append];omega
 generalize pre++numsB [(f.hs.length:Int)]=pre2 at *
 have hLl:=holdsF_len f
 have hHs:=sm.hs
 generalize holdsF f=L at *
 obtain ⟨R2,ts,e2,hr,hw⟩:=HoldsL.leak hw
 have htl:=hr.len
 have hrl:=hr.rows.len
 rw [rowsH_len htl] at hrl
 refine ⟨fun i w=>∃ j:Nat,i=j∧j≤L.length∧Sat R2 (OutB pb (pre2++holdsB (L.take j))::putC bp pb::FlightAt p f::Hs) w,fun i _=>L.length - i.toNat,⟨0,rfl,by omega,?_⟩,?_⟩
 ·rw [show pre2++holdsB (L.take 0)=pre2 by simp [holdsB]]
  exact hw.arr
 clear hw
 rintro _ _ w ⟨j,rfl,hj,hw⟩
 refine Br.d (fun h=>?_) (fun h=>?_)
 ·have hj2:j<L.length:=by omega
  have hj3:j<ts.length:=by omega
  have hsm:=hHs L[j] (List.getElem_mem _)
  have hhl:(holdsB (L.take j)).length≤9036 * 10000:=by
   have:=holdsB_len (L:=L.take j) fun x hx=>hHs x (List.mem_of_mem_take hx)
   rw [List.length_take] at this
   have:min j L.length≤10000:=by omega
   omega
  have h3:(numsB [L[j].owner,L[j].cls,L[j].many]).length≤27:=numsB_len (small_u hsm.three)
  have hsn:=hsm.n
  refine hr.row (eqS hw) hj2 hj3 fun a ha=>⟨L[j].owner,L[j].cls,L[j].many,ts[j],ha,?_⟩
  refine new_rule hw fun bh w hw=>?_
  have hw:Sat R2 (pts bh (hCells ⟨0,0,0,[]⟩ ⟨none,0,0⟩)::OutB pb (pre2++holdsB (L.take j))::putC bp pb::FlightAt p f::Hs) w:=hw
  refine store_rule hw (by kernel_rfl) rfl (by simp [Value.cells]) fun w hw=>?_
  have hw:=hw.re (pts bh (hCells L[j] ts[j]))
  refine ⟨putV pb,At.own (eqS hw) (by exact ⟨rfl,trivial⟩),L[j].owner,At.own (eqS hw) (by exact ⟨rfl,trivial⟩),L[j].cls,At.own (eqS hw) (by exact ⟨rfl,trivial⟩),L[j].many,At.own (eqS hw) (by exact ⟨rfl,trivial⟩),?_⟩
  refine new_rule hw fun bn w hw=>?_
  have hw:Sat R2 (pts bn (.cells ([L[j].owner,L[j].cls,L[j].many].map (Value.int .i64)).toArray 3 (0,0))::OutB pb (pre2++holdsB (L.take j))::putC bp pb::pts bh (hCells L[j] ts[j])::FlightAt p f::Hs) w:=hw.cons fun _ h=>h.arr
  refine (put_few (n:=3) (by rfl) hsm.three (by rw [List.length_append];simp;omega) hw).mono ?_
  rintro _ w ⟨rfl,hw⟩
  refine ⟨rfl,ts[j],At.own (eqS hw) (by exact ⟨rfl,trivial⟩),?_⟩
  refine (elist_spec hsm.s (by rw [List.length_append,List.length_append];omega) ((hr.seats j hj2 hj3).ro (by rw [List.length_map];omega)) hw.swap).use ?_
  rintro _ w ⟨rfl,hw⟩
  refine ⟨rfl,?_⟩
  rw [wrap64 (by omega) (by omega)]
  refine ⟨⟨j + 1,by omega,by omega,?_⟩,by dsimp only;omega⟩
  rw [holdsB_take hj2,←List.append_assoc]
  unfold holdB
  rw [←List.append_assoc]
  have hw:Sat R2 (pts bh (hCells L[j] ts[j])::OutB pb (pre2++holdsB (L.take j)++numsB [L[j].owner,L[j].cls,L[j].many]++listB L[j].seats)::putC bp pb::FlightAt p f::Hs) w:=hw.arr
  exact hw.drop
 ·rw [List.take_of_length_le (by omega),hfin] at hw
  have hw:=e2.back hw
  obtain ⟨s0,hw⟩:=Sat.outB.1 hw
  refine ⟨s0,At.own (eqS hw) (by exact ⟨rfl,trivial⟩),hK s0 w ?_⟩
  have hw:Sat R (putC bp pb::lp pb s0::Own s0 5 (b8 (encF f))::FlightAt p f::Hs) w:=hw.arr
  exact hw.drop.drop
end Go.Proofs.YtlplemdmegpoeaaGreatDoor
/- A flight out of bytes: reading numbers and lists; a hold put in again. Condition: bounds on lengths. -/
namespace Go.Proofs.YtlplemdmegpoeaaGreatDoor
set_option linter.unusedVariables false
set_option linter.unusedSimpArgs false
open Go Go.VC
variable {R:Cx} {Hs Rest:List HP} {w:World}
def nMany:Nat→Int→Rd→List Int × Rd
 |0,_,r=>([],r)
 |k + 1,most,r=>((rdNum most r).1::(nMany k most (rdNum most r).2).1,(nMany k most (rdNum most r).2).2)
theorem nMany_snoc:∀ (k:Nat) (most:Int) (r:Rd),nMany (k + 1) most r=((nMany k most r).1++[(rdNum most (nMany k most r).2).1],(rdNum most (nMany k most r).2).2)
 |0,_,_=>rfl
 |k + 1,most,r=>by
  have:=nMany_snoc k most (rdNum most r).2
  show ((rdNum most r).1::(nMany (k + 1) most (rdNum most r).2).1,(nMany (k + 1) most (rdNum most r).2).2)=_
  rw [this];rfl
theorem nMany_len:∀ (k:Nat) (most:Int) (r:Rd),(nMany k most r).1.length=k
 |0,_,_=>rfl
 |k + 1,most,r=>by show (_::(nMany k most (rdNum most r).2).1).length=_;rw [List.length_cons,nMany_len k]
theorem nMany_bd:∀ (k:Nat) (most:Int) {r:Rd},(∀ x∈r.bs,0≤x∧x<256)→∀ x∈(nMany k most r).2.bs,0≤x∧x<256
 |0,_,_,h=>h
 |k + 1,most,_,h=>nMany_bd k most (rdNum_bd h)
theorem nMany_val:∀ (k:Nat) {most:Int} {r:Rd},0≤most→(∀ x∈r.bs,0≤x∧x<256)→∀ x∈(nMany k most r).1,0≤x∧x≤most
 |0,_,_,_,_=>by simp [nMany]
 |k + 1,most,r,hm,h=>fun x hx=>by
  rcases List.mem_cons.1 hx with rfl|hx
  ·exact rdNum_val h hm
  ·exact nMany_val k hm (rdNum_bd h) x hx
def nList (most each:Int) (r:Rd):List Int × Rd:=nMany (rdNum most r).1.toNat each (rdNum most r).2
theorem nList_bd {most each:Int} {r:Rd} (h:∀ x∈r.bs,0≤x∧x<256):∀ x∈(nList most each r).2.bs,0≤x∧x<256:=nMany_bd _ _ (rdNum_bd h)
theorem nList_val {most each:Int} {r:Rd} (h:∀ x∈r.bs,0≤x∧x<256) (hm:0≤most) (he:0≤each):(∀ x∈(nList most each r).1,0≤x∧x≤each)∧((nList most each r).1.length:Int)≤most:=by
 refine ⟨nMany_val _ he (rdNum_bd h),?_⟩
 unfold nList
 rw [nMany_len]
 have:=rdNum_val h hm
 omega
theorem dnum_spec {br r:Nat} {rd:Rd} {most:Int} (h0:0≤most) (h1:most<9223372036854775808) (hb:∀ x∈rd.bs,0≤x∧x<256) (hw:Sat R (pts br (brCell r)::RdAt r rd::Hs) w):
  Gets Tryz.prog 224 #[.int .i64 most,.pointer (some ⟨br,0,none⟩)] w fun v w'=>v=.int .i64 (rdNum most rd).1∧Sat R (pts br (brCell r)::RdAt r (rdNum most rd).2::Hs) w':=by
 have hv:=rdNum_val (most:=most) hb h0
 apply call224
 refine NilP.mk rfl ⟨some ⟨r,0,none⟩,At.own (eqS hw) (by exact ⟨rfl,trivial⟩),?_⟩
 rw [wrapU64 (by omega) (by omega)]
 refine (rnum_spec (most:=most) hb hw.swap).use ?_
 rintro _ w ⟨rfl,hw⟩
 refine ⟨_,rfl,?_,hw.swap⟩
 rw [wrap64 (by omega) (by omega)]
abbrev numV (br:Nat):Value:=.func (.func 224) #[] #[.pointer (some ⟨br,0,none⟩)]
abbrev numC (bn br:Nat):HP:=pts bn (.cells [numV br].toArray 103 (0,0))
theorem cnum_spec {br r:Nat} {rd:Rd} {most:Int} (h0:0≤most) (h1:most<9223372036854775808) (hb:∀ x∈rd.bs,0≤x∧x<256) (hw:Sat R (pts br (brCell r)::RdAt r rd::Hs) w):
  CalW Tryz.prog cl (numV br) [.int .i64 most] w fun e w'=>e=.returned (.int .i64 (rdNum most rd).1)∧Sat R (pts br (brCell r)::RdAt r (rdNum most rd).2::Hs) w':=
 CalW.mk (by kernel_rfl) ((dnum_spec h0 h1 hb hw).use fun v w' h=>⟨by rw [h.1],h.2⟩)
theorem dlist_spec {bn br r:Nat} {rd:Rd} {most each:Int} (h0:0≤most) (h1:most<1000000) (h2:0≤each) (h3:each<9223372036854775808) (hb:∀ x∈rd.bs,0≤x∧x<256) (hw:Sat R (numC bn br::pts br (brCell r)::RdAt r rd::Hs) w):
  Gets Tryz.prog 225 #[.int .i64 most,.int .i64 each,.pointer (some ⟨bn,0,none⟩)] w fun v w'=>∃ t:Sl,v=.slice t.a t.len t.cap∧Sat R (Own t 3 (intsI (nList most each rd).1)::numC bn br::pts br (brCell r)::RdAt r (nList most each rd).2::Hs) w':=by
 apply call225
 refine NilP.mk rfl ⟨numV br,At.own (eqS hw) (by exact ⟨rfl,trivial⟩),?_⟩
 refine (cnum_spec h0 (by omega) hb (hw.take (pts br (brCell r))|>fun h=>h.arr (Hs':=pts br (brCell r)::RdAt r rd::numC bn br::Hs))).mono ?_
 clear hw
 rintro _ w ⟨rfl,hw⟩
 refine ⟨_,rfl,?_⟩
 have hv:=rdNum_val (most:=most) hb h0
 have hb1:=rdNum_bd (most:=most) hb
 obtain ⟨n,hn⟩:=Int.eq_ofNat_of_zero_le hv.1
 have hrl:nList most each rd=nMany n each (rdNum most rd).2:=by unfold nList;rw [hn];rfl
 rw [hrl,hn]
 rw [hn] at hv
 generalize (rdNum most rd).2=rd1 at *
 refine ⟨fun out i w=>∃ k:Nat,i=k∧k≤n∧Sat R (Own out 3 (intsI (nMany k each rd1).1)::pts br (brCell r)::RdAt r (nMany k each rd1).2::numC bn br::Hs) w,fun _ i _=>n - i.toNat,⟨0,rfl,by omega,Own.nil hw⟩,?_⟩
 clear hw
 rintro _ out _ w ⟨k,rfl,hk,hw⟩
 refine Br.d (fun h=>?_) (fun h=>?_)
 ·refine NilP.mk rfl ⟨numV br,At.own (eqS hw) (by exact ⟨rfl,trivial⟩),?_⟩
  have hbk:=nMany_bd k each hb1
  have hw:Sat R (pts br (brCell r)::RdAt r (nMany k each rd1).2::Own out 3 (intsI (nMany k each rd1).1)::numC bn br::Hs) w:=hw.arr
  refine (cnum_spec h2 h3 hbk hw).mono ?_
  rintro _ w ⟨rfl,hw⟩
  refine ⟨_,rfl,?_⟩
  have hml:=nMany_len k each rd1
  have hw:Sat R (Own out 3 (intsI (nMany k each rd1).1)::pts br (brCell r)::RdAt r (rdNum each (nMany k each rd1).2).2::numC bn br::Hs) w:=hw.arr
  refine pushI_rule elI8 hw (by omega) fun s' w hw=>?_
  rw [wrap64 (by omega) (by omega)]
  refine ⟨⟨k + 1,by omega,by omega,?_⟩,by dsimp only;omega⟩
  rw [nMany_snoc]
  exact hw
 ·have:k=n:=by omega
  subst this
  exact ⟨out,rfl,hw.arr⟩
def tellF (f:PF) (o n:Int):PF:=
 match getM o f.hs with
 |none=>f
 |some h=>{ f with hs:=setM o (h.put n) f.hs,own:=putM n h.owner f.own }
def resGo (o N:Int):List Int→Int→PF→PF × Bool
 |[],_,f=>(f,true)
 |n::l,last,f=>if (getM n f.own).isSome then (f,false) else if n≤last then (f,false) else if n ≥ N then (f,false) else resGo o N l n (tellF f o n)
theorem resGo_cons (o N n last:Int) (l:List Int) (f:PF):resGo o N (n::l) last f=if (getM n f.own).isSome then (f,false) else if n≤last then (f,false) else if n ≥ N then (f,false) else resGo o N l n (tellF f o n):=rfl
def restoreF (f:PF) (h:Hold):PF × Bool:=
 if (takeF f h.owner h.cls h.many).2≠0 then ((takeF f h.owner h.cls h.many).1,false)
 else if (h.seats.length:Int)>h.many then ((takeF f h.owner h.cls h.many).1,false)
 else resGo h.owner (layN f.rows f.grps) h.seats (-1) (takeF f h.owner h.cls h.many).1
theorem takeF_same (f:PF) (o c m:Int):(takeF f o c m).1.rows=f.rows∧(takeF f o c m).1.grps=f.grps:=by
 unfold takeF
 split
 ·exact ⟨rfl,rfl⟩
 ·split
  ·exact ⟨rfl,rfl⟩
  ·split<;>exact ⟨rfl,rfl⟩
theorem takeF_has {f:PF} {o c m:Int} (h:(takeF f o c m).2=0):getM o (takeF f o c m).1.hs=some ⟨o,c,m,[]⟩:=by
 unfold takeF at h ⊢
 split at h
 ·cases h
 rename_i h1
 split at h
 ·cases h
 rename_i h2
 rw [if_neg h1,if_neg h2]
 split at h
 ·rename_i h3
  rw [if_pos h3]
  show getM o (f.hs++_)=_
  rw [getM_app2,if_neg (fun hm=>h2 (getM_mem.2 hm)),getM_cons,if_pos rfl]
 ·rename_i h3;exact absurd h h3
theorem restore_fspec {p:Nat} {f:PF} {h:Hold} {s:Sl} (hll:f.lims.length≤1000) (hls:f.sold.length≤1000) (hgl:f.grps.length≤1000) (hs:RoI R s h.seats) (hsl:h.seats.length≤1000000) (hw:Sat R (FlightAt p f::Hs) w):
  Gets Tryz.prog 227 #[.pointer (some ⟨p,0,none⟩),.agg #[.int .i64 h.owner,.int .i64 h.cls,.int .i64 h.many,.slice s.a s.len s.cap]] w fun v w'=>v=.bool (restoreF f h).2∧Sat R (FlightAt p (restoreF f h).1::Hs) w':=by
 have hslen:=hs.len
 apply call227
 suffices H:∀ K:Value→World→Prop,(∀ w',Sat R (FlightAt p (restoreF f h).1::Hs) w'→K (.bool (restoreF f h).2) w')→B227 (some ⟨p,0,none⟩) h.owner h.cls h.many s K w from
  H _ fun w' h=>⟨rfl,h⟩
 intro K hK
 refine new_rule hw fun bh w hw=>?_
 have hw:Sat R (pts bh (hCells h s)::FlightAt p f::Hs) w:=hw
 refine ⟨fun w=>((takeF f h.owner h.cls h.many).2=0∧¬ (h.seats.length:Int)>h.many)∧Sat R (pts bh (hCells h s)::FlightAt p (takeF f h.owner h.cls h.many).1::Hs) w,?_,?_⟩
 ·refine ⟨h.owner,At.own (eqS hw) (by exact ⟨rfl,trivial⟩),h.cls,At.own (eqS hw) (by exact ⟨rfl,trivial⟩),h.many,At.own (eqS hw) (by exact ⟨rfl,trivial⟩),?_⟩
  refine (take_fspec hll hls hw.swap).use ?_
  clear hw
  rintro _ w ⟨rfl,hw⟩
  refine ⟨_,rfl,Br.ne (fun h1=>?_) (fun h1=>?_)⟩
  ·have e:restoreF f h=((takeF f h.owner h.cls h.many).1,false):=by unfold restoreF;rw [if_pos h1]
   rw [e] at hK
   exact hK _ (hw.swap.drop)
  have hw:=hw.swap
  refine ⟨s,At.own (eqS hw) (by exact ⟨rfl,trivial⟩),h.many,At.own (eqS hw) (by exact ⟨rfl,trivial⟩),?_⟩
  rw [hslen]
  refine Br.d (fun h2=>?_) (fun h2=>⟨⟨h1,h2⟩,hw⟩)
  have e:restoreF f h=((takeF f h.owner h.cls h.many).1,false):=by unfold restoreF;rw [if_neg (by rw [h1];simp),if_pos h2]
  rw [e] at hK
  exact hK _ hw.drop
 clear hw
 rintro _ w ⟨⟨h1,h2⟩,hw⟩
 have hre:restoreF f h=resGo h.owner (layN f.rows f.grps) h.seats (-1) (takeF f h.owner h.cls h.many).1:=by unfold restoreF;rw [if_neg (by rw [h1];simp),if_neg h2]
 have hhas:=takeF_has h1
 obtain ⟨hr0,hg0⟩:=takeF_same f h.owner h.cls h.many
 rw [hre] at hK
 generalize (takeF f h.owner h.cls h.many).1=f0 at *
 refine ⟨s,At.own (eqS hw) (by exact ⟨rfl,trivial⟩),?_⟩
 refine ⟨fun last i w=>∃ (j:Nat) (f1:PF) (h1:Hold),i=j∧j≤h.seats.length∧(f1.rows=f.rows∧f1.grps=f.grps)∧getM h.owner f1.hs=some h1∧(h1.seats.length=j∧h1.seats.Pairwise (·<·)∧∀ x∈h1.seats,x≤last)∧
  resGo h.owner (layN f.rows f.grps) (h.seats.drop j) last f1=resGo h.owner (layN f.rows f.grps) h.seats (-1) f0∧Sat R (pts bh (hCells h s)::FlightAt p f1::Hs) w,fun _ i _=>h.seats.length - i.toNat,
  ⟨0,f0,⟨h.owner,h.cls,h.many,[]⟩,rfl,by omega,⟨hr0,hg0⟩,hhas,⟨rfl,List.Pairwise.nil,fun x hx=>by cases hx⟩,rfl,hw⟩,?_⟩
 clear hw hhas hr0 hg0
 rintro _ last _ w ⟨j,f1,h1',rfl,hj,⟨hr1,hg1⟩,hhas,⟨hl1,hp1,hx1⟩,hgo,hw⟩
 refine Br.d (fun h3=>?_) (fun h3=>?_)
 ·have hj2:j<h.seats.length:=by omega
  rw [List.drop_eq_getElem_cons hj2,resGo_cons] at hgo
  refine Ro.ix hs (eqS hw) j rfl hj2 ?_
  generalize h.seats[j]=n at *
  have bad:(f1,false)=resGo h.owner (layN f.rows f.grps) h.seats (-1) f0→∀ {w},Sat R (pts bh (hCells h s)::FlightAt p f1::Hs) w→K (.bool false) w:=fun e w hw=>by
   rw [←e] at hK
   exact hK _ hw.drop
  obtain ⟨hm,om,sg,sl,ss,E,R',hE,ee,rg,_,_,hw,back⟩:=Sat.flightO hw.swap
  have rgo:RoI R' sg f1.grps:=rg.ro (by rw [List.length_map,hg1];omega)
  have same:∀ {w},Sat R' (FO p hm om sg sl ss E f1 (pts bh (hCells h s)::Hs)) w→Sat R (pts bh (hCells h s)::FlightAt p f1::Hs) w:=fun hw=>(Sat.flightC hE (back _ _ hw)).swap
  refine ⟨fun w=>(¬ (getM n f1.own).isSome=true∧¬ n≤last∧¬ n ≥ layN f.rows f.grps)∧Sat R' (FO p hm om sg sl ss E f1 (pts bh (hCells h s)::Hs)) w,?_,?_⟩
  ·refine NilP.mk rfl ⟨some om,At.own (eqS hw) (by exact ⟨rfl,trivial⟩),(getM n f1.own).getD 0,(getM n f1.own).isSome,fun w' e=>by rw [show w'=w from e];exact own_look (hw.take (MapAt om (oVals f1.own))) n true,?_⟩
   refine Br.mk (fun h4=>?_) (fun h4=>?_)
   ·rw [if_pos h4] at hgo;exact bad hgo (same hw)
   rw [if_neg (by rw [h4];simp)] at hgo
   refine Br.d (fun h5=>?_) (fun h5=>?_)
   ·rw [if_pos h5] at hgo;exact bad hgo (same hw)
   rw [if_neg h5] at hgo
   refine NilP.mk rfl ⟨f1.rows,sg,At.own (eqS hw) (by exact ⟨rfl,rfl,trivial⟩),?_⟩
   refine (count_spec rgo hw).use ?_
   clear hw
   rintro _ w ⟨rfl,hw⟩
   refine ⟨_,rfl,?_⟩
   rw [hr1,hg1]
   refine Br.d (fun h6=>?_) (fun h6=>⟨⟨by rw [h4];simp,h5,h6⟩,hw⟩)
   rw [if_pos h6] at hgo;exact bad hgo (same hw)
  clear hw
  rintro _ w ⟨⟨h4,h5,h6⟩,hw⟩
  rw [if_neg h4,if_neg h5,if_neg h6] at hgo
  have hgE:(getM h.owner E).map (·.2)=some h1':=by rw [←hEr_get,hE];exact hhas
  obtain ⟨⟨b,hx⟩,hgE2,rfl⟩:=Option.map_eq_some_iff.1 hgE
  obtain ⟨a,c,rfl,hna⟩:=getM_split hgE2
  have sx:∀ {own:List (Int × Int)} {E2:List HE} {w},hPtrs E2=hPtrs (a++(h.owner,b,hx)::c)→Sat R' (FO p hm om sg sl ss E2 { f1 with own:=own } (pts bh (hCells h s)::Hs)) w→Sat R' [pts p (fCells f1 sg sl ss hm om),pts bh (hCells h s),MapAt hm (hPtrs (a++(h.owner,b,hx)::c)),VC.tru] w:=fun {own E2 w} e1 hw=>by
   have hw:Sat R' (pts p (fCells f1 sg sl ss hm om)::pts bh (hCells h s)::MapAt hm (hPtrs E2)::MapAt om (oVals own)::HoldsAt E2::Hs) w:=hw.arr
   rw [e1] at hw
   exact hw.cons fun _ h=>h.cons fun _ h=>h.restTru2
  refine drw_rule' (Sat R' [pts p (fCells f1 sg sl ss hm om),pts bh (hCells h s),MapAt hm (hPtrs (a++(h.owner,b,hx)::c)),VC.tru]) hw (fun w hw=>sx (own:=f1.own) rfl hw) fun w hw=>?_
  refine NilP.mk rfl ⟨some hm,At.own selfS (by exact ⟨rfl,trivial⟩),h.owner,At.own selfS (by exact ⟨rfl,trivial⟩),some ⟨b,0,none⟩,fun w' h7=>?_,?_⟩
  ·rw [hold_look (h7.take (MapAt hm (hPtrs (a++(h.owner,b,hx)::c)))) h.owner false,hgE2];rfl
  refine (tell_spec (rise_iff.2 hp1) (by omega) hw).use ?_
  rintro _ w ⟨rfl,hw⟩
  refine ⟨rfl,sx (E2:=a++(h.owner,b,hx.put n)::c) (by simp [hPtrs]) hw,?_⟩
  have hins:insS n hx.seats=hx.seats++[n]:=insS_end fun x hxx=>by have:=hx1 x hxx;omega
  have hset:setM h.owner (hx.put n) f1.hs=hEr (a++(h.owner,b,hx.put n)::c):=by
   rw [←hE,hEr_app,hEr_app,setM_app (by rw [hEr_get,hna];rfl) (int_rfl h.owner)]
  have htell:tellF f1 h.owner n={ f1 with hs:=setM h.owner (hx.put n) f1.hs,own:=putM n hx.owner f1.own }:=by unfold tellF;rw [hhas]
  rw [wrap64 (by omega) (by omega)]
  refine ⟨⟨j + 1,tellF f1 h.owner n,hx.put n,by omega,by omega,?_,?_,⟨?_,?_,?_⟩,hgo,?_⟩,by dsimp only;omega⟩
  ·rw [htell];exact ⟨hr1,hg1⟩
  ·rw [htell]
   show getM h.owner (setM h.owner (hx.put n) f1.hs)=_
   rw [getM_setM (by rw [hhas];rfl),if_pos rfl]
  ·show (insS n hx.seats).length=_
   rw [hins,List.length_append];simp;exact hl1
  ·show (insS n hx.seats).Pairwise _
   rw [hins,List.pairwise_append]
   exact ⟨hp1,by simp,fun x hxx y hy=>by rw [List.mem_singleton.1 hy];have:=hx1 x hxx;omega⟩
  ·intro x hxx
   have hxx:x∈insS n hx.seats:=hxx
   rcases mem_insS.1 hxx with rfl|hxx
   ·exact Int.le_refl _
   ·have:=hx1 x hxx;omega
  ·rw [htell]
   refine (Sat.flight.2 ⟨hm,om,sg,sl,ss,a++(h.owner,b,hx.put n)::c,hset.symm,back _ _ hw⟩:Sat R (FlightAt p { f1 with hs:=setM h.owner (hx.put n) f1.hs,own:=putM n hx.owner f1.own }::pts bh (hCells h s)::Hs) w).swap
 ·rw [List.drop_eq_nil_of_le (by omega)] at hgo
  have hgo:(f1,true)=_:=hgo
  rw [←hgo] at hK
  exact hK _ hw.drop
end Go.Proofs.YtlplemdmegpoeaaGreatDoor
/- A flight: Decode. Condition: bounds on lengths. -/
namespace Go.Proofs.YtlplemdmegpoeaaGreatDoor
set_option linter.unusedVariables false
set_option linter.unusedSimpArgs false
open Go Go.VC
variable {R:Cx} {Hs Rest:List HP} {w:World}
def readH (rd:Rd):Hold × Rd:=
  (⟨(rdNum 28629151 rd).1,(rdNum 8 (rdNum 28629151 rd).2).1,(rdNum 600 (rdNum 8 (rdNum 28629151 rd).2).2).1,(nList 600 600 (rdNum 600 (rdNum 8 (rdNum 28629151 rd).2).2).2).1⟩,(nList 600 600 (rdNum 600 (rdNum 8 (rdNum 28629151 rd).2).2).2).2)
def readHs:Nat→Rd→List Hold × Rd
  |0,rd=>([],rd)
  |k + 1,rd=>((readH rd).1::(readHs k (readH rd).2).1,(readHs k (readH rd).2).2)
theorem readHs_snoc:∀ (k:Nat) (rd:Rd),readHs (k + 1) rd=((readHs k rd).1++[(readH (readHs k rd).2).1],(readH (readHs k rd).2).2)
  |0,_=>rfl
  |k + 1,rd=>by
    have:=readHs_snoc k (readH rd).2
    show ((readH rd).1::(readHs (k + 1) (readH rd).2).1,(readHs (k + 1) (readH rd).2).2)=_
    rw [this];rfl
theorem readH_bd {rd:Rd} (h:∀ x∈rd.bs,0≤x∧x<256):∀ x∈(readH rd).2.bs,0≤x∧x<256:=nList_bd (rdNum_bd (rdNum_bd (rdNum_bd h)))
theorem readHs_bd:∀ (k:Nat) {rd:Rd},(∀ x∈rd.bs,0≤x∧x<256)→∀ x∈(readHs k rd).2.bs,0≤x∧x<256
  |0,_,h=>h
  |k + 1,_,h=>readHs_bd k (readH_bd h)
structure HoldIn (h:Hold):Prop where
  o:0≤h.owner∧h.owner≤28629151
  c:0≤h.cls∧h.cls≤8
  m:0≤h.many∧h.many≤600
  s:∀ x∈h.seats,0≤x∧x≤600
  n:h.seats.length≤600
theorem readH_val {rd:Rd} (h:∀ x∈rd.bs,0≤x∧x<256):HoldIn (readH rd).1:=by
  have h1:=rdNum_bd (most:=28629151) h
  have h2:=rdNum_bd (most:=8) h1
  have h3:=rdNum_bd (most:=600) h2
  have hl:=nList_val (most:=600) (each:=600) h3 (by omega) (by omega)
  exact ⟨rdNum_val h (by omega),rdNum_val h1 (by omega),rdNum_val h2 (by omega),hl.1,by have:=hl.2;show (nList _ _ _).1.length≤600;omega⟩
theorem readHs_val:∀ (k:Nat) {rd:Rd},(∀ x∈rd.bs,0≤x∧x<256)→(∀ h∈(readHs k rd).1,HoldIn h)∧(readHs k rd).1.length=k
  |0,_,_=>⟨fun h hh=>(by cases hh),rfl⟩
  |k + 1,rd,h=>by
    obtain ⟨h1,h2⟩:=readHs_val k (readH_bd h)
    refine ⟨fun x hx=>?_,by show ((readH rd).1::_).length=_;rw [List.length_cons,h2]⟩
    have hx:x∈(readH rd).1::(readHs k (readH rd).2).1:=hx
    rcases List.mem_cons.1 hx with rfl|hx
    · exact readH_val h
    · exact h1 x hx
abbrev PS:=PF × Bool × Int
def stepD (x:PS) (h:Hold):PS:=if x.2.1=true∧h.owner>x.2.2 then ((restoreF x.1 h).1,(restoreF x.1 h).2,h.owner) else (x.1,false,h.owner)
def fine0 (num rows:Int) (grps lims:List Int):Bool:=decide (num>0) && (layOk rows grps && (nestOk lims (List.replicate lims.length 0) && (lims.getD 0 0==layN rows grps)))
structure Raw where
  num:Int
  rows:Int
  grps:List Int
  lims:List Int
  L:List Hold
  rd:Rd
def rawD (bs:List Int):Raw:=
  let a:=rdNum 9999 ⟨bs,false⟩
  let b:=rdNum 60 a.2
  let g:=nList 4 10 b.2
  let l:=nList 8 10000 g.2
  let n:=rdNum 600 l.2
  let x:=readHs n.1.toNat n.2
  ⟨a.1,b.1,g.1,l.1,x.1,x.2⟩
def Raw.run (x:Raw):PS:=x.L.foldl stepD (emptyF x.num x.rows x.grps x.lims,fine0 x.num x.rows x.grps x.lims,0)
def decF (bs:List Int):Option PF:=if rdWhole (rawD bs).rd=true∧(rawD bs).run.2.1=true then some (rawD bs).run.1 else none
structure KeepF (f f':PF):Prop where
  lims:f'.lims=f.lims
  grps:f'.grps=f.grps
  rows:f'.rows=f.rows
  num:f'.num=f.num
  sold:f'.sold.length=f.sold.length
theorem KeepF.refl (f:PF):KeepF f f:=⟨rfl,rfl,rfl,rfl,rfl⟩
theorem KeepF.trans {f f' f'':PF} (a:KeepF f f') (b:KeepF f' f''):KeepF f f'':=⟨b.lims.trans a.lims,b.grps.trans a.grps,b.rows.trans a.rows,b.num.trans a.num,b.sold.trans a.sold⟩
theorem takeF_keep (f:PF) (o c m:Int):KeepF f (takeF f o c m).1:=by
  unfold takeF
  split
  · exact .refl f
  · split
    · exact .refl f
    · split
      · rename_i h
        refine ⟨rfl,rfl,rfl,rfl,?_⟩
        show (sellT f.lims f.sold c m).1.length=_
        rw [(nest_sell h).1,List.length_set]
      · exact .refl f
theorem tellF_keep (f:PF) (o n:Int):KeepF f (tellF f o n):=by
  unfold tellF
  split<;>exact ⟨rfl,rfl,rfl,rfl,rfl⟩
theorem resGo_keep (o N:Int):∀ (l:List Int) (last:Int) (f:PF),KeepF f (resGo o N l last f).1
  |[],_,f=>.refl f
  |n::l,last,f=>by
    rw [resGo_cons]
    split
    · exact .refl f
    · split
      · exact .refl f
      · split
        · exact .refl f
        · exact (tellF_keep f o n).trans (resGo_keep o N l n _)
theorem restoreF_keep (f:PF) (h:Hold):KeepF f (restoreF f h).1:=by
  unfold restoreF
  split
  · exact takeF_keep ..
  · split
    · exact takeF_keep ..
    · exact (takeF_keep ..).trans (resGo_keep ..)
theorem stepD_keep (x:PS) (h:Hold):KeepF x.1 (stepD x h).1:=by
  unfold stepD
  split
  · exact restoreF_keep ..
  · exact .refl _
theorem foldD_keep:∀ (L:List Hold) (x:PS),KeepF x.1 (L.foldl stepD x).1
  |[],x=>.refl _
  |h::L,x=>(stepD_keep x h).trans (foldD_keep L (stepD x h))
abbrev emH:Obj:=hCells ⟨0,0,0,[]⟩ ⟨none,0,0⟩
theorem readh_spec {bn br r p:Nat} {rd:Rd} {f:PF} {K:Option Addr→World→Prop} (hb:∀ x∈rd.bs,0≤x∧x<256) (hw:Sat R (numC bn br::pts br (brCell r)::RdAt r rd::FlightAt p f::Hs) w)
    (k:∀ b w',Sat R (pts b (hCells ⟨(rdNum 28629151 rd).1,(rdNum 8 (rdNum 28629151 rd).2).1,(rdNum 600 (rdNum 8 (rdNum 28629151 rd).2).2).1,[]⟩ ⟨none,0,0⟩)::numC bn br::pts br (brCell r)::RdAt r (rdNum 600 (rdNum 8 (rdNum 28629151 rd).2).2).2::FlightAt p f::Hs) w'→K (some ⟨b,0,none⟩) w'):
   Drw w fun S_2 w_23=>
      ∃ t82:Value,(At S_2 ⟨bn,0,none⟩ [t82])∧
      ∃ t84:Value,(At S_2 ⟨bn,0,none⟩ [t84])∧
      ∃ t86:Value,(At S_2 ⟨bn,0,none⟩ [t86])∧
      (CalW Tryz.prog cl t82 [.int .i64 28629151] w_23 fun e_10 w_24=>
      ∃ t83:Int,(e_10=.returned (.int .i64 t83))∧
      (S_2 w_24)∧
      (CalW Tryz.prog cl t84 [.int .i64 8] w_24 fun e_11 w_25=>
      ∃ t85:Int,(e_11=.returned (.int .i64 t85))∧
      (S_2 w_25)∧
      (CalW Tryz.prog cl t86 [.int .i64 600] w_25 fun e_12 w_26=>
      ∃ t87:Int,(e_12=.returned (.int .i64 t87))∧
      (S_2 w_26)∧
      New (.cells #[.int .i64 0,.int .i64 0,.int .i64 0,.slice none 0 0] 197 (0,0)) (fun b_h10 w_27=>
      (S_2 w_27)∧
      ∃ w_28:World,((Instr.storeAt 197 (.pointer ((some ⟨b_h10,0,none⟩))) (.agg #[.int .i64 t83,.int .i64 t85,.int .i64 t87,.slice none 0 0])).run Tryz.prog w_27=.ok () w_28)∧
      K ((some ⟨b_h10,0,none⟩)) w_28) w_26)∧
      New (.cells #[.int .i64 0,.int .i64 0,.int .i64 0,.slice none 0 0] 197 (0,0)) (fun b_h10_1 w_29=>
      (S_2 w_29)∧
      CalW Tryz.prog cl t86 [.int .i64 600] w_29 fun e_13 w_30=>
      ∃ t87_1:Int,(e_13=.returned (.int .i64 t87_1))∧
      (S_2 w_30)∧
      ∃ w_31:World,((Instr.storeAt 197 (.pointer ((some ⟨b_h10_1,0,none⟩))) (.agg #[.int .i64 t83,.int .i64 t85,.int .i64 t87_1,.slice none 0 0])).run Tryz.prog w_30=.ok () w_31)∧
      K ((some ⟨b_h10_1,0,none⟩)) w_31) w_25)∧
      New (.cells #[.int .i64 0,.int .i64 0,.int .i64 0,.slice none 0 0] 197 (0,0)) (fun b_h10_2 w_32=>
      (S_2 w_32)∧
      CalW Tryz.prog cl t84 [.int .i64 8] w_32 fun e_14 w_33=>
      ∃ t85_1:Int,(e_14=.returned (.int .i64 t85_1))∧
      (S_2 w_33)∧
      CalW Tryz.prog cl t86 [.int .i64 600] w_33 fun e_15 w_34=>
      ∃ t87_2:Int,(e_15=.returned (.int .i64 t87_2))∧
      (S_2 w_34)∧
      ∃ w_35:World,((Instr.storeAt 197 (.pointer ((some ⟨b_h10_2,0,none⟩))) (.agg #[.int .i64 t83,.int .i64 t85_1,.int .i64 t87_2,.slice none 0 0])).run Tryz.prog w_34=.ok () w_35)∧
      K ((some ⟨b_h10_2,0,none⟩)) w_35) w_24)∧
      New (.cells #[.int .i64 0,.int .i64 0,.int .i64 0,.slice none 0 0] 197 (0,0)) (fun b_h10_3 w_36=>
      (S_2 w_36)∧
      CalW Tryz.prog cl t82 [.int .i64 28629151] w_36 fun e_16 w_37=>
      ∃ t83_1:Int,(e_16=.returned (.int .i64 t83_1))∧
      (S_2 w_37)∧
      CalW Tryz.prog cl t84 [.int .i64 8] w_37 fun e_17 w_38=>
      ∃ t85_2:Int,(e_17=.returned (.int .i64 t85_2))∧
      (S_2 w_38)∧
      CalW Tryz.prog cl t86 [.int .i64 600] w_38 fun e_18 w_39=>
      ∃ t87_3:Int,(e_18=.returned (.int .i64 t87_3))∧
      (S_2 w_39)∧
      ∃ w_40:World,((Instr.storeAt 197 (.pointer ((some ⟨b_h10_3,0,none⟩))) (.agg #[.int .i64 t83_1,.int .i64 t85_2,.int .i64 t87_3,.slice none 0 0])).run Tryz.prog w_39=.ok () w_40)∧
      K ((some ⟨b_h10_3,0,none⟩)) w_40) w_23:=by
  have hb1:=rdNum_bd (most:=28629151) hb
  have hb2:=rdNum_bd (most:=8) hb1
  refine drw_rule' (Sat R [numC bn br,VC.tru]) hw (fun w hw=>hw.restTru2) fun w hw=>?_
  refine ⟨numV br,At.own selfS (by exact ⟨rfl,trivial⟩),numV br,At.own selfS (by exact ⟨rfl,trivial⟩),numV br,At.own selfS (by exact ⟨rfl,trivial⟩),?_⟩
  have one:∀ {most:Int} {rd:Rd} {Hs':List HP} {w:World} {K:Int→World→Prop},0≤most→most<9223372036854775808→(∀ x∈rd.bs,0≤x∧x<256)→Sat R (numC bn br::pts br (brCell r)::RdAt r rd::Hs') w→(∀ w,Sat R (numC bn br::pts br (brCell r)::RdAt r (rdNum most rd).2::Hs') w→K (rdNum most rd).1 w)→
      CalW Tryz.prog cl (numV br) [.int .i64 most] w fun e w'=>∃ t:Int,e=.returned (.int .i64 t)∧Sat R [numC bn br,VC.tru] w'∧K t w':=fun {most rd Hs' w K} h0 h1 hb hw k=>by
    refine (cnum_spec (r:=r) h0 h1 hb (Hs:=numC bn br::Hs') hw.arr).mono ?_
    rintro _ w ⟨rfl,hw⟩
    have hw:Sat R (numC bn br::pts br (brCell r)::RdAt r (rdNum most rd).2::Hs') w:=hw.arr
    exact ⟨_,rfl,hw.restTru2,k _ hw⟩
  have fin:∀ {b:Nat} {w:World},Sat R (pts b emH::numC bn br::pts br (brCell r)::RdAt r (rdNum 600 (rdNum 8 (rdNum 28629151 rd).2).2).2::FlightAt p f::Hs) w→
      ∃ w_9:World,((Instr.storeAt 197 (.pointer ((some ⟨b,0,none⟩))) (.agg #[.int .i64 (rdNum 28629151 rd).1,.int .i64 (rdNum 8 (rdNum 28629151 rd).2).1,.int .i64 (rdNum 600 (rdNum 8 (rdNum 28629151 rd).2).2).1,.slice none 0 0])).run Tryz.prog w=.ok () w_9)∧K (some ⟨b,0,none⟩) w_9:=fun {b w} hw=>by
    refine store_rule hw (by kernel_rfl) rfl (by simp [Value.cells]) fun w hw=>?_
    exact k b w (hw.re (pts b (hCells ⟨(rdNum 28629151 rd).1,(rdNum 8 (rdNum 28629151 rd).2).1,(rdNum 600 (rdNum 8 (rdNum 28629151 rd).2).2).1,[]⟩ ⟨none,0,0⟩)))
  have sw:∀ {b:Nat} {rd:Rd} {Hs:List HP} {w:World},Sat R (pts b emH::numC bn br::pts br (brCell r)::RdAt r rd::Hs) w→Sat R (numC bn br::pts br (brCell r)::RdAt r rd::pts b emH::Hs) w:=fun hw=>hw.arr
  have ws:∀ {b:Nat} {rd:Rd} {Hs:List HP} {w:World},Sat R (numC bn br::pts br (brCell r)::RdAt r rd::pts b emH::Hs) w→Sat R (pts b emH::numC bn br::pts br (brCell r)::RdAt r rd::Hs) w:=fun hw=>hw.arr
  refine ⟨one (by omega) (by omega) hb hw fun w hw=>⟨one (by omega) (by omega) hb1 hw fun w hw=>⟨one (by omega) (by omega) hb2 hw fun w hw=>?_,?_⟩,?_⟩,?_⟩
  · refine new_rule hw fun b w hw=>?_
    have hw:Sat R (pts b emH::numC bn br::pts br (brCell r)::RdAt r (rdNum 600 (rdNum 8 (rdNum 28629151 rd).2).2).2::FlightAt p f::Hs) w:=hw
    exact ⟨(sw hw).restTru2,fin hw⟩
  · refine new_rule hw fun b w hw=>?_
    have hw:=sw (b:=b) hw
    exact ⟨hw.restTru2,one (by omega) (by omega) hb2 hw fun w hw=>fin (ws hw)⟩
  · refine new_rule hw fun b w hw=>?_
    have hw:=sw (b:=b) hw
    exact ⟨hw.restTru2,one (by omega) (by omega) hb1 hw fun w hw=>one (by omega) (by omega) hb2 hw fun w hw=>fin (ws hw)⟩
  · refine new_rule hw fun b w hw=>?_
    have hw:=sw (b:=b) hw
    exact ⟨hw.restTru2,one (by omega) (by omega) hb hw fun w hw=>one (by omega) (by omega) hb1 hw fun w hw=>one (by omega) (by omega) hb2 hw fun w hw=>fin (ws hw)⟩
set_option maxHeartbeats 2000000 in
theorem decode_fspec {s:Sl} {bs:List Int} (hb:∀ y∈bs,0≤y∧y<256) (hs:Ro R s (b8 bs)) (hl:bs.length≤1099511627776) (hw:Sat R Hs w):
    Gets Tryz.prog 158 #[.slice s.a s.len s.cap] w fun v w'=>(decF bs=none∧v=.tuple #[.pointer none,.int .i64 6]∧Sat R Hs w')∨
      (∃ f p,decF bs=some f∧v=.tuple #[.pointer (some ⟨p,0,none⟩),.int .i64 0]∧Sat R (FlightAt p f::Hs) w'):=by
  apply call158
  suffices H:∀ K:Value→World→Prop,(decF bs=none→∀ w',Sat R Hs w'→K (.tuple #[.pointer none,.int .i64 6]) w')→(∀ f p w',decF bs=some f→Sat R (FlightAt p f::Hs) w'→K (.tuple #[.pointer (some ⟨p,0,none⟩),.int .i64 0]) w')→B158 s K w from
    H _ (fun e w' h=>.inl ⟨e,rfl,h⟩) fun f p w' e h=>.inr ⟨f,p,e,rfl,h⟩
  intro K hK1 hK2
  refine (fnew_spec hs hl hw).use ?_
  clear hw
  rintro _ w ⟨r,rfl,hw⟩
  refine ⟨_,rfl,new_rule hw fun br w hw=>?_⟩
  refine store_rule hw (by kernel_rfl) rfl (by simp [Value.cells]) fun w hw=>?_
  have hw:=hw.re (pts br (brCell r))
  refine new_rule hw fun bn w hw=>?_
  refine store_rule hw (by kernel_rfl) rfl (by simp [Value.cells]) fun w hw=>?_
  have hw:=hw.re (numC bn br)
  have hb0:∀ y∈(⟨bs,false⟩:Rd).bs,0≤y∧y<256:=hb
  have v1:=rdNum_val (most:=9999) hb0 (by omega)
  have hb1:=rdNum_bd (most:=9999) hb0
  obtain ⟨num,rd1,e1⟩:∃ y rd,rdNum 9999 ⟨bs,false⟩=(y,rd):=⟨_,_,rfl⟩
  rw [e1] at v1 hb1
  have v2:=rdNum_val (most:=60) hb1 (by omega)
  have hb2:=rdNum_bd (most:=60) hb1
  obtain ⟨rows,rd2,e2⟩:∃ y rd,rdNum 60 rd1=(y,rd):=⟨_,_,rfl⟩
  rw [e2] at v2 hb2
  have v3:=nList_val (most:=4) (each:=10) hb2 (by omega) (by omega)
  have hb3:=nList_bd (most:=4) (each:=10) hb2
  obtain ⟨grps,rd3,e3⟩:∃ y rd,nList 4 10 rd2=(y,rd):=⟨_,_,rfl⟩
  rw [e3] at v3 hb3
  have v4:=nList_val (most:=8) (each:=10000) hb3 (by omega) (by omega)
  have hb4:=nList_bd (most:=8) (each:=10000) hb3
  obtain ⟨lims,rd4,e4⟩:∃ y rd,nList 8 10000 rd3=(y,rd):=⟨_,_,rfl⟩
  rw [e4] at v4 hb4
  have v5:=rdNum_val (most:=600) hb4 (by omega)
  have hb5:=rdNum_bd (most:=600) hb4
  obtain ⟨nz,rd5,e5⟩:∃ y rd,rdNum 600 rd4=(y,rd):=⟨_,_,rfl⟩
  rw [e5] at v5 hb5
  dsimp only at v1 v2 v3 v4 v5 hb1 hb2 hb3 hb4 hb5
  obtain ⟨n,rfl⟩:=Int.eq_ofNat_of_zero_le v5.1
  have hraw:rawD bs=⟨num,rows,grps,lims,(readHs n rd5).1,(readHs n rd5).2⟩:=by
    unfold rawD
    simp only [e1,e2,e3,e4,e5]
    rfl
  refine drw_rule' (Sat R [numC bn br,VC.tru]) hw (fun w hw=>hw.restTru2) fun w hw=>?_
  refine ⟨numV br,At.own selfS (by exact ⟨rfl,trivial⟩),numV br,At.own selfS (by exact ⟨rfl,trivial⟩),?_⟩
  have hw:Sat R (pts br (brCell r)::RdAt r ⟨bs,false⟩::numC bn br::Hs) w:=hw.arr
  refine (cnum_spec (most:=9999) (by omega) (by omega) hb0 hw).mono ?_
  clear hw
  rintro _ w ⟨rfl,hw⟩
  rw [e1] at hw ⊢
  dsimp only at hw ⊢
  refine ⟨_,rfl,(hw.take (numC bn br)).restTru2,?_⟩
  refine (cnum_spec (most:=60) (by omega) (by omega) hb1 hw).mono ?_
  clear hw
  rintro _ w ⟨rfl,hw⟩
  rw [e2] at hw ⊢
  dsimp only at hw ⊢
  refine ⟨_,rfl,(hw.take (numC bn br)).restTru2,?_⟩
  have hw:Sat R (Reads ⟨none,0,0⟩ (intsI [])::Reads ⟨none,0,0⟩ (intsI [])::pts br (brCell r)::RdAt r rd2::numC bn br::Hs) w:=Own.reads (T:=3) (Own.nil (Own.reads (T:=3) (Own.nil hw)))
  refine (empty_spec (num:=num) (rows:=rows) (by simp) hw).use ?_
  clear hw
  rintro _ w ⟨p,rfl,hw⟩
  refine ⟨_,rfl,(hw.take (numC bn br)).restTru2,?_⟩
  have hw:Sat R (numC bn br::pts br (brCell r)::RdAt r rd2::FlightAt p (emptyF num rows [] [])::Hs) w:=hw.arr
  refine (dlist_spec (most:=4) (each:=10) (by omega) (by omega) (by omega) (by omega) hb2 hw).use ?_
  clear hw
  rintro _ w ⟨tg,rfl,hw⟩
  rw [e3] at hw
  dsimp only at hw
  refine ⟨tg,rfl,NilP.mk rfl ?_⟩
  obtain ⟨hm,om,sg,sl,ss,E,hE,hw⟩:=Sat.flight.1 (hw.take (FlightAt p (emptyF num rows [] [])))
  have hw:=hw.drop.drop.drop
  obtain rfl:E=[]:=by
    have:=congrArg List.length hE
    simp [emptyF] at this
    exact this
  have hw:Sat R (pts p (fCells (emptyF num rows [] []) sg sl ss hm om)::MapAt (α:=Int) hm []::MapAt (α:=Int) om []::HoldsAt []::Own tg 3 (intsI grps)::numC bn br::pts br (brCell r)::RdAt r rd3::Hs) w:=hw
  refine store_rule hw (by kernel_rfl) rfl (by simp [Value.cells]) fun w hw=>?_
  have hw:=hw.re (pts p (fCells (emptyF num rows [] []) tg sl ss hm om))
  have hw:Sat R (numC bn br::pts br (brCell r)::RdAt r rd3::pts p (fCells (emptyF num rows [] []) tg sl ss hm om)::Own tg 3 (intsI grps)::MapAt (α:=Int) hm []::MapAt (α:=Int) om []::HoldsAt []::Hs) w:=hw.arr
  refine (dlist_spec (most:=8) (each:=10000) (by omega) (by omega) (by omega) (by omega) hb3 hw).use ?_
  clear hw
  rintro _ w ⟨tl,rfl,hw⟩
  rw [e4] at hw
  dsimp only at hw
  refine ⟨tl,rfl,NilP.mk rfl ?_⟩
  have hw:Sat R (pts p (fCells (emptyF num rows [] []) tg sl ss hm om)::Own tl 3 (intsI lims)::Own tg 3 (intsI grps)::MapAt (α:=Int) hm []::MapAt (α:=Int) om []::HoldsAt []::numC bn br::pts br (brCell r)::RdAt r rd4::Hs) w:=hw.arr
  refine store_rule hw (by kernel_rfl) rfl (by simp [Value.cells]) fun w hw=>?_
  have hw:=hw.re (pts p (fCells (emptyF num rows [] []) tg tl ss hm om))
  have htl:=Own.len (hw.take (Own tl 3 (intsI lims)))
  rw [List.length_map] at htl
  refine NilP.mk rfl ⟨tl,At.own (eqS hw) (by exact ⟨rfl,trivial⟩),?_⟩
  rw [htl]
  refine zer_rule (by omega) hw fun ts w hw=>NilP.mk rfl ?_
  have hw:Sat R (pts p (fCells (emptyF num rows [] []) tg tl ss hm om)::Own ts 3 (intsI (List.replicate lims.length 0))::Own tl 3 (intsI lims)::Own tg 3 (intsI grps)::MapAt (α:=Int) hm []::MapAt (α:=Int) om []::HoldsAt []::numC bn br::pts br (brCell r)::RdAt r rd4::Hs) w:=hw.arr
  refine store_rule hw (by kernel_rfl) rfl (by simp [Value.cells]) fun w hw=>?_
  have hw:=hw.re (pts p (fCells (emptyF num rows grps lims) tg tl ts hm om))
  have hw:Sat R (Own tg 3 (intsI grps)::Own tl 3 (intsI lims)::Own ts 3 (intsI (List.replicate lims.length 0))::pts p (fCells (emptyF num rows grps lims) tg tl ts hm om)::MapAt (α:=Int) hm []::MapAt (α:=Int) om []::HoldsAt []::numC bn br::pts br (brCell r)::RdAt r rd4::Hs) w:=hw.arr
  have hw:Sat R (FlightAt p (emptyF num rows grps lims)::numC bn br::pts br (brCell r)::RdAt r rd4::Hs) w:=
    Sat.flight.2 ⟨hm,om,tg,tl,ts,[],rfl,Own.reads (hw.cons fun _ h=>Own.reads (h.cons fun _ h=>Own.reads h))⟩
  refine ⟨fun fine w=>fine=fine0 num rows grps lims∧Sat R (FlightAt p (emptyF num rows grps lims)::numC bn br::pts br (brCell r)::RdAt r rd4::Hs) w,?_,?_⟩
  · obtain ⟨hm,om,sg,sl,ss,E,R',hE,ee,rg,rl,rs,hw,back⟩:=Sat.flightO hw
    have rgo:RoI R' sg grps:=rg.ro (by rw [List.length_map];show grps.length≤_;omega)
    have rlo:RoI R' sl lims:=rl.ro (by rw [List.length_map];show lims.length≤_;omega)
    have rso:RoI R' ss (List.replicate lims.length 0):=rs.ro (by rw [List.length_map];show (List.replicate lims.length (0:Int)).length≤_;rw [List.length_replicate];omega)
    have same:∀ {w},Sat R' (FO p hm om sg sl ss E (emptyF num rows grps lims) (numC bn br::pts br (brCell r)::RdAt r rd4::Hs)) w→Sat R (FlightAt p (emptyF num rows grps lims)::numC bn br::pts br (brCell r)::RdAt r rd4::Hs) w:=fun hw=>Sat.flightC hE (back _ _ hw)
    refine drw_rule hw fun w hw=>?_
    refine NilP.mk rfl ⟨num,by rw [add_off];exact At.own selfS (by exact ⟨rfl,trivial⟩),?_⟩
    unfold fine0
    refine Br.d (fun h1=>?_) (fun h1=>⟨by rw [decide_eq_false h1];rfl,same hw⟩)
    rw [decide_eq_true h1,Bool.true_and]
    refine NilP.mk rfl ⟨rows,sg,At.own selfS (by exact ⟨rfl,rfl,trivial⟩),?_⟩
    refine (right_spec rgo hw).use ?_
    clear hw
    rintro _ w ⟨rfl,hw⟩
    refine ⟨_,rfl,hw,Br.mk (fun h2=>?_) (fun h2=>⟨by rw [h2];rfl,same hw⟩)⟩
    rw [h2,Bool.true_and]
    refine NilP.mk rfl ⟨sl,At.own selfS (by exact ⟨rfl,trivial⟩),NilP.mk rfl ⟨ss,At.own selfS (by exact ⟨rfl,trivial⟩),?_⟩⟩
    refine (nright_spec rlo rso hw).use ?_
    clear hw
    rintro _ w ⟨rfl,hw⟩
    refine ⟨_,rfl,hw,Br.mk (fun h3=>?_) (fun h3=>⟨by rw [h3];rfl,same hw⟩)⟩
    rw [h3,Bool.true_and]
    have hl0:0<lims.length:=(limOk_iff.1 (nestOk_iff.1 h3).1).1.1
    refine NilP.mk rfl ⟨sl,At.own selfS (by exact ⟨rfl,trivial⟩),?_⟩
    refine Ro.ix rlo selfS 0 rfl hl0 (F:=fun t=>_) ?_
    refine NilP.mk rfl ⟨rows,sg,At.own selfS (by exact ⟨rfl,rfl,trivial⟩),?_⟩
    refine (count_spec rgo hw).use ?_
    clear hw
    rintro _ w ⟨rfl,hw⟩
    refine ⟨_,rfl,hw,?_,same hw⟩
    rw [getD_lt hl0]
  clear hw
  rintro _ _ w ⟨rfl,hw⟩
  have hw:Sat R (pts br (brCell r)::RdAt r rd4::numC bn br::FlightAt p (emptyF num rows grps lims)::Hs) w:=hw.arr
  refine ⟨numV br,At.own (eqS hw) (by exact ⟨rfl,trivial⟩),?_⟩
  refine (cnum_spec (most:=600) (by omega) (by omega) hb4 hw).mono ?_
  clear hw
  rintro _ w ⟨rfl,hw⟩
  rw [e5] at hw ⊢
  dsimp only at hw ⊢
  refine ⟨_,rfl,?_⟩
  have hKp:=foldD_keep
  have hfold:∀ j,(readHs j rd5).1.foldl stepD (emptyF num rows grps lims,fine0 num rows grps lims,0)=(readHs j rd5).1.foldl stepD (emptyF num rows grps lims,fine0 num rows grps lims,0):=fun _=>rfl
  have hrun:(rawD bs).run=(readHs n rd5).1.foldl stepD (emptyF num rows grps lims,fine0 num rows grps lims,0):=by rw [hraw];rfl
  have hrd:(rawD bs).rd=(readHs n rd5).2:=by rw [hraw]
  generalize hx0:((emptyF num rows grps lims,fine0 num rows grps lims,0):PS)=x0 at *
  have hk0:x0.1.lims.length≤1000∧x0.1.sold.length≤1000∧x0.1.grps.length≤1000:=by
    rw [←hx0]
    refine ⟨by show lims.length≤_;omega,by show (List.replicate lims.length (0:Int)).length≤_;rw [List.length_replicate];omega,by show grps.length≤_;omega⟩
  refine ⟨fun fine last i w=>∃ j:Nat,i=j∧j≤n∧fine=((readHs j rd5).1.foldl stepD x0).2.1∧last=((readHs j rd5).1.foldl stepD x0).2.2∧Sat R (numC bn br::pts br (brCell r)::RdAt r (readHs j rd5).2::FlightAt p ((readHs j rd5).1.foldl stepD x0).1::Hs) w,
    fun _ _ i _=>n - i.toNat,⟨0,rfl,by omega,?_,?_,?_⟩,?_⟩
  · rw [←hx0];rfl
  · rw [←hx0];rfl
  · rw [←hx0]
    show Sat R (numC bn br::pts br (brCell r)::RdAt r rd5::FlightAt p (emptyF num rows grps lims)::Hs) w
    exact hw.arr
  clear hw
  rintro _ _ _ _ w ⟨j,rfl,hj,rfl,rfl,hw⟩
  refine Br.d (fun h=>?_) (fun h=>?_)
  · have hbj:=readHs_bd j hb5
    have hsn:=readHs_snoc j rd5
    have hkj:=foldD_keep (readHs j rd5).1 x0
    generalize hx:(readHs j rd5).1.foldl stepD x0=x at *
    have hstep:(readHs (j + 1) rd5).1.foldl stepD x0=stepD x (readH (readHs j rd5).2).1:=by
      rw [hsn]
      show ((readHs j rd5).1++[_]).foldl stepD x0=_
      rw [List.foldl_append,hx];rfl
    have hrd2:(readHs (j + 1) rd5).2=(readH (readHs j rd5).2).2:=by rw [hsn]
    have hval:=readH_val hbj
    generalize hrdj:(readHs j rd5).2=rdj at *
    have hc1:=rdNum_bd (most:=28629151) hbj
    have hc2:=rdNum_bd (most:=8) hc1
    have hc3:=rdNum_bd (most:=600) hc2
    rw [wrap64 (by omega) (by omega)]
    obtain ⟨J,hJ⟩:∃ J:Option Addr→World→Prop,∀ h10 w,J h10 w↔∃ b,h10=some ⟨b,0,none⟩∧Sat R (pts b (hCells ⟨(rdNum 28629151 rdj).1,(rdNum 8 (rdNum 28629151 rdj).2).1,(rdNum 600 (rdNum 8 (rdNum 28629151 rdj).2).2).1,[]⟩ ⟨none,0,0⟩)::numC bn br::pts br (brCell r)::RdAt r (rdNum 600 (rdNum 8 (rdNum 28629151 rdj).2).2).2::FlightAt p x.1::Hs) w:=⟨_,fun _ _=>Iff.rfl⟩
    refine ⟨J,readh_spec hbj hw fun b w' h=>(hJ _ _).2 ⟨b,rfl,h⟩,?_⟩
    clear hw
    intro _ h10 w hJw
    obtain ⟨b,rfl,hw⟩:=(hJ _ _).1 hJw
    clear hJ hJw
    have hw:Sat R (numC bn br::pts br (brCell r)::RdAt r (rdNum 600 (rdNum 8 (rdNum 28629151 rdj).2).2).2::pts b (hCells ⟨(rdNum 28629151 rdj).1,(rdNum 8 (rdNum 28629151 rdj).2).1,(rdNum 600 (rdNum 8 (rdNum 28629151 rdj).2).2).1,[]⟩ ⟨none,0,0⟩)::FlightAt p x.1::Hs) w:=hw.arr
    refine (dlist_spec (most:=600) (each:=600) (by omega) (by omega) (by omega) (by omega) hc3 hw).use ?_
    clear hw
    rintro _ w ⟨t,rfl,hw⟩
    refine ⟨t,rfl,NilP.mk rfl ?_⟩
    have hw:Sat R (pts b (hCells ⟨(rdNum 28629151 rdj).1,(rdNum 8 (rdNum 28629151 rdj).2).1,(rdNum 600 (rdNum 8 (rdNum 28629151 rdj).2).2).1,[]⟩ ⟨none,0,0⟩)::Own t 3 (intsI (nList 600 600 (rdNum 600 (rdNum 8 (rdNum 28629151 rdj).2).2).2).1)::numC bn br::pts br (brCell r)::RdAt r (nList 600 600 (rdNum 600 (rdNum 8 (rdNum 28629151 rdj).2).2).2).2::FlightAt p x.1::Hs) w:=hw.arr
    have hw:Sat R (pts b (hCells ⟨(rdNum 28629151 rdj).1,(rdNum 8 (rdNum 28629151 rdj).2).1,(rdNum 600 (rdNum 8 (rdNum 28629151 rdj).2).2).1,[]⟩ ⟨none,0,0⟩)::Own t 3 (intsI (readH rdj).1.seats)::numC bn br::pts br (brCell r)::RdAt r (readH rdj).2::FlightAt p x.1::Hs) w:=hw
    refine store_rule hw (by kernel_rfl) rfl (by simp [Value.cells]) fun w hw=>?_
    have hw:=hw.re (pts b (hCells (readH rdj).1 t))
    generalize hh:(readH rdj).1=hd at *
    have done:∀ {y:PS} {Hs':List HP} {w},stepD x hd=y→Sat R (pts b (hCells hd t)::Own t 3 (intsI hd.seats)::numC bn br::pts br (brCell r)::RdAt r (readH rdj).2::FlightAt p y.1::Hs) w→
        (∃ j_1:Nat,((j:Int) + 1)=j_1∧j_1≤n∧y.2.1=((readHs j_1 rd5).1.foldl stepD x0).2.1∧y.2.2=((readHs j_1 rd5).1.foldl stepD x0).2.2∧Sat R (numC bn br::pts br (brCell r)::RdAt r (readHs j_1 rd5).2::FlightAt p ((readHs j_1 rd5).1.foldl stepD x0).1::Hs) w):=fun {y Hs' w} e hw=>by
      refine ⟨j + 1,by omega,by omega,?_⟩
      rw [hstep,hrd2,e]
      exact ⟨rfl,rfl,hw.drop.drop⟩
    refine Br.mk (fun h1=>?_) (fun h1=>?_)
    · refine NilP.mk rfl ⟨hd.owner,by rw [add_off];exact At.own (eqS hw) (by exact ⟨rfl,trivial⟩),?_⟩
      refine Br.d (fun h2=>?_) (fun h2=>?_)
      · have e:stepD x hd=((restoreF x.1 hd).1,(restoreF x.1 hd).2,hd.owner):=by unfold stepD;rw [if_pos ⟨h1,h2⟩]
        refine NilP.mk rfl ⟨hd.owner,hd.cls,hd.many,t,At.own (eqS hw) (by exact ⟨rfl,rfl,rfl,rfl,trivial⟩),?_⟩
        obtain ⟨R2,hro,keep,hw,back⟩:=Own.lendI (hw.take (Own t 3 (intsI hd.seats))) (by have:=hval.n;omega)
        have hw:=hw.take (FlightAt p x.1)
        refine (restore_fspec (by rw [hkj.lims];exact hk0.1) (by rw [hkj.sold];exact hk0.2.1) (by rw [hkj.grps];exact hk0.2.2) hro (by have:=hval.n;omega) hw).use ?_
        clear hw
        rintro _ w ⟨rfl,hw⟩
        have hw:=back hw
        have hw:Sat R (pts b (hCells hd t)::Own t 3 (intsI hd.seats)::numC bn br::pts br (brCell r)::RdAt r (readH rdj).2::FlightAt p (restoreF x.1 hd).1::Hs) w:=hw.arr
        refine ⟨_,rfl,NilP.mk rfl ⟨hd.owner,by rw [add_off];exact At.own (eqS hw) (by exact ⟨rfl,trivial⟩),?_⟩⟩
        exact ⟨done (Hs':=Hs) e hw,by dsimp only;omega⟩
      · have e:stepD x hd=(x.1,false,hd.owner):=by unfold stepD;rw [if_neg (fun h5=>h2 h5.2)]
        refine NilP.mk rfl ⟨hd.owner,by rw [add_off];exact At.own (eqS hw) (by exact ⟨rfl,trivial⟩),?_⟩
        exact ⟨done (Hs':=Hs) e hw,by dsimp only;omega⟩
    · have e:stepD x hd=(x.1,false,hd.owner):=by unfold stepD;rw [if_neg (fun h5=>by rw [h5.1] at h1;cases h1)]
      refine NilP.mk rfl ⟨hd.owner,by rw [add_off];exact At.own (eqS hw) (by exact ⟨rfl,trivial⟩),?_⟩
      exact ⟨done (Hs':=Hs) e hw,by dsimp only;omega⟩
  · obtain rfl:j=n:=by omega
    rw [←hrun,←hrd] at hw
    rw [←hrun]
    refine ⟨some ⟨r,0,none⟩,At.own (eqS hw) (by exact ⟨rfl,trivial⟩),?_⟩
    refine (whole_spec (hw.take (RdAt r (rawD bs).rd))).use ?_
    clear hw
    rintro _ w ⟨rfl,hw⟩
    refine ⟨_,rfl,Br.nb (fun h1=>?_) (fun h1=>Br.nb (fun h2=>?_) (fun h2=>?_))⟩
    · exact hK1 (by unfold decF;rw [if_neg (fun h5=>by rw [h5.1] at h1;cases h1)]) _ hw.drop.drop.drop.drop
    · exact hK1 (by unfold decF;rw [if_neg (fun h5=>by rw [h5.2] at h2;cases h2)]) _ hw.drop.drop.drop.drop
    · exact hK2 _ _ _ (by unfold decF;rw [if_pos ⟨h1,h2⟩]) hw.drop.drop.drop
end Go.Proofs.YtlplemdmegpoeaaGreatDoor
/- Reference 15: Encode, list, may, Decode. Condition: bounds. -/
namespace Go.Proofs.YtlplemdmegpoeaaGreatDoor
set_option linter.unusedVariables false
set_option linter.unusedSimpArgs false
open Go Go.VC
variable {R R':Cx} {Hs Rest:List HP} {w:World}
theorem numsB_one (x:Int) (l:List Int):numsB (x::l)=numsB [x]++numsB l:=by rw [show x::l=[x]++l from rfl,numsB_app]
def rencB (r:RF):List Int:=encB r.num r.rows r.grps r.lims r.L
structure RSmall (r:RF):Prop where
 num:0≤r.num∧r.num<9223372036854775808
 rows:0≤r.rows∧r.rows<9223372036854775808
 grps:small r.grps
 lims:small r.lims
 gl:r.grps.length≤1000
 ll:r.lims.length≤1000
 hs:∀ h∈r.L,HSmall h
 hl:r.L.length≤10000
end Go.Proofs.YtlplemdmegpoeaaGreatDoor
/- Reference 15: list, may, Decode. Condition: bounds. -/
namespace Go.Proofs.YtlplemdmegpoeaaGreatDoor
set_option linter.unusedVariables false
set_option linter.unusedSimpArgs false
open Go Go.VC
variable {R R':Cx} {Hs Rest:List HP} {w:World}
def rMany:Nat→Int→Rd→List Int × Rd
  |0,_,r=>([],r)
  |k + 1,each,r=>if r.bad then ([],r) else ((rdNum each r).1::(rMany k each (rdNum each r).2).1,(rMany k each (rdNum each r).2).2)
theorem rMany_succ (k:Nat) (each:Int) (r:Rd):rMany (k + 1) each r=if r.bad then ([],r) else ((rdNum each r).1::(rMany k each (rdNum each r).2).1,(rMany k each (rdNum each r).2).2):=rfl
theorem rMany_bad {each:Int} {r:Rd} (h:r.bad=true):∀ k,rMany k each r=([],r)
  |0=>rfl
  |k + 1=>by rw [rMany_succ,if_pos h]
def rList (most each:Int) (r:Rd):List Int × Rd:=rMany (rdNum most r).1.toNat each (rdNum most r).2
theorem rMany_bd:∀ (k:Nat) (most:Int) {r:Rd},(∀ x∈r.bs,0≤x∧x<256)→∀ x∈(rMany k most r).2.bs,0≤x∧x<256
  |0,_,_,h=>h
  |k + 1,most,r,h=>by
    rw [rMany_succ]
    split
    · exact h
    · exact rMany_bd k most (rdNum_bd h)
theorem rMany_val:∀ (k:Nat) {most:Int} {r:Rd},0≤most→(∀ x∈r.bs,0≤x∧x<256)→(∀ x∈(rMany k most r).1,0≤x∧x≤most)∧(rMany k most r).1.length≤k
  |0,_,_,_,_=>⟨by simp [rMany],by simp [rMany]⟩
  |k + 1,most,r,hm,h=>by
    rw [rMany_succ]
    split
    · exact ⟨by simp,by simp⟩
    · obtain ⟨h1,h2⟩:=rMany_val k hm (rdNum_bd (most:=most) h)
      refine ⟨fun x hx=>?_,by rw [List.length_cons];omega⟩
      rcases List.mem_cons.1 hx with rfl|hx
      · exact rdNum_val h hm
      · exact h1 x hx
theorem rList_bd {most each:Int} {r:Rd} (h:∀ x∈r.bs,0≤x∧x<256):∀ x∈(rList most each r).2.bs,0≤x∧x<256:=rMany_bd _ _ (rdNum_bd h)
theorem rList_val {most each:Int} {r:Rd} (h:∀ x∈r.bs,0≤x∧x<256) (hm:0≤most) (he:0≤each):(∀ x∈(rList most each r).1,0≤x∧x≤each)∧((rList most each r).1.length:Int)≤most:=by
  obtain ⟨h1,h2⟩:=rMany_val (rdNum most r).1.toNat he (rdNum_bd (most:=most) h)
  have:=rdNum_val h hm
  exact ⟨h1,by show ((rMany _ _ _).1.length:Int)≤_;omega⟩
theorem rlist_spec {b:Nat} {s:Sl} {bs:List Int} {rd:Rd} {most each:Int} (h0:0≤most) (h1:most<1000000) (h2:0≤each) (h3:each<9223372036854775808) (hl:bs.length≤1099511627776) (hbs:∀ x∈bs,0≤x∧x<256) (hb:∀ x∈rd.bs,0≤x∧x<256) (hs:SlR R.m s (b8 bs)) (hw:Sat R (RRdAt b s bs rd::Hs) w):
    Gets Tryz.prog 219 #[.pointer (some ⟨b,0,none⟩),.int .u64 most,.int .u64 each] w fun v w'=>∃ t:Sl,v=.slice t.a t.len t.cap∧Sat R (Own t 3 (intsI (rList most each rd).1)::RRdAt b s bs (rList most each rd).2::Hs) w':=by
  apply call219
  suffices H:∀ K:Value→World→Prop,(∀ (t:Sl) w',Sat R (Own t 3 (intsI (rList most each rd).1)::RRdAt b s bs (rList most each rd).2::Hs) w'→K (.slice t.a t.len t.cap) w')→B219 (some ⟨b,0,none⟩) most each K w from H _ fun t w' h=>⟨t,rfl,h⟩
  intro K hK
  refine (rrnum_spec hl hbs hs hw).use ?_
  clear hw
  rintro _ w ⟨rfl,hw⟩
  refine ⟨_,rfl,?_⟩
  have hv:=rdNum_val (most:=most) hb h0
  have hb1:=rdNum_bd (most:=most) hb
  obtain ⟨n,hn⟩:=Int.eq_ofNat_of_zero_le hv.1
  have hrl:rList most each rd=rMany n each (rdNum most rd).2:=by unfold rList;rw [hn];rfl
  rw [hrl] at hK
  rw [hn]
  rw [hn] at hv
  generalize (rdNum most rd).2=rd1 at *
  refine ⟨fun out i w=>∃ (j:Nat) (acc:List Int) (rdj:Rd),i=j∧j≤n∧acc.length=j∧(∀ x∈rdj.bs,0≤x∧x<256)∧(acc++(rMany (n - j) each rdj).1,(rMany (n - j) each rdj).2)=rMany n each rd1∧Sat R (Own out 3 (intsI acc)::RRdAt b s bs rdj::Hs) w,fun _ i _=>n - i.toNat,⟨0,[],rd1,rfl,by omega,rfl,hb1,rfl,Own.nil hw⟩,?_⟩
  clear hw
  rintro _ out _ w ⟨j,acc,rdj,rfl,hj,hacc,hbj,he,hw⟩
  refine Br.d (fun h=>?_) (fun h=>?_)
  · obtain ⟨m,hm⟩:∃ m,n - j=m + 1:=⟨n - j - 1,by omega⟩
    rw [hm,rMany_succ] at he
    obtain ⟨nn,hnn,hw⟩:=Sat.rrd.1 hw.swap
    refine NilP.mk rfl ⟨rdj.bad,At.own (eqS hw) (by exact ⟨rfl,trivial⟩),Br.nb (fun h4=>?_) (fun h4=>?_)⟩
    · have hw:=(Sat.rrd.2 ⟨nn,hnn,hw⟩:Sat R (RRdAt b s bs rdj::Own out 3 (intsI acc)::Hs) w)
      rw [if_neg (by rw [h4];simp)] at he
      refine (rrnum_spec hl hbs hs hw).use ?_
      clear hw
      rintro _ w ⟨rfl,hw⟩
      have hvk:=rdNum_val (most:=each) hbj h2
      refine ⟨_,rfl,?_⟩
      refine pushI_rule elI8 hw.swap (by omega) fun s' w hw=>?_
      rw [wrap64 (by omega) (by omega)] at hw
      rw [wrapU64 (by omega) (by omega)]
      refine ⟨⟨j + 1,acc++[(rdNum each rdj).1],(rdNum each rdj).2,by omega,by omega,by simp [hacc],rdNum_bd hbj,?_,hw⟩,by dsimp only;omega⟩
      rw [show n - (j + 1)=m by omega,←he,List.append_assoc]
      rfl
    · have hw:=(Sat.rrd.2 ⟨nn,hnn,hw⟩:Sat R (RRdAt b s bs rdj::Own out 3 (intsI acc)::Hs) w)
      rw [if_pos h4] at he
      rw [←he] at hK
      refine hK out w ?_
      rw [List.append_nil]
      exact hw.swap
  · obtain rfl:j=n:=by omega
    rw [Nat.sub_self] at he
    rw [←he] at hK
    refine hK out w ?_
    show Sat R (Own out 3 (intsI (acc++[]))::RRdAt b s bs rdj::Hs) w
    rw [List.append_nil]
    exact hw
structure OkAt (r:RF) (j:Nat) (hj:j<r.L.length):Prop where
  o:1≤r.L[j].owner
  p:∀ h:0<j,r.L[j - 1].owner<r.L[j].owner
  c:r.L[j].cls<r.lims.length
  m:1≤r.L[j].many
  n:(r.L[j].seats.length:Int)≤r.L[j].many
  s:∀ k (hk:k<r.L[j].seats.length),r.L[j].seats[k] ∉ takenL (r.L.take j)++r.L[j].seats.take k∧r.L[j].seats[k]<layN r.rows r.grps∧∀ h:0<k,r.L[j].seats[k - 1]<r.L[j].seats[k]
structure MayP (r:RF):Prop where
  num:1≤r.num
  lay:layOk r.rows r.grps=true
  lim:limOk r.lims=true
  l0:r.lims.getD 0 0=layN r.rows r.grps
  each:∀ j (hj:j<r.L.length),OkAt r j hj
  nest:nestOk r.lims r.sold=true
structure RIn (r:RF):Prop where
  gl:r.grps.length≤1000
  ll:r.lims.length≤1000
  hl:r.L.length≤1000
  hs:∀ h∈r.L,HoldIn h
theorem may_spec {q:Nat} {r:RF} {sg sl s:Sl} {ts:List Sl} (h:RfR R r sg sl s ts) (ri:RIn r) (hw:Sat R (pts q (rCells r sg sl s)::Hs) w):
    Gets Tryz.prog 220 #[.pointer (some ⟨q,0,none⟩)] w fun v w'=>((MayP r∧v=.bool true)∨(¬ MayP r∧v=.bool false))∧Sat R (pts q (rCells r sg sl s)::Hs) w':=by
  have hsl:=h.len
  have htl:=h.hs.len
  have:=ri.gl
  have:=ri.ll
  have:=ri.hl
  have hgo:=h.grps.ro (R:=R) (by rw [List.length_map];omega)
  have hlo:=h.lims.ro (R:=R) (by rw [List.length_map];omega)
  have hll:sl.len=r.lims.length:=by have:=h.lims.len;rwa [List.length_map] at this
  apply call220
  suffices H:∀ K:Value→World→Prop,(MayP r→∀ w',Sat R (pts q (rCells r sg sl s)::Hs) w'→K (.bool true) w')→(¬ MayP r→∀ w',Sat R (pts q (rCells r sg sl s)::Hs) w'→K (.bool false) w')→B220 (some ⟨q,0,none⟩) K w from
    H _ (fun h w' h'=>⟨.inl ⟨h,rfl⟩,h'⟩) fun h w' h'=>⟨.inr ⟨h,rfl⟩,h'⟩
  intro K hK1 hK2
  refine NilP.mk rfl ⟨r.rows,sg,At.own (eqS hw) (by exact ⟨rfl,rfl,trivial⟩),?_⟩
  refine (rright_spec hgo hw).use ?_
  clear hw
  rintro _ w ⟨rfl,hw⟩
  refine ⟨_,rfl,NilP.mk rfl ⟨sl,At.own (eqS hw) (by exact ⟨rfl,trivial⟩),?_⟩⟩
  refine (rlim_spec hlo hw).use ?_
  clear hw
  rintro _ w ⟨rfl,hw⟩
  refine ⟨_,rfl,fun w=>(1≤r.num∧layOk r.rows r.grps=true∧limOk r.lims=true∧r.lims.getD 0 0=layN r.rows r.grps)∧Sat R (pts q (rCells r sg sl s)::Hs) w,?_,?_⟩
  · refine drw_rule hw fun w hw=>?_
    refine NilP.mk rfl ⟨r.num,by rw [add_off];exact At.own selfS (by exact ⟨rfl,trivial⟩),?_⟩
    refine Br.d (fun h1=>hK2 (fun m=>by have:=m.num;omega) _ hw) (fun h1=>?_)
    refine Br.nb (fun h2=>hK2 (fun m=>by rw [m.lay] at h2;cases h2) _ hw) (fun h2=>?_)
    refine Br.nb (fun h3=>hK2 (fun m=>by rw [m.lim] at h3;cases h3) _ hw) (fun h3=>?_)
    have hl0:0<r.lims.length:=(limOk_iff.1 h3).1.1
    refine NilP.mk rfl ⟨sl,At.own selfS (by exact ⟨rfl,trivial⟩),?_⟩
    refine Ro.ix hlo selfS 0 rfl hl0 (F:=fun t=>_) ?_
    refine NilP.mk rfl ⟨r.rows,sg,At.own selfS (by exact ⟨rfl,rfl,trivial⟩),?_⟩
    refine (rcount_spec hgo hw).use ?_
    clear hw
    rintro _ w ⟨rfl,hw⟩
    refine ⟨_,rfl,hw,Br.ne (fun h4=>hK2 (fun m=>h4 (by rw [←getD_lt hl0];exact m.l0)) _ hw) (fun h4=>⟨⟨by omega,h2,h3,by rw [getD_lt hl0];exact h4⟩,hw⟩)⟩
  clear hw
  rintro _ w ⟨⟨h1,h2,h3,h4⟩,hw⟩
  refine ⟨fun told i w=>∃ j:Nat,i=j∧j≤r.L.length∧(∀ x (hx:x<r.L.length),x<j→OkAt r x hx)∧Sat R (Own told 3 (intsI (takenL (r.L.take j)))::pts q (rCells r sg sl s)::Hs) w,fun _ i _=>r.L.length - i.toNat,⟨0,rfl,by omega,fun x hx hx0=>by omega,Own.nil hw⟩,?_⟩
  clear hw
  rintro _ told _ w ⟨j,rfl,hj,hok,hw⟩
  refine NilP.mk rfl ⟨s,At.own (eqS hw) (by exact ⟨rfl,trivial⟩),Br.d (fun h5=>?_) (fun h5=>?_)⟩
  · have j1:j<r.L.length:=by omega
    have j2:j<ts.length:=by omega
    have hin:=ri.hs r.L[j] (List.getElem_mem _)
    have hin_n:=hin.n
    have hro:RoI R ts[j] r.L[j].seats:=(h.hs.seats j j1 j2).ro (by rw [List.length_map];omega)
    have hrl:=hro.len
    have htk:=takenL_len (L:=r.L.take j) fun x hx=>by have:=(ri.hs x (List.mem_of_mem_take hx)).n;omega
    rw [List.length_take,Nat.min_eq_left hj] at htk
    refine NilP.mk rfl ⟨s,At.own (eqS hw) (by exact ⟨rfl,trivial⟩),?_⟩
    refine h.hs.row (eqS hw) j1 j2 fun a ha=>⟨r.L[j].owner,r.L[j].cls,r.L[j].many,ts[j],ha,?_⟩
    refine new_rule hw fun bh w hw=>?_
    have hw:Sat R (pts bh emH::Own told 3 (intsI (takenL (r.L.take j)))::pts q (rCells r sg sl s)::Hs) w:=hw
    refine store_rule hw (by kernel_rfl) rfl (by simp [Value.cells]) fun w hw=>?_
    have hw:=hw.re (pts bh (hCells r.L[j] ts[j]))
    have bad:∀ {w:World} {l:List Int},¬ OkAt r j j1→Sat R (pts bh (hCells r.L[j] ts[j])::Own told 3 (intsI l)::pts q (rCells r sg sl s)::Hs) w→K (.bool false) w:=fun hn hw=>hK2 (fun m=>hn (m.each j j1)) _ hw.drop.drop
    refine ⟨fun w=>(1≤r.L[j].owner∧(∀ h:0<j,r.L[j - 1].owner<r.L[j].owner)∧r.L[j].cls<r.lims.length∧1≤r.L[j].many∧(r.L[j].seats.length:Int)≤r.L[j].many)∧Sat R (pts bh (hCells r.L[j] ts[j])::Own told 3 (intsI (takenL (r.L.take j)))::pts q (rCells r sg sl s)::Hs) w,?_,?_⟩
    · refine drw_rule hw fun w hw=>?_
      refine ⟨r.L[j].owner,At.own selfS (by exact ⟨rfl,trivial⟩),Br.d (fun h6=>bad (fun o=>by have:=o.o;omega) hw) (fun h6=>?_)⟩
      have rest:(∀ h:0<j,r.L[j - 1].owner<r.L[j].owner)→(∃ t86:Int,(At (Sat R (pts bh (hCells r.L[j] ts[j])::Own told 3 (intsI (takenL (r.L.take j)))::pts q (rCells r sg sl s)::Hs)) ⟨bh,0 + 1,none⟩ [.int .i64 t86])∧
            NilP (some ⟨q,0,none⟩) fun a_t88=>
            ∃ t90:Sl,(At (Sat R (pts bh (hCells r.L[j] ts[j])::Own told 3 (intsI (takenL (r.L.take j)))::pts q (rCells r sg sl s)::Hs)) ⟨a_t88.block,a_t88.off + 3,none⟩ [.slice t90.a t90.len t90.cap])∧
            Br (decide (t86 ≥ (↑t90.len:Int)))
             (K (.bool false) w)
             (∃ t96:Int,(At (Sat R (pts bh (hCells r.L[j] ts[j])::Own told 3 (intsI (takenL (r.L.take j)))::pts q (rCells r sg sl s)::Hs)) ⟨bh,0 + 2,none⟩ [.int .i64 t96])∧
              Br (decide (t96<1))
               (K (.bool false) w)
               (∃ t101:Sl,(At (Sat R (pts bh (hCells r.L[j] ts[j])::Own told 3 (intsI (takenL (r.L.take j)))::pts q (rCells r sg sl s)::Hs)) ⟨bh,0 + 3,none⟩ [.slice t101.a t101.len t101.cap])∧
                ∃ t104:Int,(At (Sat R (pts bh (hCells r.L[j] ts[j])::Own told 3 (intsI (takenL (r.L.take j)))::pts q (rCells r sg sl s)::Hs)) ⟨bh,0 + 2,none⟩ [.int .i64 t104])∧
                Br (decide ((↑t101.len:Int)>t104))
                 (K (.bool false) w)
                 ((1≤r.L[j].owner∧(∀ h:0<j,r.L[j - 1].owner<r.L[j].owner)∧r.L[j].cls<r.lims.length∧1≤r.L[j].many∧(r.L[j].seats.length:Int)≤r.L[j].many)∧Sat R (pts bh (hCells r.L[j] ts[j])::Own told 3 (intsI (takenL (r.L.take j)))::pts q (rCells r sg sl s)::Hs) w)))):=fun hp=>by
        refine ⟨r.L[j].cls,At.own selfS (by exact ⟨rfl,trivial⟩),NilP.mk rfl ⟨sl,At.own selfS (by exact ⟨rfl,trivial⟩),?_⟩⟩
        rw [hll]
        refine Br.d (fun h7=>bad (fun o=>by have:=o.c;omega) hw) (fun h7=>⟨r.L[j].many,At.own selfS (by exact ⟨rfl,trivial⟩),Br.d (fun h8=>bad (fun o=>by have:=o.m;omega) hw) (fun h8=>⟨ts[j],At.own selfS (by exact ⟨rfl,trivial⟩),r.L[j].many,At.own selfS (by exact ⟨rfl,trivial⟩),?_⟩)⟩)
        rw [hrl]
        exact Br.d (fun h9=>bad (fun o=>by have:=o.n;omega) hw) (fun h9=>⟨⟨by omega,hp,by omega,by omega,by omega⟩,hw⟩)
      refine Br.d (fun h7=>?_) (fun h7=>rest fun h=>by omega)
      refine ⟨r.L[j].owner,At.own selfS (by exact ⟨rfl,trivial⟩),NilP.mk rfl ⟨s,At.own selfS (by exact ⟨rfl,trivial⟩),?_⟩⟩
      have e1:IntKind.i64.wrap ((j:Int) - 1)=((j - 1:Nat):Int):=by rw [wrap64 (by omega) (by omega)];omega
      rw [e1]
      refine h.hs.fld (j:=0) selfS (k:=j - 1) (by omega) (by omega) rfl fun x nx hx=>⟨r.L[j - 1].owner,by rw [show ((j - 1:Nat):Int).toNat=j - 1 by omega,add_zero_fld _ _ nx];exact hx,?_⟩
      refine Br.d (fun h8=>bad (fun o=>by have:=o.p (by omega);omega) hw) (fun h8=>rest fun _=>by omega)
    clear hw
    rintro _ w ⟨⟨o1,o2,o3,o4,o5⟩,hw⟩
    refine ⟨fun told i w=>∃ k:Nat,i=k∧k≤r.L[j].seats.length∧(∀ x (hx:x<r.L[j].seats.length),x<k→r.L[j].seats[x] ∉ takenL (r.L.take j)++r.L[j].seats.take x∧r.L[j].seats[x]<layN r.rows r.grps∧∀ h:0<x,r.L[j].seats[x - 1]<r.L[j].seats[x])∧
      Sat R (pts bh (hCells r.L[j] ts[j])::Own told 3 (intsI (takenL (r.L.take j)++r.L[j].seats.take k))::pts q (rCells r sg sl s)::Hs) w,fun _ i _=>r.L[j].seats.length - i.toNat,⟨0,rfl,by omega,fun x hx hx0=>by omega,by simpa using hw⟩,?_⟩
    clear hw
    rintro _ told2 _ w ⟨k,rfl,hk,hks,hw⟩
    have hTl:(takenL (r.L.take j)++r.L[j].seats.take k).length≤2000000:=by rw [List.length_append,List.length_take];omega
    refine ⟨ts[j],At.own (eqS hw) (by exact ⟨rfl,trivial⟩),?_⟩
    refine Br.d (fun h6=>?_) (fun h6=>?_)
    · have hk1:k<r.L[j].seats.length:=by omega
      have bad2:∀ {w:World},¬ (r.L[j].seats[k] ∉ takenL (r.L.take j)++r.L[j].seats.take k∧r.L[j].seats[k]<layN r.rows r.grps∧∀ h:0<k,r.L[j].seats[k - 1]<r.L[j].seats[k])→Sat R (pts bh (hCells r.L[j] ts[j])::Own told2 3 (intsI (takenL (r.L.take j)++r.L[j].seats.take k))::pts q (rCells r sg sl s)::Hs) w→K (.bool false) w:=fun hn hw=>hK2 (fun m=>hn ((m.each j j1).s k hk1)) _ hw.drop.drop
      refine ⟨ts[j],At.own (eqS hw) (by exact ⟨rfl,trivial⟩),?_⟩
      refine Ro.ix hro (eqS hw) k rfl hk1 ?_
      obtain ⟨R2,hrk,keep,hw,back2⟩:=Own.lendI hw.swap (by omega)
      refine (has_spec hrk hw).use ?_
      clear hw
      rintro _ w ⟨rfl,hw⟩
      have hw:=(back2 hw).swap
      refine ⟨_,rfl,drw_rule hw fun w hw=>Br.d (fun h7=>bad2 (fun hh=>hh.1 h7) hw) (fun h7=>?_)⟩
      refine ⟨ts[j],At.own selfS (by exact ⟨rfl,trivial⟩),?_⟩
      refine Ro.ix hro selfS k rfl hk1 ?_
      refine NilP.mk rfl ⟨r.rows,sg,At.own selfS (by exact ⟨rfl,rfl,trivial⟩),?_⟩
      refine (rcount_spec hgo hw).use ?_
      clear hw
      rintro _ w ⟨rfl,hw⟩
      refine ⟨_,rfl,hw,Br.d (fun h8=>bad2 (fun hh=>by have:=hh.2.1;omega) hw) (fun h8=>?_)⟩
      have fin:(∀ h:0<k,r.L[j].seats[k - 1]<r.L[j].seats[k])→∀ {s':Sl} {w:World},Sat R (Own s' 3 (intsI (takenL (r.L.take j)++r.L[j].seats.take k++[r.L[j].seats[k]]))::pts bh (hCells r.L[j] ts[j])::pts q (rCells r sg sl s)::Hs) w→
          (∃ k_1:Nat,IntKind.i64.wrap ((k:Int) + 1)=k_1∧k_1≤r.L[j].seats.length∧(∀ x (hx:x<r.L[j].seats.length),x<k_1→r.L[j].seats[x] ∉ takenL (r.L.take j)++r.L[j].seats.take x∧r.L[j].seats[x]<layN r.rows r.grps∧∀ h:0<x,r.L[j].seats[x - 1]<r.L[j].seats[x])∧
            Sat R (pts bh (hCells r.L[j] ts[j])::Own s' 3 (intsI (takenL (r.L.take j)++r.L[j].seats.take k_1))::pts q (rCells r sg sl s)::Hs) w):=fun hp {s' w} hw=>by
        rw [wrap64 (by omega) (by omega)]
        refine ⟨k + 1,by omega,by omega,fun x hx hxk=>?_,?_⟩
        · by_cases hxe:x=k
          · subst hxe;exact ⟨h7,by omega,hp⟩
          · exact hks x hx (by omega)
        · rw [show r.L[j].seats.take (k + 1)=r.L[j].seats.take k++[r.L[j].seats[k]] by rw [List.take_add_one,List.getElem?_eq_getElem hk1];rfl,←List.append_assoc]
          exact hw.swap
      have wr:IntKind.i64.wrap ((k:Int) + 1)=(k:Int) + 1:=wrap64 (by omega) (by omega)
      refine Br.d (fun h9=>?_) (fun h9=>?_)
      · refine ⟨ts[j],At.own selfS (by exact ⟨rfl,trivial⟩),?_⟩
        refine Ro.ix hro selfS k rfl hk1 ⟨ts[j],At.own selfS (by exact ⟨rfl,trivial⟩),?_⟩
        refine Ro.ix hro selfS (k - 1) (by rw [wrap64 (by omega) (by omega)];omega) (by omega) ?_
        refine Br.d (fun h10=>bad2 (fun hh=>by have:=hh.2.2 (by omega);omega) hw) (fun h10=>⟨ts[j],At.own (eqS hw) (by exact ⟨rfl,trivial⟩),?_⟩)
        refine Ro.ix hro (eqS hw) k rfl hk1 ?_
        refine pushI_rule elI8 hw.swap (by omega) fun s' w hw=>?_
        exact ⟨fin (fun _=>by omega) hw,by dsimp only;omega⟩
      · refine ⟨ts[j],At.own (eqS hw) (by exact ⟨rfl,trivial⟩),?_⟩
        refine Ro.ix hro (eqS hw) k rfl hk1 ?_
        refine pushI_rule elI8 hw.swap (by omega) fun s' w hw=>?_
        exact ⟨fin (fun h=>by omega) hw,by dsimp only;omega⟩
    · rw [List.take_of_length_le (show r.L[j].seats.length≤k by omega),←takenL_take j1] at hw
      rw [wrap64 (by omega) (by omega)]
      refine ⟨⟨j + 1,by omega,by omega,fun x hx hxj=>?_,hw.drop⟩,by dsimp only;omega⟩
      by_cases hxe:x=j
      · subst hxe;exact ⟨o1,o2,o3,o4,o5,fun y hy=>hks y hy (by omega)⟩
      · exact hok x hx (by omega)
  · have hall:∀ x (hx:x<r.L.length),OkAt r x hx:=fun x hx=>hok x hx (by omega)
    have hw:=hw.drop
    refine drw_rule hw fun w hw=>?_
    refine NilP.mk rfl ⟨sl,At.own selfS (by exact ⟨rfl,trivial⟩),?_⟩
    refine (rsold_spec h (by omega) (by omega) (fun x hx=>?_) hw).use ?_
    · obtain ⟨i,hi,rfl⟩:=List.getElem_of_mem hx
      have h6:=ri.hs r.L[i] hx
      exact ⟨⟨h6.c.1,(hall i hi).c⟩,⟨h6.m.1,by have:=h6.m.2;omega⟩⟩
    clear hw
    rintro _ w ⟨t,rfl,hw⟩
    refine ⟨t,rfl,hw.drop,?_⟩
    obtain ⟨R2,hrk,keep,hw,back2⟩:=Own.lendI hw (by show (soldL _ _).length≤_;rw [soldL_len];omega)
    refine (rnright_spec (keep _ _ hlo) hrk hw).use ?_
    clear hw
    rintro _ w ⟨rfl,hw⟩
    have hw:=(back2 hw).drop
    refine ⟨_,rfl,?_⟩
    cases hn:nestOk r.lims r.sold with
    |true=>exact hK1 ⟨h1,h2,h3,h4,hall,hn⟩ _ hw
    |false=>exact hK2 (fun m=>by rw [m.nest] at hn;cases hn) _ hw
end Go.Proofs.YtlplemdmegpoeaaGreatDoor
/- Reference 15: Decode. Condition: bounds. -/
namespace Go.Proofs.YtlplemdmegpoeaaGreatDoor
set_option linter.unusedVariables false
set_option linter.unusedSimpArgs false
open Go Go.VC
variable {R R':Cx} {Hs Rest:List HP} {w:World}
def readHr (rd:Rd):Hold × Rd:=
 (⟨(rdNum 28629151 rd).1,(rdNum 8 (rdNum 28629151 rd).2).1,(rdNum 600 (rdNum 8 (rdNum 28629151 rd).2).2).1,(rList 600 600 (rdNum 600 (rdNum 8 (rdNum 28629151 rd).2).2).2).1⟩,(rList 600 600 (rdNum 600 (rdNum 8 (rdNum 28629151 rd).2).2).2).2)
def rHs:Nat→Rd→List Hold × Rd
 |0,rd=>([],rd)
 |k + 1,rd=>if rd.bad then ([],rd) else ((readHr rd).1::(rHs k (readHr rd).2).1,(rHs k (readHr rd).2).2)
theorem rHs_succ (k:Nat) (rd:Rd):rHs (k + 1) rd=if rd.bad then ([],rd) else ((readHr rd).1::(rHs k (readHr rd).2).1,(rHs k (readHr rd).2).2):=rfl
theorem readHr_bd {rd:Rd} (h:∀ x∈rd.bs,0≤x∧x<256):∀ x∈(readHr rd).2.bs,0≤x∧x<256:=rList_bd (rdNum_bd (rdNum_bd (rdNum_bd h)))
theorem readHr_val {rd:Rd} (h:∀ x∈rd.bs,0≤x∧x<256):HoldIn (readHr rd).1:=by
 have h1:=rdNum_bd (most:=28629151) h
 have h2:=rdNum_bd (most:=8) h1
 have h3:=rdNum_bd (most:=600) h2
 have hl:=rList_val (most:=600) (each:=600) h3 (by omega) (by omega)
 exact ⟨rdNum_val h (by omega),rdNum_val h1 (by omega),rdNum_val h2 (by omega),hl.1,by have:=hl.2;show (rList _ _ _).1.length≤600;omega⟩
def rawR (bs:List Int):Raw:=
 let a:=rdNum 9999 ⟨bs,false⟩
 let b:=rdNum 60 a.2
 let g:=rList 4 10 b.2
 let l:=rList 8 10000 g.2
 let n:=rdNum 600 l.2
 let x:=rHs n.1.toNat n.2
 ⟨a.1,b.1,g.1,l.1,x.1,x.2⟩
def Raw.rf (x:Raw):RF:=⟨x.num,x.rows,x.grps,x.lims,x.L⟩
set_option maxHeartbeats 1000000 in
theorem rdecode_fspec {s:Sl} {bs:List Int} (hb:∀ y∈bs,0≤y∧y<256) (hs:SlR R.m s (b8 bs)) (hl:bs.length≤1099511627776) (hw:Sat R Hs w):
  Gets Tryz.prog 144 #[.slice s.a s.len s.cap] w fun v w'=>(¬ (rdWhole (rawR bs).rd=true∧MayP (rawR bs).rf)∧v=.tuple #[.pointer none,.int .i64 6]∧Sat R Hs w')∨
   (rdWhole (rawR bs).rd=true∧MayP (rawR bs).rf∧∃ q,v=.tuple #[.pointer (some ⟨q,0,none⟩),.int .i64 0]∧Sat R (RFAt q (rawR bs).rf::Hs) w'):=by
 apply call144
 suffices H:∀ K:Value→World→Prop,(¬ (rdWhole (rawR bs).rd=true∧MayP (rawR bs).rf)→∀ w',Sat R Hs w'→K (.tuple #[.pointer none,.int .i64 6]) w')→(rdWhole (rawR bs).rd=true∧MayP (rawR bs).rf→∀ q w',Sat R (RFAt q (rawR bs).rf::Hs) w'→K (.tuple #[.pointer (some ⟨q,0,none⟩),.int .i64 0]) w')→B144 s K w from
  H _ (fun e w' h=>.inl ⟨e,rfl,h⟩) fun e q w' h=>.inr ⟨e.1,e.2,q,rfl,h⟩
 intro K hK1 hK2
 have hb0:∀ y∈(⟨bs,false⟩:Rd).bs,0≤y∧y<256:=hb
 have v1:=rdNum_val (most:=9999) hb0 (by omega)
 have hb1:=rdNum_bd (most:=9999) hb0
 obtain ⟨num,rd1,e1⟩:∃ y rd,rdNum 9999 ⟨bs,false⟩=(y,rd):=⟨_,_,rfl⟩
 rw [e1] at v1 hb1
 have v2:=rdNum_val (most:=60) hb1 (by omega)
 have hb2:=rdNum_bd (most:=60) hb1
 obtain ⟨rows,rd2,e2⟩:∃ y rd,rdNum 60 rd1=(y,rd):=⟨_,_,rfl⟩
 rw [e2] at v2 hb2
 have v3:=rList_val (most:=4) (each:=10) hb2 (by omega) (by omega)
 have hb3:=rList_bd (most:=4) (each:=10) hb2
 obtain ⟨grps,rd3,e3⟩:∃ y rd,rList 4 10 rd2=(y,rd):=⟨_,_,rfl⟩
 rw [e3] at v3 hb3
 have v4:=rList_val (most:=8) (each:=10000) hb3 (by omega) (by omega)
 have hb4:=rList_bd (most:=8) (each:=10000) hb3
 obtain ⟨lims,rd4,e4⟩:∃ y rd,rList 8 10000 rd3=(y,rd):=⟨_,_,rfl⟩
 rw [e4] at v4 hb4
 have v5:=rdNum_val (most:=600) hb4 (by omega)
 have hb5:=rdNum_bd (most:=600) hb4
 obtain ⟨nz,rd5,e5⟩:∃ y rd,rdNum 600 rd4=(y,rd):=⟨_,_,rfl⟩
 rw [e5] at v5 hb5
 dsimp only at v1 v2 v3 v4 v5 hb1 hb2 hb3 hb4 hb5
 obtain ⟨n,rfl⟩:=Int.eq_ofNat_of_zero_le v5.1
 have hraw:rawR bs=⟨num,rows,grps,lims,(rHs n rd5).1,(rHs n rd5).2⟩:=by
  unfold rawR
  simp only [e1,e2,e3,e4,e5]
  rfl
 refine new_rule hw fun b w hw=>?_
 have hw:Sat R (pts b (rrCells s 0 false)::Hs) w:=hw
 have hw:Sat R (RRdAt b s bs ⟨bs,false⟩::Hs) w:=Sat.rrd.2 ⟨0,⟨by omega,rfl⟩,hw⟩
 refine (rrnum_spec hl hb hs hw).use ?_
 clear hw
 rintro _ w ⟨rfl,hw⟩
 rw [e1] at hw ⊢
 refine ⟨_,rfl,?_⟩
 refine (rrnum_spec hl hb hs hw).use ?_
 clear hw
 rintro _ w ⟨rfl,hw⟩
 rw [e2] at hw ⊢
 refine ⟨_,rfl,?_⟩
 rw [wrap64 (x:=num) (by omega) (by omega),wrap64 (x:=rows) (by omega) (by omega)]
 refine new_rule hw fun q w hw=>?_
 have hw:Sat R (RRdAt b s bs rd2::pts q (rCells ⟨num,rows,[],[],[]⟩ ⟨none,0,0⟩ ⟨none,0,0⟩ ⟨none,0,0⟩)::Hs) w:=hw.swap
 refine (rlist_spec (most:=4) (each:=10) (by omega) (by omega) (by omega) (by omega) hl hb hb2 hs hw).use ?_
 clear hw
 rintro _ w ⟨tg,rfl,hw⟩
 rw [e3] at hw
 refine ⟨tg,rfl,?_⟩
 have hw:Sat R (pts q (rCells ⟨num,rows,[],[],[]⟩ ⟨none,0,0⟩ ⟨none,0,0⟩ ⟨none,0,0⟩)::RRdAt b s bs rd3::Own tg 3 (intsI grps)::Hs) w:=hw.arr
 refine store_rule hw (by kernel_rfl) rfl (by simp [Value.cells]) fun w hw=>?_
 have hw:=hw.re (pts q (rCells ⟨num,rows,[],[],[]⟩ tg ⟨none,0,0⟩ ⟨none,0,0⟩))
 refine (rlist_spec (most:=8) (each:=10000) (by omega) (by omega) (by omega) (by omega) hl hb hb3 hs hw.swap).use ?_
 clear hw
 rintro _ w ⟨tl,rfl,hw⟩
 rw [e4] at hw
 refine ⟨tl,rfl,?_⟩
 have hw:Sat R (pts q (rCells ⟨num,rows,[],[],[]⟩ tg ⟨none,0,0⟩ ⟨none,0,0⟩)::RRdAt b s bs rd4::Own tl 3 (intsI lims)::Own tg 3 (intsI grps)::Hs) w:=hw.arr
 refine store_rule hw (by kernel_rfl) rfl (by simp [Value.cells]) fun w hw=>?_
 have hw:=hw.re (pts q (rCells ⟨num,rows,grps,lims,[]⟩ tg tl ⟨none,0,0⟩))
 refine (rrnum_spec hl hb hs hw.swap).use ?_
 clear hw
 rintro _ w ⟨rfl,hw⟩
 rw [e5] at hw ⊢
 refine ⟨_,rfl,?_⟩
 dsimp only at hw ⊢
 have hw:Sat R (Own tg 3 (intsI grps)::Own tl 3 (intsI lims)::pts q (rCells ⟨num,rows,grps,lims,[]⟩ tg tl ⟨none,0,0⟩)::RRdAt b s bs rd5::Hs) w:=hw.arr
 have hw:Sat R (RO q ⟨num,rows,grps,lims,[]⟩ tg tl ⟨none,0,0⟩ [] (RRdAt b s bs rd5::Hs)) w:=Own.reads (hw.cons fun _ h=>Own.reads (h.cons fun _ h=>h.cons fun _ h=>OwnN.nil (Sat.star.2 h)))
 obtain ⟨J,hJ⟩:∃ J:World→Prop,∀ w,J w↔∃ (sh:Sl) (ts:List Sl),ts.length=(rHs n rd5).1.length∧((rHs n rd5).1.length≤n∧∀ h∈(rHs n rd5).1,HoldIn h)∧Sat R (RO q ⟨num,rows,grps,lims,(rHs n rd5).1⟩ tg tl sh ts (RRdAt b s bs (rHs n rd5).2::Hs)) w:=⟨_,fun _=>Iff.rfl⟩
 refine ⟨J,?_,?_⟩
 ·refine ⟨fun i w=>∃ (j:Nat) (acc:List Hold) (rdj:Rd) (sh:Sl) (ts:List Sl),i=j∧j≤n∧acc.length=j∧ts.length=acc.length∧(∀ h∈acc,HoldIn h)∧(∀ x∈rdj.bs,0≤x∧x<256)∧(acc++(rHs (n - j) rdj).1,(rHs (n - j) rdj).2)=rHs n rd5∧
   Sat R (RO q ⟨num,rows,grps,lims,acc⟩ tg tl sh ts (RRdAt b s bs rdj::Hs)) w,fun i _=>n - i.toNat,⟨0,[],rd5,⟨none,0,0⟩,[],rfl,by omega,rfl,rfl,fun h hh=>(by cases hh),hb5,rfl,hw⟩,?_⟩
  clear hw
  rintro _ _ w ⟨j,acc,rdj,sh,ts,rfl,hj,hacc,hts,hin,hbj,he,hw⟩
  have fin:(acc,rdj)=rHs n rd5→∀ {w},Sat R (RO q ⟨num,rows,grps,lims,acc⟩ tg tl sh ts (RRdAt b s bs rdj::Hs)) w→J w:=fun e w hw=>by
   refine (hJ w).2 ⟨sh,ts,?_⟩
   rw [←e]
   exact ⟨hts,⟨by show acc.length≤n;omega,hin⟩,hw⟩
  obtain ⟨J1,hJ1⟩:∃ J1:World→Prop,∀ w,J1 w↔(j<n∧rdj.bad=false)∧Sat R (RO q ⟨num,rows,grps,lims,acc⟩ tg tl sh ts (RRdAt b s bs rdj::Hs)) w:=⟨_,fun _=>Iff.rfl⟩
  refine ⟨J1,Br.d (fun h=>?_) (fun h=>?_),?_⟩
  ·have hw2:Sat R (RRdAt b s bs rdj::RO q ⟨num,rows,grps,lims,acc⟩ tg tl sh ts Hs) w:=hw.arr
   obtain ⟨nn,hnn,hw2⟩:=Sat.rrd.1 hw2
   refine ⟨rdj.bad,At.own (eqS hw2) (by exact ⟨rfl,trivial⟩),Br.nb (fun h4=>(hJ1 w).2 ⟨⟨by omega,h4⟩,hw⟩) (fun h4=>?_)⟩
   obtain ⟨m,hm⟩:∃ m,n - j=m + 1:=⟨n - j - 1,by omega⟩
   rw [hm,rHs_succ,if_pos h4,List.append_nil] at he
   exact fin he hw
  ·rw [show n - j=0 by omega] at he
   have he:(acc++[],rdj)=rHs n rd5:=he
   rw [List.append_nil] at he
   exact fin he hw
  clear hw
  intro _ w hJw
  obtain ⟨⟨hjn,h4⟩,hw⟩:=(hJ1 w).1 hJw
  clear hJw hJ1 fin
  obtain ⟨m,hm⟩:∃ m,n - j=m + 1:=⟨n - j - 1,by omega⟩
  rw [hm,rHs_succ,if_neg (by rw [h4];simp)] at he
  have hval:=readHr_val hbj
  have hbn:=readHr_bd hbj
  have c1:=rdNum_bd (most:=28629151) hbj
  have u1:=rdNum_val (most:=28629151) hbj (by omega)
  have c2:=rdNum_bd (most:=8) c1
  have u2:=rdNum_val (most:=8) c1 (by omega)
  have c3:=rdNum_bd (most:=600) c2
  have u3:=rdNum_val (most:=600) c2 (by omega)
  have hw:Sat R (RRdAt b s bs rdj::RO q ⟨num,rows,grps,lims,acc⟩ tg tl sh ts Hs) w:=hw.arr
  refine (rrnum_spec hl hb hs hw).use ?_
  clear hw
  rintro _ w ⟨rfl,hw⟩
  refine ⟨_,rfl,?_⟩
  refine (rrnum_spec hl hb hs hw).use ?_
  clear hw
  rintro _ w ⟨rfl,hw⟩
  refine ⟨_,rfl,?_⟩
  refine (rrnum_spec hl hb hs hw).use ?_
  clear hw
  rintro _ w ⟨rfl,hw⟩
  refine ⟨_,rfl,?_⟩
  refine new_rule hw fun bh w hw=>?_
  have hw:Sat R (pts bh emH::RRdAt b s bs (rdNum 600 (rdNum 8 (rdNum 28629151 rdj).2).2).2::RO q ⟨num,rows,grps,lims,acc⟩ tg tl sh ts Hs) w:=hw
  refine store_rule hw (by kernel_rfl) rfl (by simp [Value.cells]) fun w hw=>?_
  rw [wrap64 (x:=(rdNum 28629151 rdj).1) (by omega) (by omega),wrap64 (x:=(rdNum 8 (rdNum 28629151 rdj).2).1) (by omega) (by omega),wrap64 (x:=(rdNum 600 (rdNum 8 (rdNum 28629151 rdj).2).2).1) (by omega) (by omega)] at hw
  have hw:=hw.re (pts bh (hCells ⟨(rdNum 28629151 rdj).1,(rdNum 8 (rdNum 28629151 rdj).2).1,(rdNum 600 (rdNum 8 (rdNum 28629151 rdj).2).2).1,[]⟩ ⟨none,0,0⟩))
  refine (rlist_spec (most:=600) (each:=600) (by omega) (by omega) (by omega) (by omega) hl hb c3 hs hw.swap).use ?_
  clear hw
  rintro _ w ⟨t,rfl,hw⟩
  refine ⟨t,rfl,?_⟩
  have hw:Sat R (pts bh (hCells ⟨(rdNum 28629151 rdj).1,(rdNum 8 (rdNum 28629151 rdj).2).1,(rdNum 600 (rdNum 8 (rdNum 28629151 rdj).2).2).1,[]⟩ ⟨none,0,0⟩)::Own t 3 (intsI (rList 600 600 (rdNum 600 (rdNum 8 (rdNum 28629151 rdj).2).2).2).1)::RRdAt b s bs (rList 600 600 (rdNum 600 (rdNum 8 (rdNum 28629151 rdj).2).2).2).2::RO q ⟨num,rows,grps,lims,acc⟩ tg tl sh ts Hs) w:=hw.arr
  have hw:Sat R (pts bh (hCells ⟨(rdNum 28629151 rdj).1,(rdNum 8 (rdNum 28629151 rdj).2).1,(rdNum 600 (rdNum 8 (rdNum 28629151 rdj).2).2).1,[]⟩ ⟨none,0,0⟩)::Own t 3 (intsI (readHr rdj).1.seats)::RRdAt b s bs (readHr rdj).2::RO q ⟨num,rows,grps,lims,acc⟩ tg tl sh ts Hs) w:=hw
  refine store_rule hw (by kernel_rfl) rfl (by simp [Value.cells]) fun w hw=>?_
  have hw:=hw.re (pts bh (hCells (readHr rdj).1 t))
  generalize (readHr rdj).1=hd at *
  generalize (readHr rdj).2=rdn at *
  have hw:Sat R (pts q (rCells ⟨num,rows,grps,lims,acc⟩ tg tl sh)::pts bh (hCells hd t)::OwnN 4 sh 197 (rowsH acc ts)::Reads tg (intsI grps)::Reads tl (intsI lims)::SeatsAt acc ts::Own t 3 (intsI hd.seats)::RRdAt b s bs rdn::Hs) w:=hw.arr
  have sx:∀ {Hs':List HP} {w},Sat R (pts q (rCells ⟨num,rows,grps,lims,acc⟩ tg tl sh)::pts bh (hCells hd t)::Hs') w→Sat R [pts q (rCells ⟨num,rows,grps,lims,acc⟩ tg tl sh),pts bh (hCells hd t),VC.tru] w:=fun hw=>hw.cons fun _ h=>h.restTru2
  refine drw_rule' (Sat R [pts q (rCells ⟨num,rows,grps,lims,acc⟩ tg tl sh),pts bh (hCells hd t),VC.tru]) hw (fun w hw=>sx hw) fun w hw=>?_
  refine ⟨sh,At.own selfS (by exact ⟨rfl,trivial⟩),hd.owner,hd.cls,hd.many,t,At.own selfS (by exact ⟨rfl,rfl,rfl,rfl,trivial⟩),?_⟩
  have hrl:=rowsH_len hts
  have hw:=hw.take (OwnN 4 sh 197 (rowsH acc ts))
  refine new_rule hw fun b67 w hw=>?_
  have hw:Sat R (pts b67 (.cells (rowH hd t).toArray 197 (0,0))::OwnN 4 sh 197 (rowsH acc ts)::pts q (rCells ⟨num,rows,grps,lims,acc⟩ tg tl sh)::pts bh (hCells hd t)::Reads tg (intsI grps)::Reads tl (intsI lims)::SeatsAt acc ts::Own t 3 (intsI hd.seats)::RRdAt b s bs rdn::Hs) w:=hw
  refine ⟨(hw.arr:Sat R (pts q (rCells ⟨num,rows,grps,lims,acc⟩ tg tl sh)::pts bh (hCells hd t)::pts b67 (.cells (rowH hd t).toArray 197 (0,0))::OwnN 4 sh 197 (rowsH acc ts)::Reads tg (intsI grps)::Reads tl (intsI lims)::SeatsAt acc ts::Own t 3 (intsI hd.seats)::RRdAt b s bs rdn::Hs) w)|>sx,?_⟩
  have hw:Sat R (OwnN 4 sh 197 (rowsH acc ts)::pts b67 (.cells (rowH hd t).toArray 197 (0,0))::pts q (rCells ⟨num,rows,grps,lims,acc⟩ tg tl sh)::pts bh (hCells hd t)::Reads tg (intsI grps)::Reads tl (intsI lims)::SeatsAt acc ts::Own t 3 (intsI hd.seats)::RRdAt b s bs rdn::Hs) w:=hw.swap
  refine appendN_rule (ys:=[rowH hd t]) elH hw (SrcN_one ⟨_,Tryz.underlying177⟩ (b:=b67) 1 hw rfl rfl) (Wid.one rfl) (by rw [List.length_singleton];omega) (by rw [List.length_singleton];omega) fun s2 w hw=>?_
  have hw:Sat R (pts q (rCells ⟨num,rows,grps,lims,acc⟩ tg tl sh)::pts bh (hCells hd t)::OwnN 4 s2 197 (rowsH acc ts++[rowH hd t])::Reads tg (intsI grps)::Reads tl (intsI lims)::SeatsAt acc ts::Own t 3 (intsI hd.seats)::RRdAt b s bs rdn::Hs) w:=(hw.take (pts b67 (.cells (rowH hd t).toArray 197 (0,0)))).drop.arr
  refine ⟨sx hw,?_⟩
  refine store_rule hw (by kernel_rfl) rfl (by simp [Value.cells]) fun w hw=>?_
  have hw:=hw.re (pts q (rCells ⟨num,rows,grps,lims,acc++[hd]⟩ tg tl s2))
  rw [wrapU64 (by omega) (by omega)]
  refine ⟨⟨j + 1,acc++[hd],rdn,s2,ts++[t],by omega,by omega,by simp [hacc],by simp [hts],fun h hh=>?_,hbn,?_,?_⟩,by dsimp only;omega⟩
  ·rcases List.mem_append.1 hh with hh|hh
   ·exact hin h hh
   ·rw [List.mem_singleton.1 hh];exact hval
  ·rw [show n - (j + 1)=m by omega,←he,List.append_assoc];rfl
  ·have e6:=rowsH_snoc hts hd t
   have hw:Sat R (Reads tg (intsI grps)::Reads tl (intsI lims)::pts q (rCells ⟨num,rows,grps,lims,acc++[hd]⟩ tg tl s2)::OwnN 4 s2 197 (rowsH acc ts++[rowH hd t])::Own t 3 (intsI hd.seats)::SeatsAt acc ts::RRdAt b s bs rdn::Hs) w:=
    (hw.take (pts bh (hCells hd t))).drop.arr
   rw [←e6] at hw
   refine hw.cons fun _ h=>h.cons fun _ h=>h.cons fun _ h=>h.cons fun _ h=>?_
   have h7:=SeatsAt.ins (k:=acc.length) hts (Nat.le_refl _) (Own.reads h)
   rw [List.take_length,List.drop_length,←hts,List.take_length,List.drop_length] at h7
   exact h7
 ·clear hw
  intro _ w hJw
  obtain ⟨sh,ts,hts,⟨hnl,hin⟩,hw⟩:=(hJ w).1 hJw
  clear hJw hJ
  have hrf:(rawR bs).rf=⟨num,rows,grps,lims,(rHs n rd5).1⟩:=by rw [hraw];rfl
  have hrd:(rawR bs).rd=(rHs n rd5).2:=by rw [hraw]
  rw [hrf,hrd] at hK1 hK2
  have hw:Sat R (RRdAt b s bs (rHs n rd5).2::RO q ⟨num,rows,grps,lims,(rHs n rd5).1⟩ tg tl sh ts Hs) w:=hw.arr
  refine (rrwhole_spec hs hw).use ?_
  clear hw
  rintro _ w ⟨rfl,hw⟩
  have hw:=hw.drop
  refine ⟨_,rfl,Br.mk (fun h1=>?_) (fun h1=>hK1 (fun h2=>by rw [h2.1] at h1;cases h1) _ ?_)⟩
  ·obtain ⟨R',ee,h,hw,back⟩:=RO.out hts hw
   refine (may_spec h ⟨by show grps.length≤_;omega,by show lims.length≤_;omega,by show (rHs n rd5).1.length≤_;omega,hin⟩ hw).use ?_
   clear hw
   rintro _ w ⟨hv,hw⟩
   have hw:=back _ _ hw
   rcases hv with ⟨hm,rfl⟩|⟨hm,rfl⟩
   ·exact ⟨_,rfl,Br.f rfl (hK2 ⟨h1,hm⟩ _ _ (Sat.rf.2 ⟨tg,tl,sh,ts,hts,hw⟩))⟩
   ·exact ⟨_,rfl,Br.t rfl (hK1 (fun h2=>hm h2.2) _ hw.drop.drop.drop.drop.drop)⟩
  ·exact hw.drop.drop.drop.drop.drop
end Go.Proofs.YtlplemdmegpoeaaGreatDoor
