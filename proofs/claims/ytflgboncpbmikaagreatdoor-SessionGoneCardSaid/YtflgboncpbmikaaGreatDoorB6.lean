/- Package slices: Insert of one who waits; Delete. Condition: a bound on the length. -/
import Derived.Test.YtflgboncpbmikaaGreatDoorB5
import Derived.Lib.Overlaps
import Derived.Lib.Bytealg
import Derived.Test.YtflgboncpbmikaaGreatDoorB3
import Derived.SizedLaws
namespace Go.Proofs.YtflgboncpbmikaaGreatDoor
set_option linter.unusedVariables false
set_option linter.unusedSimpArgs false
open Go Go.VC
open Classical
variable {R:Cx} {Hs Rest:List HP} {w:World}
theorem ovq_name : (Tryz.f149.name == "runtime.NumGoroutine") = false := by kernel_rfl
theorem ovq_body:Tryz.f149.body.isNone=true:=by kernel_rfl
theorem ovq_next:Extern.findNext Tryz.f149=none:=by kernel_rfl
theorem ovq_find:∃ tR,Extern.find Tryz.f149=some (Extern.SlicesOverlaps.overlaps #[ 170,170 ] #[tR]):=⟨4,by kernel_rfl⟩
theorem elW:ElN Tryz.prog 170 170 wtT 5 40:=⟨Tryz.underlying170,⟨_,Tryz.underlying170⟩,by kernel_rfl⟩
theorem szW1:szOf Tryz.prog wtT=5:=by kernel_rfl
theorem szW (w:World):(sizeOf wtT).run Tryz.prog w=.ok 5 w:=by
 obtain ⟨i,hi⟩:=szOf_pos (P:=Tryz.prog) (t:=wtT) (by rw [szW1];decide)
 have:=sizeOf_run hi w
 rw [szW1] at this
 exact this
theorem wtV_len (x:Wt):(wtV x).length=5:=rfl
theorem wtV_wid (l:List Wt):Wid 5 (l.map wtV):=fun y hy=>by
 obtain ⟨x,_,rfl⟩:=List.mem_map.1 hy
 rfl
theorem wtV_one (x:Wt):oneAll (wtV x)=true:=rfl
theorem wtV_all (l:List Wt):oneAll (l.map wtV).flatten=true:=by
 unfold oneAll
 rw [List.all_eq_true]
 intro v hv
 obtain ⟨r,h1,h2⟩:=List.mem_flatten.1 hv
 obtain ⟨x,_,rfl⟩:=List.mem_map.1 h1
 exact List.all_eq_true.1 (wtV_one x) v h2
theorem cut_5 {b k m:Nat} (h:m≠k):cutA (some ⟨b,0,none⟩) k m 5=some ⟨b,k * 5,none⟩:=by
 simp only [cutA,if_neg h,Option.map_some,add_off];simp
theorem overlapsQ_spec {b1 b2 o:Nat} {x:Wt} {T2:TypeId} {l:List Value} {fr:Nat × Nat} {la lc:Nat} {Q:Ending→World→Prop} (hl:l≠[])
  (hw:Sat R (pts b2 (.cells l.toArray T2 fr)::wtC b1 x::Hs) w) (k:Q (.returned (.bool false)) w):
  Ext Tryz.prog 149 #[.slice (some ⟨b1,0,none⟩) 1 1,.slice (some ⟨b2,o,none⟩) la lc] w Q:=by
 have h2:=hw.at
 have h1:=hw.swap.at
 have hne:b1≠b2:=by
  rintro rfl
  obtain ⟨h,hA,hd,h',hB,hd',_⟩:=hw
  rw [show h=_ from hA] at hd hd'
  rw [show h'=_ from hB] at hd'
  have:=hd' b1 (by simp [Heap.one])
  simp only [Cx.add,Heap.add,Heap.one] at this
  split at this<;>simp_all
 obtain ⟨tR,hf⟩:=ovq_find
 refine ⟨.bool false,w,?_,k⟩
 rw [run_callFunc_extern Tryz.func149 ovq_name ovq_body ovq_next hf]
 rw [Lib.run_overlaps_apart (P:=Tryz.prog) w 170 tR wtT Tryz.underlying170 5 (fun w=>szW w) ⟨b1,0,none⟩ ⟨b2,o,none⟩ 1 1 la lc hne wtT T2 5 l.length ?_ ?_ ?_ ?_ ?_]
 ·rfl
 ·simp only [World.shape?,h1];rfl
 ·simp only [World.shape?,h2];simp
 ·cases l with
  |nil=>exact absurd rfl hl
  |cons a l=>simp
 ·simp [World.frozen?,h1]
 ·simp [World.frozen?,h1]
theorem src_wt {b:Nat} {x:Wt} (h:w.heap[b]? =some (.cells (wtV x).toArray wtT (0,0))):∀ j v,(wtV x)[j]? =some v→w.cell? ((⟨b,0,none⟩:Addr).add j)=some v:=by
 intro j v hj
 rw [add_off,cell_of h,Nat.zero_add];exact hj
theorem src_partN {b o:Nat} {xs rest:List Value} {T:TypeId} {fr:Nat × Nat} (h:w.heap[b]? =some (.cells (xs++rest).toArray T fr)):∀ j v,(xs.drop o)[j]? =some v→w.cell? ((⟨b,o,none⟩:Addr).add j)=some v:=by
 intro j v hj
 rw [add_off,cell_of h]
 rw [List.getElem?_drop] at hj
 have hlt:=(List.getElem?_eq_some_iff.1 hj).1
 rw [List.getElem?_append_left (by omega)];exact hj
theorem qinsert_spec {s:Sl} {l:List Wt} {x:Wt} {p b:Nat} (hl:l.length≤1000000000) (hp:p≤l.length) (hw:Sat R (OwnN 5 s wtT (l.map wtV)::wtC b x::Hs) w):
  Gets Tryz.prog 110 #[.slice s.a s.len s.cap,.int .i64 p,.slice (some ⟨b,0,none⟩) 1 1] w fun v w'=>∃ t:Sl,v=.slice t.a t.len t.cap∧Sat R (OwnN 5 t wtT ((l.take p++x::l.drop p).map wtV)::wtC b x::Hs) w':=by
 have hlen:=OwnN.len hw
 have hcap:=OwnN.cap (by omega) hw
 rw [List.length_map] at hlen
 have hrl:(l.map wtV).length=l.length:=List.length_map _
 refine call110 s p ⟨some ⟨b,0,none⟩,1,1⟩ _ _ ?_
 unfold B110
 dsimp only
 have w1:IntKind.i64.wrap ((s.len:Int) + ((1:Nat):Int))=((l.length + 1:Nat):Int):=by rw [wrap64 (by omega) (by omega)];omega
 have w2:IntKind.i64.wrap (((l.length + 1:Nat):Int) - p)=((l.length + 1 - p:Nat):Int):=by rw [wrap64 (by omega) (by omega)];omega
 have w3:IntKind.i64.wrap ((p:Int) + ((1:Nat):Int))=((p + 1:Nat):Int):=by rw [wrap64 (by omega) (by omega)];omega
 rw [w1,w2,w3]
 simp only [Int.toNat_natCast]
 have hA:((l.map wtV).take p).flatten.length=p * 5:=by rw [(wtV_wid l).take.len,List.length_take,hrl,Nat.min_eq_left hp]
 have hD:((l.map wtV).drop p).flatten.length=(l.length - p) * 5:=by rw [(wtV_wid l).drop.len,List.length_drop,hrl]
 have hDo:oneAll ((l.map wtV).drop p).flatten=true:=by rw [←List.map_drop];exact wtV_all _
 have hrows:(l.map wtV).flatten=((l.map wtV).take p).flatten++((l.map wtV).drop p).flatten:=by rw [←List.flatten_append,List.take_append_drop]
 have hin:((l.map wtV).take p).flatten++wtV x++((l.map wtV).drop p).flatten=((l.take p++x::l.drop p).map wtV).flatten:=by simp [List.map_take,List.map_drop]
 have hinl:(l.take p++x::l.drop p).length=l.length + 1:=by simp;omega
 refine ⟨by omega,by omega,Br.f rfl (Br.e (fun h=>?_) (fun h=>Br.d (fun h2=>?_) (fun h2=>?_)))⟩
 ·-- behind all
  refine appendN_rule elW hw (SrcN_one elW.hk 1 hw rfl rfl) (Wid.one rfl) (by simp;omega) (by simp;omega) fun t w hw=>⟨t,rfl,?_⟩
  have e:l.map wtV++[wtV x]=(l.take p++x::l.drop p).map wtV:=by
   rw [List.take_of_length_le (by omega),List.drop_eq_nil_of_le (by omega)];simp
  rw [e] at hw;exact hw
 ·-- no room
  refine ⟨by omega,by omega,?_⟩
  refine zerosGrowN_rule Tryz.underlying170 Tryz.underlying3 elW.hi (by omega) (by omega) (by rw [hrl];omega) (by omega) (by omega) (by omega) hw fun t w ys hys hw=>?_
  have hyw:Wid 5 ys:=fun y hy=>OwnN.wid hw y (List.mem_append_right _ hy)
  have htl:=OwnN.len hw
  have hxs:((l.map wtV).take p++ys).length=l.length + 1:=by rw [List.length_append,List.length_take,hrl,hys,Nat.min_eq_left hp];omega
  rw [hxs] at htl
  refine ⟨by omega,by omega,?_⟩
  obtain ⟨hwid,⟨_,h0,_⟩|⟨b',rest,fr,cap,rfl,hcl,hfr,hw⟩⟩:=OwnN.cases hw
  ·have:=congrArg List.length h0
   rw [hxs] at this;cases this
  dsimp only at htl ⊢
  rw [List.flatten_append] at hw hcl
  have hY:ys.flatten.length=(l.length + 1 - p) * 5:=by rw [hyw.len,hys]
  have hcl2:=hcl
  rw [List.length_append,List.length_append,hA,hY] at hcl2
  have hb1:=(hw.takeP (b:=b) inferInstance).at
  rw [hxs,cut_5 (by omega)]
  refine copyN_rule Tryz.underlying170 (by kernel_rfl) hw (by rw [hcl];exact hfr) (cs:=wtV x) (by show 5=Nat.min 1 _ * 5;rw [show Nat.min 1 (l.length + 1 - p)=1 from Nat.min_eq_left (by omega)]) (by rw [hcl];show p * 5 + 5≤_;omega) (src_wt hb1) rfl fun _ w hw=>?_
  refine drw_rule hw fun w hw=>⟨by omega,by omega,by omega,by omega,?_⟩
  obtain ⟨_,⟨_,h0,_⟩|⟨bs,rest2,fr2,cap2,rfl,hcl3,hfr2,hws⟩⟩:=OwnN.cases hw.swap
  ·have h3:l.length=0:=by
    have:=congrArg List.length h0
    rw [hrl] at this;exact this
   omega
  clear w1 w2 w3
  dsimp only at hlen hcap h h2 ⊢
  rw [hrl] at h hcap
  have hsat:=hws.at
  rw [cut_5 (by omega),cut_5 (by omega)]
  have hdrop:(l.map wtV).flatten.drop (p * 5)=((l.map wtV).drop p).flatten:=(wtV_wid l).drop_flat p
  refine copyN_rule Tryz.underlying170 (by kernel_rfl) hws.swap (by rw [putL_len,hcl];exact hfr) (cs:=((l.map wtV).drop p).flatten) (by rw [hD,hrl,show Nat.min (l.length - p) (l.length + 1 - (p + 1))=l.length - p from Nat.min_eq_left (by omega)])
   (by rw [putL_len,hcl,hD];omega) (by rw [←hdrop];exact src_partN hsat) hDo fun _ w hw=>?_
  rw [show (p + 1) * 5=p * 5 + (wtV x).length by rw [wtV_len];omega,putN hA (by rw [hY,hD,wtV_len];omega),hin] at hw
  have hfin:=OwnN.of_pts (cap:=cap) (wtV_wid _) (by rw [List.length_append,(wtV_wid _).len,List.length_map,hinl];omega) hw hfr
  rw [List.length_map,hinl] at hfin
  refine ⟨⟨some ⟨b',0,none⟩,l.length + 1,cap⟩,rfl,?_⟩
  exact Sat.cons (fun R' h=>h.drop) hfin
 ·-- room
  obtain ⟨_,⟨_,h0,_⟩|⟨bs,rest,fr,cap,rfl,hcl,hfr,hws⟩⟩:=OwnN.cases hw
  ·have h3:l.length=0:=by
    have:=congrArg List.length h0
    rw [hrl] at this;exact this
   omega
  clear w1 w2 w3
  dsimp only at hlen hcap h h2 ⊢
  rw [hrl] at h hcap
  have hcl2:=hcl
  rw [List.length_append,(wtV_wid l).len,hrl] at hcl2
  have hroom:5≤rest.length:=by omega
  refine ⟨by omega,by omega,by omega,by omega,?_⟩
  rw [cut_5 (by omega)]
  refine overlapsQ_spec (by intro h0;have h5:=congrArg List.length h0;rw [hcl,List.length_nil] at h5;omega) hws ?_
  refine ⟨_,rfl,Br.t rfl ?_⟩
  refine drw_rule hws fun w hws=>⟨by omega,by omega,by omega,by omega,?_⟩
  rw [cut_5 (by omega)]
  have hsat:=hws.at
  have hdrop:(l.map wtV).flatten.drop (p * 5)=((l.map wtV).drop p).flatten:=(wtV_wid l).drop_flat p
  refine copyN_rule Tryz.underlying170 (by kernel_rfl) hws (by rw [hcl];exact hfr) (cs:=((l.map wtV).drop p).flatten) (by rw [hD,show Nat.min (l.length + 1 - p) (l.length + 1 - (p + 1))=l.length - p from (Nat.min_eq_right (by omega)).trans (by omega)])
   (by rw [hcl,hD];omega) (by rw [←hdrop];exact src_partN hsat) hDo fun _ w hw=>?_
  refine ⟨by omega,by omega,?_⟩
  have hb1:=hw.swap.at
  refine copyN_rule Tryz.underlying170 (by kernel_rfl) hw (by rw [putL_len,hcl];exact hfr) (cs:=wtV x) (by show 5=Nat.min 1 _ * 5;rw [show Nat.min 1 (l.length + 1 - p)=1 from Nat.min_eq_left (by omega)]) (by rw [putL_len,hcl];show p * 5 + 5≤_;omega) (src_wt hb1) rfl fun _ w hw=>?_
  rw [hrows,show (p + 1) * 5=p * 5 + (wtV x).length by rw [wtV_len];omega,putN' hA (by rw [wtV_len];exact hroom),hin] at hw
  have hfin:=OwnN.of_pts (cap:=cap) (wtV_wid _) (by rw [List.length_append,(wtV_wid _).len,List.length_map,hinl,List.length_drop,wtV_len];omega) hw hfr
  rw [List.length_map,hinl] at hfin
  exact ⟨_,rfl,hfin⟩
theorem zvW (w:World):(zeroValue wtT).run Tryz.prog w=.ok (.agg #[.int .i64 0,.int .i64 0,.int .i64 0,.int .i64 0,.float .f64 0]) w:=by
 rw [Tryz.zeroValue174 ]
theorem qdelete_spec {s:Sl} {l:List Wt} {k:Nat} (hl:l.length≤1000000000) (hk:k<l.length) (hw:Sat R (OwnN 5 s wtT (l.map wtV)::Hs) w):
  Gets Tryz.prog 115 #[.slice s.a s.len s.cap,.int .i64 k,.int .i64 ((k + 1:Nat):Int)] w fun v w'=>∃ t:Sl,v=.slice t.a t.len t.cap∧Sat R (OwnN 5 t wtT ((l.take k++l.drop (k + 1)).map wtV)::Hs) w':=by
 have hlen:=OwnN.len hw
 have hcap:=OwnN.cap (by omega) hw
 rw [List.length_map] at hlen
 apply call115
 unfold B115
 simp only [Int.toNat_natCast]
 refine ⟨by omega,by omega,by omega,by omega,by omega,by omega,Br.e (fun h=>by omega) (fun _=>?_)⟩
 refine drw_rule hw fun w hw=>⟨by omega,by omega,by omega,by omega,?_⟩
 refine delN_rule (z:=.agg #[.int .i64 0,.int .i64 0,.int .i64 0,.int .i64 0,.float .f64 0]) (i:=k) (j:=k + 1) (rows:=l.map wtV) elW.ht elW.hi zvW rfl (fun m v hv=>?_) (wtV_all l) (by omega) (by omega) (by rw [List.length_map];omega) hw fun t w hw=>⟨t,rfl,?_⟩
 ·unfold Builtin.zeroCells at hv
  rw [Array.mem_toList_iff,Array.mem_map] at hv
  obtain ⟨i,_,rfl⟩:=hv
  have h5:i % 5<5:=Nat.mod_lt _ (by omega)
  show ((#[Value.int .i64 0,.int .i64 0,.int .i64 0,.int .i64 0,.float .f64 0]:Array Value)[i % 5]!).oneCell'=true
  generalize i % 5=j at h5
  match j,h5 with
  |0,_=>rfl
  |1,_=>rfl
  |2,_=>rfl
  |3,_=>rfl
  |4,_=>rfl
 ·rw [List.map_append,List.map_take,List.map_drop]
  exact hw
end Go.Proofs.YtflgboncpbmikaaGreatDoor
/- Package queue: Add, Remove, First, All. Condition: a bound on the length. -/
namespace Go.Proofs.YtflgboncpbmikaaGreatDoor
set_option linter.unusedVariables false
set_option linter.unusedSimpArgs false
open Go Go.VC
open Classical
variable {R:Cx} {Hs Rest:List HP} {w:World}
theorem qst_lt {q:List Wt} (h:QSt q) {i j:Nat} (hij:i<j) (hj:j<q.length):q[i].ahead q[j]=true:=List.pairwise_iff_getElem.1 h i j (by omega) hj hij
theorem qsearch_spec {s:Sl} {l:List Wt} {x:Wt} (hl:l.length≤1000000000) (hst:QSt l) (hw:Sat R (OwnN 5 s wtT (l.map wtV)::Hs) w):
  Gets Tryz.prog 108 #[.slice s.a s.len s.cap,wtA x,.func (.func 109) #[] #[]] w fun v w'=>(∃ (p:Nat) (b:Bool),v=.tuple #[.int .i64 p,.bool b]∧p≤l.length∧(∀ k (h:k<l.length),k<p→l[k].ahead x=true)∧(∀ k (h:k<l.length),p≤k→l[k].ahead x=false))∧Sat R (OwnN 5 s wtT (l.map wtV)::Hs) w':=by
 have hlen:=OwnN.len hw
 rw [List.length_map] at hlen
 apply call108
 refine new_rule hw fun b w hw=>?_
 have ordC:∀ (y:Wt) w,Sat R (OwnN 5 s wtT (l.map wtV)::wtC b x::Hs) w→CalW Tryz.prog cl (.func (.func 109) #[] #[]) [wtA y,wtA x] w (fun e w'=>e=.returned (.int .i64 (y.ord x))∧Sat R (OwnN 5 s wtT (l.map wtV)::wtC b x::Hs) w'):=fun y w hw=>CalW.mk (by kernel_rfl) ((order_spec hw).use fun v w' h=>⟨by rw [h.1],h.2⟩)
 have hw:Sat R (OwnN 5 s wtT (l.map wtV)::wtC b x::Hs) w:=Sat.swap hw
 refine ⟨fun i j w=>∃ a b':Nat,i=a∧j=b'∧a≤b'∧b'≤l.length∧(∀ k (h:k<l.length),k<a→l[k].ahead x=true)∧(∀ k (h:k<l.length),b'≤k→l[k].ahead x=false)∧Sat R (OwnN 5 s wtT (l.map wtV)::wtC b x::Hs) w,fun i j _=>(j - i).toNat,⟨0,l.length,rfl,by omega,by omega,by omega,fun k _ hk=>by omega,fun k h hk=>by omega,hw⟩,?_⟩
 clear hw
 rintro _ _ _ w ⟨a,c,rfl,rfl,hac,hc,h1,h2,hw⟩
 refine Br.d (fun h=>?_) (fun h=>?_)
 ·refine drw_rule hw fun w hw=>?_
  rw [half_eq (by omega)]
  have hm:(a + c) / 2<l.length:=by omega
  refine (OwnN.reads (S:=Sat R (OwnN 5 s wtT (l.map wtV)::wtC b x::Hs)) hw (fun _ h=>h)).rngM (E:=l) (g:=wtV) hm fun ad _ he=>?_
  refine ⟨_,_,_,_,_,he.z (by exact ⟨rfl,rfl,rfl,rfl,rfl,trivial⟩),x.id,x.cls,x.many,x.time,x.sc,At.own (fun _ h=>h) (by exact ⟨rfl,rfl,rfl,rfl,rfl,trivial⟩),?_⟩
  refine (ordC l[(a + c) / 2] _ hw).mono ?_
  clear hw
  rintro _ w ⟨rfl,hw⟩
  refine ⟨_,rfl,Br.d (fun h3=>?_) (fun h3=>?_)⟩
  ·have ha:=ord_neg.1 h3
   rw [show IntKind.i64.wrap ((((a + c) / 2:Nat):Int) + 1)=(((a + c) / 2 + 1:Nat):Int) from wrap64 (by omega) (by omega)]
   refine ⟨⟨(a + c) / 2 + 1,c,rfl,rfl,by omega,hc,fun k hk hk2=>?_,h2,hw⟩,by dsimp only;omega⟩
   by_cases hkm:k=(a + c) / 2
   ·subst hkm;exact ha
   ·exact ahead_trans (qst_lt hst (show k<(a + c) / 2 by omega) hm) ha
  ·have ha:l[(a + c) / 2].ahead x=false:=by
    rw [←Bool.not_eq_true]
    exact fun h=>h3 (ord_neg.2 h)
   refine ⟨⟨a,(a + c) / 2,rfl,rfl,by omega,by omega,h1,fun k hk hk2=>?_,hw⟩,by dsimp only;omega⟩
   by_cases hkm:k=(a + c) / 2
   ·subst hkm;exact ha
   ·rw [←Bool.not_eq_true] at ha ⊢
    exact fun h=>ha (ahead_trans (qst_lt hst (show (a + c) / 2<k by omega) hk) h)
 ·obtain rfl:a=c:=by omega
  have fin:∀ (t:Bool) w,Sat R (OwnN 5 s wtT (l.map wtV)::wtC b x::Hs) w→(∃ (p:Nat) (b:Bool),Value.tuple #[.int .i64 a,.bool t]=.tuple #[.int .i64 p,.bool b]∧p≤l.length∧(∀ k (h:k<l.length),k<p→l[k].ahead x=true)∧(∀ k (h:k<l.length),p≤k→l[k].ahead x=false))∧Sat R (OwnN 5 s wtT (l.map wtV)::Hs) w:=fun t w hw=>⟨⟨a,t,rfl,hc,h1,h2⟩,hw.cons fun _ h=>h.drop⟩
  refine drw_rule hw fun w hw=>?_
  refine Br.d (fun h3=>?_) (fun h3=>fin _ _ hw)
  have ha:a<l.length:=by omega
  refine (OwnN.reads (S:=Sat R (OwnN 5 s wtT (l.map wtV)::wtC b x::Hs)) hw (fun _ h=>h)).rngM (E:=l) (g:=wtV) ha fun ad _ he=>?_
  refine ⟨_,_,_,_,_,he.z (by exact ⟨rfl,rfl,rfl,rfl,rfl,trivial⟩),x.id,x.cls,x.many,x.time,x.sc,At.own (fun _ h=>h) (by exact ⟨rfl,rfl,rfl,rfl,rfl,trivial⟩),?_⟩
  refine (ordC l[a] _ hw).mono ?_
  clear hw
  rintro _ w ⟨rfl,hw⟩
  exact ⟨_,rfl,fin _ _ hw⟩
theorem hasQ_tk {l:List Wt} {id:Int} {k:Nat} (hk:k<l.length) (h1:l[k].id=id) (h2:hasQ id (l.take k)=false):hasQ id l=true∧delQ id l=l.take k++l.drop (k + 1):=by
 induction l generalizing k with
 |nil=>simp at hk
 |cons w l ih=>
  cases k with
  |zero=>
   have h1:w.id=id:=h1
   refine ⟨by simp [hasQ,h1],?_⟩
   show (if w.id=id then l else _)=_
   rw [if_pos h1];simp
  |succ k=>
   rw [List.take_succ_cons] at h2
   have h3:¬ w.id=id∧hasQ id (l.take k)=false:=by simpa [hasQ] using h2
   obtain ⟨a1,a2⟩:=ih (by simpa using hk) (by simpa using h1) h3.2
   refine ⟨by simp only [hasQ,List.any_cons];rw [show l.any _=true from a1];simp,?_⟩
   show (if w.id=id then _ else w::delQ id l)=_
   rw [if_neg h3.1,a2];simp
theorem qremove_spec {q:Nat} {l:List Wt} {id:Int} (hl:l.length≤1000000000) (hw:Sat R (QuAt q l::Hs) w):
  Gets Tryz.prog 85 #[.pointer (some ⟨q,0,none⟩),.int .i64 id] w fun v w'=>v=.int .i64 (qrem l id).2∧Sat R (QuAt q (qrem l id).1::Hs) w':=by
 apply call85
 refine (qplace_spec hl hw).use ?_
 clear hw
 rintro _ w ⟨⟨i,rfl,hi⟩,hw⟩
 refine ⟨i,rfl,Br.d (fun h=>?_) (fun h=>?_)⟩
 ·rcases hi with ⟨_,h1⟩|⟨k,rfl,_⟩
  ·unfold qrem
   rw [h1]
   exact ⟨rfl,hw⟩
  ·omega
 rcases hi with ⟨h1,_⟩|⟨k,rfl,hk,h1,h2⟩
 ·omega
 obtain ⟨a1,a2⟩:=hasQ_tk hk h1 h2
 unfold qrem
 rw [a1,if_pos rfl,a2]
 obtain ⟨s,hw⟩:=Sat.qu.1 hw
 refine NilP.mk rfl ⟨s,At.own (eqS hw) (by exact ⟨rfl,trivial⟩),?_⟩
 rw [show IntKind.i64.wrap ((k:Int) + 1)=((k + 1:Nat):Int) from wrap64 (by omega) (by omega)]
 refine (qdelete_spec hl hk hw.swap).use ?_
 clear hw
 rintro _ w ⟨t,rfl,hw⟩
 refine ⟨t,rfl,NilP.mk rfl ?_⟩
 refine store_rule hw.swap (by kernel_rfl) rfl (by simp [Value.cells]) fun w hw=>?_
 have hw:=hw.re (pts q (quCell t))
 exact ⟨rfl,Sat.qu.2 ⟨t,hw⟩⟩
theorem qadd_spec {q:Nat} {l:List Wt} {x:Wt} (hq:QOk l) (hw:Sat R (QuAt q l::Hs) w):
  Gets Tryz.prog 80 #[.pointer (some ⟨q,0,none⟩),wtA x] w fun v w'=>v=.int .i64 (qadd l x).2∧Sat R (QuAt q (qadd l x).1::Hs) w':=by
 have hl:l.length≤1000000000:=by have:=hq.len;omega
 apply call80
 refine new_rule hw fun b1 w hw=>?_
 have hw:Sat R (wtD b1 x::QuAt q l::Hs) w:=hw
 refine ⟨x.id,x.cls,x.many,x.time,x.sc,At.own (eqS hw) (by exact ⟨rfl,rfl,rfl,rfl,rfl,trivial⟩),?_⟩
 refine new_rule hw fun b2 w hw=>?_
 refine store_rule hw (by kernel_rfl) rfl (by simp [Value.cells]) fun w hw=>?_
 have hw:=hw.re (wtC b2 x)
 refine ⟨x.id,x.cls,x.many,x.time,x.sc,At.own (eqS hw) (by exact ⟨rfl,rfl,rfl,rfl,rfl,trivial⟩),?_⟩
 refine (qright_spec hw).use ?_
 clear hw
 rintro _ w ⟨rfl,hw⟩
 refine ⟨_,rfl,Br.nd (fun h=>?_) (fun hok=>?_)⟩
 ·unfold qadd
  rw [if_pos h]
  exact ⟨rfl,hw.drop.drop⟩
 refine ⟨x.id,At.own (eqS hw) (by exact ⟨rfl,trivial⟩),?_⟩
 have hw:Sat R (QuAt q l::wtC b2 x::wtD b1 x::Hs) w:=hw.arr
 refine (qplace_spec hl hw).use ?_
 clear hw
 rintro _ w ⟨⟨i,rfl,hi⟩,hw⟩
 have close:∀ {w l},Sat R (QuAt q l::wtC b2 x::wtD b1 x::Hs) w→Sat R (QuAt q l::Hs) w:=fun h=>h.cons fun _ h=>h.drop.drop
 refine ⟨i,rfl,Br.d (fun h=>?_) (fun h=>?_)⟩
 ·rcases hi with ⟨h1,_⟩|⟨k,rfl,hk,h1,h2⟩
  ·omega
  unfold qadd
  rw [if_neg (fun h=>h hok),if_pos (hasQ_tk hk h1 h2).1]
  exact ⟨rfl,close hw⟩
 have hno:hasQ x.id l=false:=by
  rcases hi with ⟨_,h1⟩|⟨k,rfl,_⟩
  ·exact h1
  ·omega
 obtain ⟨s,hw⟩:=Sat.qu.1 hw
 have hlen:=OwnN.len hw.swap
 rw [List.length_map] at hlen
 refine NilP.mk rfl ⟨s,At.own (eqS hw) (by exact ⟨rfl,trivial⟩),Br.d (fun h3=>?_) (fun h3=>?_)⟩
 ·unfold qadd
  rw [if_neg (fun h=>h hok),hno,if_neg (by simp),if_pos (by omega)]
  exact ⟨rfl,close (Sat.qu.2 ⟨s,hw⟩)⟩
 have hadd:qadd l x=(insQ x l,0):=by
  unfold qadd
  rw [if_neg (fun h=>h hok),hno,if_neg (by simp),if_neg (by omega)]
 rw [hadd]
 refine drw_rule hw fun w hw=>NilP.mk rfl ?_
 refine ⟨s,At.own (fun _ h=>h) (by exact ⟨rfl,trivial⟩),x.id,x.cls,x.many,x.time,x.sc,At.own (fun _ h=>h) (by exact ⟨rfl,rfl,rfl,rfl,rfl,trivial⟩),?_⟩
 refine (qsearch_spec hl hq.st hw.swap).use ?_
 clear hw
 rintro _ w ⟨⟨p,fb,rfl,hp,h1,h2⟩,hw⟩
 refine ⟨_,_,rfl,?_⟩
 refine drw_rule' (Sat R [pts q (quCell s),wtC b2 x,VC.tru]) hw (fun w hw=>?_) fun w hw=>?_
 ·exact (hw.arr (Hs':=pts q (quCell s)::wtC b2 x::OwnN 5 s wtT (l.map wtV)::wtD b1 x::Hs)).cons fun _ h=>h.restTru2
 refine NilP.mk rfl ⟨s,At.own (fun _ h=>h) (by exact ⟨rfl,trivial⟩),x.id,x.cls,x.many,x.time,x.sc,At.own (fun _ h=>h) (by exact ⟨rfl,rfl,rfl,rfl,rfl,trivial⟩),?_⟩
 refine new_rule hw fun b3 w hw=>?_
 have hw:Sat R (wtC b3 x::OwnN 5 s wtT (l.map wtV)::pts q (quCell s)::wtC b2 x::wtD b1 x::Hs) w:=hw
 refine ⟨?_,?_⟩
 ·exact (hw.arr (Hs':=pts q (quCell s)::wtC b2 x::OwnN 5 s wtT (l.map wtV)::wtD b1 x::wtC b3 x::Hs)).cons fun _ h=>h.restTru2
 refine (qinsert_spec hl hp hw.swap).use ?_
 clear hw
 rintro _ w ⟨t,rfl,hw⟩
 refine ⟨t,rfl,?_,NilP.mk rfl ?_⟩
 ·exact (hw.arr (Hs':=pts q (quCell s)::wtC b2 x::OwnN 5 t wtT ((l.take p++x::l.drop p).map wtV)::wtD b1 x::wtC b3 x::Hs)).cons fun _ h=>h.restTru2
 have hw:Sat R (pts q (quCell s)::OwnN 5 t wtT ((l.take p++x::l.drop p).map wtV)::wtC b2 x::wtD b1 x::wtC b3 x::Hs) w:=hw.arr
 refine store_rule hw (by kernel_rfl) rfl (by simp [Value.cells]) fun w hw=>?_
 have hw:=hw.re (pts q (quCell t))
 have e:insQ x l=l.take p++x::l.drop p:=by
  refine insQ_at hq.st ?_ (fun h=>h2 p h (Nat.le_refl _)) hp
  by_cases h0:p=0
  ·exact .inl h0
  ·exact .inr ⟨by omega,h1 (p - 1) (by omega) (by omega)⟩
 rw [e]
 exact ⟨rfl,Sat.qu.2 ⟨t,hw.cons fun _ h=>h.cons fun _ h=>h.drop.drop.drop⟩⟩
end Go.Proofs.YtflgboncpbmikaaGreatDoor
/- SL, part 20: the next step over a string. No condition. -/
namespace Go.VC
set_option linter.unusedVariables false
set_option linter.unusedSimpArgs false
variable {R:Cx} {Hs:List HP} {w:World}
theorem dec_lo {s:ByteArray} {i:Nat} (h:(s.get! i).toNat<128):Utf8.decode s i=((s.get! i).toNat,1):=by
 unfold Utf8.decode
 simp only [Nat.add_zero]
 rw [if_pos h]
theorem dec_hi {s:ByteArray} {i:Nat} (h:¬ (s.get! i).toNat<128):128≤(Utf8.decode s i).1:=by
 unfold Utf8.decode
 simp only [Nat.add_zero]
 rw [if_neg h]
 have hr:128≤Utf8.runeError:=by decide
 repeat' split
 all_goals first|exact hr|(rename_i h1;simp only [Bool.and_eq_true,decide_eq_true_eq] at h1;dsimp only;omega)|(rename_i h1;dsimp only;omega)
theorem bytes_get {s:ByteArray} {i:Nat} (h:i<s.size):((s.get! i).toNat:Int)=(bytesL s)[i]'(by rw [bytesL_len];exact h):=by
 have h2:i<s.data.toList.length:=by simpa using h
 have e:s.get! i=s.data.toList[i]:=by
  show s.data[i]! =_
  rw [getElem!_pos s.data i (by simpa using h2)]
  simp
 rw [e]
 simp [bytesL]
theorem nextS_rule {b:Nat} {s:ByteArray} {pos:Nat} {A:Int→Int→World→Prop} {B:World→Prop} (hw:Sat R (pts b (.stringIter s pos)::Hs) w)
  (h1:pos<s.size→∀ w',Sat R (pts b (.stringIter s (pos + (Utf8.decode s pos).2))::Hs) w'→A (pos:Int) ((Utf8.decode s pos).1:Int) w') (h2:¬ pos<s.size→B w):NextS (some ⟨b,0,none⟩) A B w:=
 ⟨b,s,pos,rfl,hw.at,fun h=>h1 h _ (hw.setPts (.stringIter s (pos + (Utf8.decode s pos).2))),h2⟩
def strLeft (b:Nat) (w:World):Nat:=match w.heap[b]? with
 |some (.stringIter s pos)=>s.size - pos
 |_=>0
theorem strLeft_eq {b:Nat} {s:ByteArray} {pos:Nat} (hw:Sat R (pts b (.stringIter s pos)::Hs) w):strLeft b w=s.size - pos:=by
 unfold strLeft
 rw [hw.at]
end Go.VC
/- Package queue: First, All. Condition: a bound on the length. -/
namespace Go.Proofs.YtflgboncpbmikaaGreatDoor
set_option linter.unusedVariables false
set_option linter.unusedSimpArgs false
open Go Go.VC
open Classical
variable {R:Cx} {Hs Rest:List HP} {w:World}
theorem qfirst_step {l:List Wt} {left:List Int} {j:Nat} (hj:j<l.length) (h:(l.take j).any (fitsQ left)=false) (hf:fitsQ left l[j]=true):qfirst l left=some l[j]:=by
 unfold qfirst
 rw [List.find?_eq_some_iff_append]
 refine ⟨hf,l.take j,l.drop (j + 1),by rw [←List.drop_eq_getElem_cons hj,List.take_append_drop],fun x hx=>?_⟩
 rw [←Bool.not_eq_true,List.any_eq_true] at h
 cases hx2:fitsQ left x with
 |false=>rfl
 |true=>exact absurd ⟨x,hx,hx2⟩ h
theorem qfirst_end {l:List Wt} {left:List Int} (h:l.any (fitsQ left)=false):qfirst l left=none:=by
 unfold qfirst
 rw [List.find?_eq_none]
 intro x hx hx2
 rw [←Bool.not_eq_true,List.any_eq_true] at h
 exact h ⟨x,hx,hx2⟩
theorem fits_no {left:List Int} {x:Wt} (h:¬ (x.cls<left.length∧x.many≤left.getD x.cls.toNat 0)):fitsQ left x=false:=by
 unfold fitsQ
 rw [←Bool.not_eq_true,Bool.and_eq_true,decide_eq_true_iff,decide_eq_true_iff]
 exact h
def zeroW:Wt:=⟨0,0,0,0,0⟩
theorem qfirst_spec {q:Nat} {l:List Wt} {sl:Sl} {left:List Int} (hq:QOk l) (hL:RoI R sl left) (hw:Sat R (QuAt q l::Hs) w):
  Gets Tryz.prog 111 #[.pointer (some ⟨q,0,none⟩),.slice sl.a sl.len sl.cap] w fun v w'=>v=.tuple #[wtA ((qfirst l left).getD zeroW),.bool (qfirst l left).isSome]∧Sat R (QuAt q l::Hs) w':=by
 have hl:l.length≤1000000000:=by have:=hq.len;omega
 have hLl:=hL.len
 obtain ⟨s,hw⟩:=Sat.qu.1 hw
 apply call111
 refine new_rule hw fun b w hw=>?_
 have hw:Sat R (OwnN 5 s wtT (l.map wtV)::pts q (quCell s)::wtD b zeroW::Hs) w:=by
  have hw:Sat R (wtD b zeroW::pts q (quCell s)::OwnN 5 s wtT (l.map wtV)::Hs) w:=hw
  exact hw.arr
 have hlen:=OwnN.len hw
 rw [List.length_map] at hlen
 refine NilP.mk rfl ⟨s,At.own (eqS hw) (by exact ⟨rfl,trivial⟩),?_⟩
 have close:∀ {w x},Sat R (OwnN 5 s wtT (l.map wtV)::pts q (quCell s)::wtD b x::Hs) w→Sat R (QuAt q l::Hs) w:=fun {w x} h=>by
  have h:Sat R (pts q (quCell s)::OwnN 5 s wtT (l.map wtV)::wtD b x::Hs) w:=h.swap
  exact Sat.qu.2 ⟨s,h.cons fun _ h=>h.cons fun _ h=>h.drop⟩
 refine ⟨fun i w=>∃ j:Nat,i=j∧j≤l.length∧(l.take j).any (fitsQ left)=false∧Sat R (OwnN 5 s wtT (l.map wtV)::pts q (quCell s)::wtD b zeroW::Hs) w,fun i _=>l.length - i.toNat,⟨0,rfl,by omega,by simp,hw⟩,?_⟩
 clear hw
 rintro _ _ w ⟨j,rfl,hj,hn,hw⟩
 refine Br.d (fun h=>?_) (fun h=>?_)
 ·have hj2:j<l.length:=by omega
  have hx:=hq.ok l[j] (List.getElem_mem hj2)
  have next:fitsQ left l[j]=false→(l.take (j + 1)).any (fitsQ left)=false:=fun h=>by
   rw [List.take_add_one,List.getElem?_eq_getElem hj2,List.any_append,hn]
   simp [h]
  rw [wrap64 (x:=(j:Int) + 1) (by omega) (by omega)]
  refine (OwnN.reads hw (eqS hw)).rngM (E:=l) (g:=wtV) hj2 fun a _ he=>?_
  refine ⟨_,_,_,_,_,he.z (by exact ⟨rfl,rfl,rfl,rfl,rfl,trivial⟩),?_⟩
  refine new_rule hw fun b2 w hw=>?_
  refine store_rule hw (by kernel_rfl) rfl (by simp [Value.cells]) fun w hw=>?_
  have hw:=hw.re (wtC b2 l[j])
  refine drw_rule hw fun w hw=>?_
  refine ⟨l[j].cls,At.own (fun _ h=>h) (by exact ⟨rfl,trivial⟩),Br.d (fun h1=>?_) (fun h1=>⟨⟨j + 1,by omega,by omega,next (fits_no fun h=>h1 (by omega)),hw.drop⟩,by dsimp only;omega⟩)⟩
  have hc:l[j].cls=(l[j].cls.toNat:Int):=by have:=hx.2.1.1;omega
  have hc2:l[j].cls.toNat<left.length:=by omega
  refine ⟨l[j].many,At.own (fun _ h=>h) (by exact ⟨rfl,trivial⟩),l[j].cls,At.own (fun _ h=>h) (by exact ⟨rfl,trivial⟩),?_⟩
  refine Ro.ix hL (fun _ h=>h) l[j].cls.toNat hc hc2 ?_
  refine Br.d (fun h2=>?_) (fun h2=>⟨⟨j + 1,by omega,by omega,next (fits_no fun h=>h2 ?_),hw.drop⟩,by dsimp only;omega⟩)
  ·have hf:fitsQ left l[j]=true:=by
    unfold fitsQ
    rw [Bool.and_eq_true,decide_eq_true_iff,decide_eq_true_iff]
    refine ⟨by omega,?_⟩
    rw [List.getD_eq_getElem?_getD,List.getElem?_eq_getElem hc2]
    exact h2
   refine ⟨l[j].id,l[j].cls,l[j].many,l[j].time,l[j].sc,At.own (eqS hw) (by exact ⟨rfl,rfl,rfl,rfl,rfl,trivial⟩),?_⟩
   have hw:Sat R (wtD b zeroW::wtC b2 l[j]::OwnN 5 s wtT (l.map wtV)::pts q (quCell s)::Hs) w:=hw.arr
   refine store_rule hw (by kernel_rfl) rfl (by simp [Value.cells,wtV]) fun w hw=>?_
   have hw:=hw.re (wtD b l[j])
   refine ⟨l[j].id,l[j].cls,l[j].many,l[j].time,l[j].sc,At.own (eqS hw) (by exact ⟨rfl,rfl,rfl,rfl,rfl,trivial⟩),?_⟩
   have hw:Sat R (wtC b2 l[j]::OwnN 5 s wtT (l.map wtV)::pts q (quCell s)::wtD b l[j]::Hs) w:=hw.arr
   rw [qfirst_step hj2 hn hf]
   exact ⟨rfl,close hw.drop⟩
  ·have:=h.2
   rwa [List.getD_eq_getElem?_getD,List.getElem?_eq_getElem hc2] at this
 ·rw [List.take_of_length_le (by omega)] at hn
  have hw:Sat R (wtD b zeroW::OwnN 5 s wtT (l.map wtV)::pts q (quCell s)::Hs) w:=hw.arr
  refine store_rule hw (by kernel_rfl) rfl (by simp [Value.cells,wtV]) fun w hw=>?_
  have hw:=hw.re (wtD b zeroW)
  refine ⟨0,0,0,0,0,At.own (eqS hw) (by exact ⟨rfl,rfl,rfl,rfl,rfl,trivial⟩),?_⟩
  rw [qfirst_end hn]
  have hw:Sat R (OwnN 5 s wtT (l.map wtV)::pts q (quCell s)::wtD b zeroW::Hs) w:=hw.arr
  exact ⟨rfl,close hw⟩
theorem elWt:ElN Tryz.prog 151 151 147 5 40:=⟨Tryz.underlying151,⟨_,Tryz.underlying151⟩,by kernel_rfl⟩
theorem qall_spec {q:Nat} {l:List Wt} (hl:l.length≤1000000000) (hw:Sat R (QuAt q l::Hs) w):
  Gets Tryz.prog 84 #[.pointer (some ⟨q,0,none⟩)] w fun v w'=>∃ t:Sl,v=.slice t.a t.len t.cap∧Sat R (OwnN 5 t 147 (l.map wtV)::QuAt q l::Hs) w':=by
 obtain ⟨s,hw⟩:=Sat.qu.1 hw
 apply call84
 refine NilP.mk rfl ⟨s,At.own (eqS hw) (by exact ⟨rfl,trivial⟩),?_⟩
 have hlen:=OwnN.len hw.swap
 rw [List.length_map] at hlen
 refine ⟨fun t i w=>∃ j:Nat,i=j∧j≤l.length∧Sat R (OwnN 5 t 147 ((l.take j).map wtV)::OwnN 5 s wtT (l.map wtV)::pts q (quCell s)::Hs) w,fun _ i _=>l.length - i.toNat,⟨0,rfl,by omega,OwnN.nil hw.swap⟩,?_⟩
 clear hw
 rintro _ t _ w ⟨j,rfl,hj,hw⟩
 refine Br.d (fun h=>?_) (fun h=>?_)
 ·have hj2:j<l.length:=by omega
  have hw2:=hw.swap
  refine (OwnN.reads hw2 (S:=fun w'=>w'=w) (Hs':=OwnN 5 t 147 ((l.take j).map wtV)::pts q (quCell s)::Hs) (fun w' e=>by rw [e];exact hw2)).rngM (E:=l) (g:=wtV) hj2 fun a _ he=>?_
  refine ⟨_,_,_,_,_,he.z (by exact ⟨rfl,rfl,rfl,rfl,rfl,trivial⟩),?_⟩
  refine new_rule hw fun b2 w hw=>?_
  refine store_rule hw (by kernel_rfl) rfl (by simp [Value.cells]) fun w hw=>?_
  have hw:=hw.re (wtC b2 l[j])
  refine ⟨l[j].id,l[j].cls,l[j].many,l[j].time,l[j].sc,At.own (eqS hw) (by exact ⟨rfl,rfl,rfl,rfl,rfl,trivial⟩),?_⟩
  have hw:=hw.drop
  refine pushN_rule (x:=wtV l[j]) elWt hw rfl rfl (by rw [List.length_map,List.length_take];omega) (by rw [List.length_map,List.length_take];omega) fun t2 w hw=>⟨?_,?_⟩
  ·refine ⟨j + 1,wrap64 (by omega) (by omega),by omega,?_⟩
   rw [List.take_add_one,List.getElem?_eq_getElem hj2,List.map_append]
   exact hw
  ·rw [wrap64 (x:=(j:Int) + 1) (by omega) (by omega)]
   dsimp only;omega
 ·rw [List.take_of_length_le (by omega)] at hw
  exact ⟨t,rfl,hw.cons fun _ h=>Sat.qu.2 ⟨s,h.swap⟩⟩
end Go.Proofs.YtflgboncpbmikaaGreatDoor
/- Package locator: a number is read. Condition: none. -/
namespace Go.Proofs.YtflgboncpbmikaaGreatDoor
set_option linter.unusedVariables false
set_option linter.unusedSimpArgs false
open Go Go.VC
open Classical
variable {R:Cx} {Hs Rest:List HP} {w:World}
theorem ix_name : (Tryz.f175.name == "runtime.NumGoroutine") = false := by kernel_rfl
theorem ix_body:Tryz.f175.body.isNone=true:=by kernel_rfl
theorem ix_next:Extern.findNext Tryz.f175=none:=by kernel_rfl
theorem ix_find:Extern.find Tryz.f175=some Extern.BytealgIndexByte.indexByte:=by kernel_rfl
abbrev signsA:ByteArray:=ByteArray.mk #[65,66,67,68,69,70,71,72,74,75,76,77,78,80,81,82,84,85,86,87,88,89,90,50,51,52,53,54,55,56,57]
theorem ix_all:(List.range 256).all (fun c=>Lib.indexByte signsA.data.toList c.toUInt8==worthT c && (decide (worthT c<0)||decide (c≤90)))=true:=by kernel_rfl
theorem ix_worth {c:Int} (h:0≤c∧c<256):Lib.indexByte signsA.data.toList c.toNat.toUInt8=worthT c∧(worthT c<0∨c≤90):=by
 have:=List.all_eq_true.1 ix_all c.toNat (List.mem_range.2 (by omega))
 rw [Bool.and_eq_true,Bool.or_eq_true,decide_eq_true_iff,decide_eq_true_iff,beq_iff_eq,show ((c.toNat:Nat):Int)=c by omega] at this
 exact ⟨this.1,this.2.imp id (by omega)⟩
theorem sindex_spec {c:Int} (h:0≤c∧c<256) (hw:Sat R Hs w):Gets Tryz.prog 122 #[.string signsA,.int .u8 c] w fun v w'=>v=.int .i64 (worthT c)∧Sat R Hs w':=by
 apply call122
 have h1:Gets Tryz.prog 159 #[.string signsA,.int .u8 c] w fun v w'=>v=.int .i64 (worthT c)∧Sat R Hs w':=by
  apply call159
  refine ⟨.int .i64 (worthT c),w,?_,_,rfl,rfl,hw⟩
  rw [run_callFunc_extern Tryz.func175 ix_name ix_body ix_next ix_find,Lib.run_indexByteString,(ix_worth h).1]
  rfl
 refine h1.use ?_
 clear hw
 rintro _ w ⟨rfl,hw⟩
 exact ⟨_,rfl,rfl,hw⟩
abbrev intB (b:Nat) (n:Int):HP:=pts b (.cells [.int .i64 n].toArray 3 (0,0))
theorem weighed_spec (hw:Sat R Hs w):Gets Tryz.prog 121 #[] w fun v w'=>∃ b1 b2,v=.func (.func 158) #[] #[.pointer (some ⟨b1,0,none⟩),.pointer (some ⟨b2,0,none⟩)]∧Sat R (intB b1 0::intB b2 2::Hs) w':=by
 apply call121
 refine new_rule hw fun b1 w hw=>new_rule hw fun b2 w hw=>?_
 have hw:Sat R (intB b1 0::intB b2 0::Hs) w:=Sat.swap hw
 refine store_rule hw (by kernel_rfl) rfl (by simp [Value.cells]) fun w hw=>?_
 have hw:=(hw.re (intB b1 0)).swap
 refine store_rule hw (by kernel_rfl) rfl (by simp [Value.cells]) fun w hw=>?_
 have hw:=(hw.re (intB b2 2)).swap
 exact ⟨b1,b2,rfl,hw⟩
theorem wadd_spec {b1 b2:Nat} {s k d:Int} (hs:0≤s∧s<31) (hk:0≤k∧k≤100) (hd:0≤d∧d<31) (hw:Sat R (intB b1 s::intB b2 k::Hs) w):
  Gets Tryz.prog 158 #[.int .i64 d,.pointer (some ⟨b1,0,none⟩),.pointer (some ⟨b2,0,none⟩)] w fun v w'=>v=.int .i64 ((s + k * d) % 31)∧Sat R (intB b1 ((s + k * d) % 31)::intB b2 (k + 1)::Hs) w':=by
 have hkd:0≤k * d∧k * d≤100 * 31:=⟨Int.mul_nonneg hk.1 hd.1,Int.mul_le_mul hk.2 (by omega) hd.1 (by omega)⟩
 apply call158
 refine NilP.mk rfl ⟨s,At.own (eqS hw) (by exact ⟨rfl,trivial⟩),NilP.mk rfl ⟨k,At.own (eqS hw) (by exact ⟨rfl,trivial⟩),?_⟩⟩
 rw [wrap64 (x:=k * d) (by omega) (by omega),wrap64 (x:=s + k * d) (by omega) (by omega),Int.tmod_eq_emod_of_nonneg (by omega)]
 refine store_rule hw (by kernel_rfl) rfl (by simp [Value.cells]) fun w hw=>?_
 have hw:=(hw.re (intB b1 ((s + k * d) % 31))).swap
 refine NilP.mk rfl ⟨k,At.own (eqS hw) (by exact ⟨rfl,trivial⟩),?_⟩
 rw [wrap64 (x:=k + 1) (by omega) (by omega)]
 refine store_rule hw (by kernel_rfl) rfl (by simp [Value.cells]) fun w hw=>?_
 have hw:=(hw.re (intB b2 (k + 1))).swap
 exact NilP.mk rfl ⟨_,At.own (eqS hw) (by exact ⟨rfl,trivial⟩),rfl,hw⟩
theorem wsum_step {l:List Int} {d:Int} {k:Nat} (hk:l.length=k):(wsum 2 l % 31 + (2 + (k:Int)) * d) % 31=wsum 2 (l++[d]) % 31:=by
 rw [wsum_app,hk]
 simp only [wsum,Int.add_zero]
 rw [Int.emod_add_emod]
theorem p31 {k:Nat} (h:k<5):(31:Int) ^ k≤923521:=by
 rcases (show k=0∨k=1∨k=2∨k=3∨k=4 by omega) with rfl|rfl|rfl|rfl|rfl<;>simp
theorem locRd_no {bs:List Int} (h:∃ c∈bs,worthT c<0):locRd bs=(0,6):=by
 unfold locRd
 rw [if_pos (.inr h)]
theorem worths_bd {l:List Int} (h:∀ c∈l,0≤worthT c):∀ d∈l.map worthT,0≤d∧d<31:=by
 intro d hd
 obtain ⟨c,hc,rfl⟩:=List.mem_map.1 hd
 have h1:=h c hc
 have:=worth_bd c
 omega
theorem lread_spec {s:ByteArray} (hw:Sat R Hs w):Gets Tryz.prog 88 #[.string s] w fun v w'=>v=.tuple #[.int .i64 (locRd (bytesL s)).1,.int .i64 (locRd (bytesL s)).2]∧Sat R Hs w':=by
 apply call88
 suffices H:∀ K:Value→World→Prop,(∀ w',Sat R Hs w'→K (.tuple #[.int .i64 (locRd (bytesL s)).1,.int .i64 (locRd (bytesL s)).2]) w')→B88 s K w from H _ fun w' h=>⟨rfl,h⟩
 intro K hK
 have hbl:=bytesL_len s
 obtain ⟨bs,hbs⟩:∃ bs,bs=bytesL s:=⟨_,rfl⟩
 rw [←hbs] at hK hbl
 refine Br.ne (fun h=>?_) (fun h=>?_)
 ·have:=hK w hw
  unfold locRd at this
  rw [if_pos (.inl (by omega))] at this
  exact this
 have hsz:s.size=6:=by omega
 have hl6:bs.length=6:=by omega
 refine (weighed_spec hw).use ?_
 clear hw
 rintro _ w ⟨b1,b2,rfl,hw⟩
 refine ⟨_,rfl,?_⟩
 refine new_rule hw fun it w hw=>?_
 refine ⟨fun n sum w=>∃ k:Nat,k≤6∧(∀ c∈bs.take k,0≤worthT c)∧n=locN ((bs.take (min k 5)).map worthT)∧sum=wsum 2 ((bs.take (min k 5)).map worthT) % 31∧(k=6→(wsum 2 ((bs.take 5).map worthT) + worthT (bs.getD 5 0)) % 31=0)∧
  Sat R (pts it (.stringIter s k)::intB b1 (wsum 2 ((bs.take (min k 5)).map worthT) % 31)::intB b2 (2 + (min k 5:Nat))::Hs) w,fun _ _ w=>strLeft it w,⟨0,by omega,by simp,by simp [locN],by simp [wsum],by omega,by simpa [wsum] using hw⟩,?_⟩
 clear hw
 rintro _ _ _ w ⟨k,hk,hpos,rfl,rfl,hlast,hw⟩
 have hm:strLeft it w=6 - k:=by rw [strLeft_eq hw,hsz]
 refine nextS_rule hw (fun hlt w hw=>?_) (fun hge=>?_)
 ·rw [hsz] at hlt
  have hkl:k<bs.length:=by omega
  have hxb:0≤bs[k]∧bs[k]<256:=by
   subst hbs
   exact bytesL_bd s _ (List.getElem_mem _)
  have hget:((s.get! k).toNat:Int)=bs[k]:=by subst hbs;exact bytes_get (by omega)
  have err:∀ {w A},worthT bs[k]<0→Sat R (A::intB b1 (wsum 2 ((bs.take (min k 5)).map worthT) % 31)::intB b2 (2 + (min k 5:Nat))::Hs) w→K (.tuple #[.int .i64 0,.int .i64 6]) w:=fun {w A} h hw=>by
   have:=hK w hw.drop.drop.drop
   rw [locRd_no ⟨_,List.getElem_mem hkl,h⟩] at this
   exact this
  by_cases hlo:(s.get! k).toNat<128
  ·rw [dec_lo hlo] at hw ⊢
   dsimp only at hw ⊢
   rw [hget]
   rw [show IntKind.u8.wrap bs[k]=bs[k] by rw [IntKind.wrap_u8];omega]
   refine (sindex_spec hxb hw).use ?_
   clear hw
   rintro _ w ⟨rfl,hw⟩
   have h90:=(ix_worth hxb).2
   refine ⟨_,rfl,fun t w=>(t=true↔worthT bs[k]<0)∧Sat R (pts it (.stringIter s (k + 1))::intB b1 (wsum 2 ((bs.take (min k 5)).map worthT) % 31)::intB b2 (2 + (min k 5:Nat))::Hs) w,?_,?_⟩
   ·exact Br.d (fun h=>⟨⟨fun _=>h,fun _=>rfl⟩,hw⟩) (fun h=>⟨⟨fun h2=>by have:=of_decide_eq_true h2;omega,fun h2=>absurd h2 h⟩,hw⟩)
   clear hw
   rintro _ t w ⟨ht,hw⟩
   refine Br.mk (fun h=>err (ht.1 h) hw) (fun h=>?_)
   have hd0:0≤worthT bs[k]:=by
    rw [←Bool.not_eq_true] at h
    have:¬ worthT bs[k]<0:=fun h2=>h (ht.2 h2)
    omega
   have hdb:0≤worthT bs[k]∧worthT bs[k]<31:=by have:=worth_bd bs[k];omega
   have hpos':∀ c∈bs.take (k + 1),0≤worthT c:=fun c hc=>by
    rw [List.take_add_one,List.getElem?_eq_getElem hkl] at hc
    rcases List.mem_append.1 hc with hc|hc
    ·exact hpos c hc
    ·simp at hc;rw [hc];exact hd0
   have hsb:0≤wsum 2 ((bs.take (min k 5)).map worthT) % 31∧wsum 2 ((bs.take (min k 5)).map worthT) % 31<31:=by omega
   refine Br.d (fun h5=>?_) (fun h5=>?_)
   ·have hk5:k<5:=by omega
    rw [show min k 5=k by omega] at hw hsb ⊢
    have htk:(bs.take k).length=k:=by rw [List.length_take];omega
    have hw:Sat R (intB b1 (wsum 2 ((bs.take k).map worthT) % 31)::intB b2 (2 + (k:Int))::pts it (.stringIter s (k + 1))::Hs) w:=hw.arr
    have hadd:CalW Tryz.prog cl (.func (.func 158) #[] #[.pointer (some ⟨b1,0,none⟩),.pointer (some ⟨b2,0,none⟩)]) [.int .i64 (worthT bs[k])] w fun e w'=>e=.returned (.int .i64 ((wsum 2 ((bs.take k).map worthT) % 31 + (2 + (k:Int)) * worthT bs[k]) % 31))∧Sat R (intB b1 ((wsum 2 ((bs.take k).map worthT) % 31 + (2 + (k:Int)) * worthT bs[k]) % 31)::intB b2 (2 + (k:Int) + 1)::pts it (.stringIter s (k + 1))::Hs) w':=
     CalW.mk (by kernel_rfl) ((wadd_spec hsb (by omega) hdb hw).use fun v w' h=>⟨by rw [h.1],h.2⟩)
    refine hadd.mono ?_
    clear hw hadd
    rintro _ w ⟨rfl,hw⟩
    have htk1:(bs.take (k + 1)).map worthT=(bs.take k).map worthT++[worthT bs[k]]:=by
     rw [List.take_add_one,List.getElem?_eq_getElem hkl,List.map_append];rfl
    rw [wsum_step (by rw [List.length_map,htk]),←htk1] at hw ⊢
    have hnb:=locN_bd (worths_bd hpos)
    rw [List.length_map,htk] at hnb
    have hp31:=p31 hk5
    refine ⟨_,rfl,⟨k + 1,by omega,hpos',?_,?_,fun h=>by omega,?_⟩,?_⟩
    ·rw [show min (k + 1) 5=k + 1 by omega,htk1,locN_app,wrap64 (x:=locN ((bs.take k).map worthT) * 31) (by omega) (by omega),wrap64 (by omega) (by omega)]
    ·rw [show min (k + 1) 5=k + 1 by omega]
    ·rw [show min (k + 1) 5=k + 1 by omega,show (2:Int) + ((k + 1:Nat):Int)=2 + (k:Int) + 1 by omega]
     exact hw.arr
    ·have hw:Sat R (pts it (.stringIter s (k + 1))::intB b1 (wsum 2 ((bs.take (k + 1)).map worthT) % 31)::intB b2 (2 + (k:Int) + 1)::Hs) w:=hw.arr
     rw [strLeft_eq hw,hsz,hm]
     omega
   ·have hk5:k=5:=by omega
    subst hk5
    rw [show min 5 5=5 from rfl] at hw hsb
    have hx5:bs.getD 5 0=bs[5]:=by rw [List.getD_eq_getElem?_getD,List.getElem?_eq_getElem hkl];rfl
    have e1:(wsum 2 ((bs.take 5).map worthT) % 31 + worthT bs[5]) % 31=(wsum 2 ((bs.take 5).map worthT) + worthT (bs.getD 5 0)) % 31:=by rw [hx5];omega
    rw [show min 5 5=5 from rfl,wrap64 (by omega) (by omega),Int.tmod_eq_emod_of_nonneg (by omega)]
    have hall:¬ ∃ c∈bs,worthT c<0:=by
     rintro ⟨c,hc,h⟩
     have:=hpos' c (by rw [List.take_of_length_le (by omega)];exact hc)
     omega
    refine Br.ne (fun hne=>?_) (fun he=>?_)
    ·have:=hK w hw.drop.drop.drop
     unfold locRd at this
     rw [if_neg (fun h=>h.elim (fun h=>h hl6) hall),if_pos (by rw [←e1];exact hne)] at this
     exact this
    ·refine ⟨⟨6,by omega,hpos',by rw [show min 6 5=5 from rfl],by rw [show min 6 5=5 from rfl],fun _=>by rw [←e1];exact he,?_⟩,?_⟩
     ·rw [show min 6 5=5 from rfl]
      exact hw
     ·rw [strLeft_eq hw,hsz,hm]
      omega
  ·have hhi:=dec_hi hlo
   obtain ⟨c,hc⟩:∃ c:Int,c=((Utf8.decode s k).1:Int):=⟨_,rfl⟩
   rw [←hc]
   have hc128:128≤c:=by omega
   have hneg:worthT bs[k]<0:=by
    have:=(ix_worth hxb).2
    omega
   refine (sindex_spec (by rw [IntKind.wrap_u8];omega) hw).use ?_
   clear hw
   rintro _ w ⟨rfl,hw⟩
   refine ⟨_,rfl,fun t w=>t=true∧Sat R (pts it (.stringIter s (k + (Utf8.decode s k).2))::intB b1 (wsum 2 ((bs.take (min k 5)).map worthT) % 31)::intB b2 (2 + (min k 5:Nat))::Hs) w,?_,?_⟩
   ·exact Br.d (fun _=>⟨rfl,hw⟩) (fun _=>⟨decide_eq_true (by omega),hw⟩)
   clear hw
   rintro _ t w ⟨rfl,hw⟩
   exact Br.t rfl (err hneg hw)
 ·have hk6:k=6:=by omega
  subst hk6
  have hall:¬ ∃ c∈bs,worthT c<0:=by
   rintro ⟨c,hc,h⟩
   have:=hpos c (by rw [List.take_of_length_le (by omega)];exact hc)
   omega
  have:=hK w hw.drop.drop.drop
  unfold locRd at this
  rw [if_neg (fun h=>h.elim (fun h=>h hl6) hall),if_neg (fun h=>h (hlast rfl))] at this
  exact this
end Go.Proofs.YtflgboncpbmikaaGreatDoor
/- Package locator: of a number. Condition: none. -/
namespace Go.Proofs.YtflgboncpbmikaaGreatDoor
set_option linter.unusedVariables false
set_option linter.unusedSimpArgs false
open Go Go.VC
open Classical
variable {R:Cx} {Hs Rest:List HP} {w:World}
abbrev outB (b:Nat) (l:List Int):HP:=pts b (.cells (b8 l).toArray 230 (0,0))
abbrev wosB (b:Nat) (l:List Int):HP:=pts b (.cells (intsI l).toArray 231 (0,0))
def stgW:Nat→Int→List Int
 |0,_=>[0,0,0,0,0]
 |1,n=>[0,0,0,0,n % 31]
 |2,n=>[0,0,0,n / 31 % 31,n % 31]
 |3,n=>[0,0,n / 961 % 31,n / 31 % 31,n % 31]
 |4,n=>[0,n / 29791 % 31,n / 961 % 31,n / 31 % 31,n % 31]
 |_,n=>digs n
def stgN:Nat→Int→Int
 |0,n=>n
 |1,n=>n / 31
 |2,n=>n / 961
 |3,n=>n / 29791
 |4,n=>n / 923521
 |_,_=>0
theorem stg_step {n:Int} (h:0≤n∧n<28629151):∀ {k:Nat},k<5→0≤stgN k n∧stgN k n<28629151∧stgN (k + 1) n=stgN k n / 31∧putL (intsI (stgW k n)) (0 + (4 - k)) [.int .i64 (stgN k n % 31)]=intsI (stgW (k + 1) n)
 |0,_=>⟨h.1,h.2,rfl,rfl⟩
 |1,_=>⟨by show 0≤n / 31;omega,by show n / 31<_;omega,by show n / 961=n / 31 / 31;omega,rfl⟩
 |2,_=>⟨by show 0≤n / 961;omega,by show n / 961<_;omega,by show n / 29791=n / 961 / 31;omega,rfl⟩
 |3,_=>⟨by show 0≤n / 29791;omega,by show n / 29791<_;omega,by show n / 923521=n / 29791 / 31;omega,rfl⟩
 |4,_=>⟨by show 0≤n / 923521;omega,by show n / 923521<_;omega,by show 0=n / 923521 / 31;omega,rfl⟩
theorem stgW_len {n:Int}:∀ {k:Nat},k≤5→(stgW k n).length=5
 |0,_=>rfl|1,_=>rfl|2,_=>rfl|3,_=>rfl|4,_=>rfl|5,_=>rfl
def outL (n:Int) (k:Nat):List Int:=((digs n).take k).map signAt++List.replicate (6 - k) 0
theorem outL_step {n:Int}:∀ {k:Nat} (hk:k<5),putL (b8 (outL n k)) (0 + k) [.int .u8 (signAt ((digs n)[k]'hk))]=b8 (outL n (k + 1))
 |0,_=>rfl|1,_=>rfl|2,_=>rfl|3,_=>rfl|4,_=>rfl
theorem outL_end {n:Int}:putL (b8 (outL n 5)) 5 [.int .u8 (signAt (chkD n))]=b8 (locB n):=rfl
theorem outL_len {n:Int}:∀ {k:Nat},k≤5→(b8 (outL n k)).length=6
 |0,_=>rfl|1,_=>rfl|2,_=>rfl|3,_=>rfl|4,_=>rfl|5,_=>rfl
theorem sign_get {d:Int} (h:0≤d∧d<31):signsA[d.toNat]? =some (UInt8.ofNat (signAt d).toNat)∧((UInt8.ofNat (signAt d).toNat).toNat:Int)=signAt d:=by
 have:∀ j:Fin 31,signsA[j.val]? =some (UInt8.ofNat (signB.getD j.val 0).toNat)∧((UInt8.ofNat (signB.getD j.val 0).toNat).toNat:Int)=signB.getD j.val 0:=by decide
 exact this ⟨d.toNat,by omega⟩
set_option maxHeartbeats 1000000 in
theorem lof_spec {n:Int} (hn:0≤n∧n<28629151) (hw:Sat R Hs w):Gets Tryz.prog 112 #[.int .i64 n] w fun v w'=>v=.tuple #[.string (locS n),.int .i64 0]∧Sat R Hs w':=by
 apply call112
 refine ⟨fun w=>Sat R Hs w,Br.d (fun h=>by omega) (fun _=>Br.d (fun h=>by omega) (fun _=>hw)),?_⟩
 clear hw
 rintro _ w hw
 refine new_rule hw fun bo w hw=>new_rule hw fun bw w hw=>?_
 have hw:Sat R (wosB bw (stgW 0 n)::outB bo (outL n 0)::Hs) w:=hw
 refine ⟨fun m i w=>∃ k:Nat,k≤5∧m=stgN k n∧i=4 - (k:Int)∧Sat R (wosB bw (stgW k n)::outB bo (outL n 0)::Hs) w,fun _ i _=>(i + 1).toNat,⟨0,by omega,rfl,rfl,hw⟩,?_⟩
 clear hw
 rintro _ _ _ w ⟨k,hk,rfl,rfl,hw⟩
 refine Br.d (fun h=>?_) (fun h=>?_)
 ·have hk5:k<5:=by omega
  obtain ⟨s1,s2,s3,s4⟩:=stg_step hn hk5
  rw [Int.tmod_eq_emod_of_nonneg s1,Int.tdiv_eq_ediv_of_nonneg s1,wrap64 (x:=stgN k n / 31) (by omega) (by omega),wrap64 (x:=4 - (k:Int) - 1) (by omega) (by omega)]
  refine Rng.mk (by omega) (by omega) ?_
  rw [add_off,show (4 - (k:Int)).toNat=4 - k by omega]
  refine store_rule hw (by kernel_rfl) rfl (by rw [List.length_map,stgW_len (by omega)];show 0 + (4 - k) + 1≤5;omega) fun w hw=>?_
  have hw:Sat R (wosB bw (stgW (k + 1) n)::outB bo (outL n 0)::Hs) w:=by
   unfold wosB
   rw [←s4]
   exact hw
  exact ⟨⟨k + 1,by omega,s3.symm,by omega,hw⟩,by dsimp only;omega⟩
 ·have hk5:k=5:=by omega
  subst hk5
  refine (weighed_spec hw).use ?_
  clear hw
  rintro _ w ⟨b1,b2,rfl,hw⟩
  have hw:Sat R (intB b1 0::intB b2 2::wosB bw (digs n)::outB bo (outL n 0)::Hs) w:=hw
  have hw:Sat R (wosB bw (digs n)::outB bo (outL n 0)::intB b1 0::intB b2 2::Hs) w:=hw.arr
  have hw0:Sat R (outB bo (outL n 0)::intB b1 0::intB b2 2::wosB bw (digs n)::Hs) w:=hw.arr
  refine ⟨_,rfl,intsI (digs n),rfl,At.own (eqS hw) (by exact ⟨rfl,rfl,rfl,rfl,rfl,trivial⟩),?_⟩
  refine ⟨fun sum i w=>∃ k:Nat,i=k∧k≤5∧sum=wsum 2 ((digs n).take k) % 31∧Sat R (outB bo (outL n k)::intB b1 (wsum 2 ((digs n).take k) % 31)::intB b2 (2 + (k:Int))::wosB bw (digs n)::Hs) w,fun _ i _=>(5 - i).toNat,⟨0,rfl,by omega,rfl,hw0⟩,?_⟩
  clear hw hw0
  rintro _ _ _ w ⟨k,rfl,hk,rfl,hw⟩
  refine Br.d (fun h=>?_) (fun h=>?_)
  ·have hk5:k<5:=by omega
   have hkl:k<(digs n).length:=hk5
   have hd:=digs_bd n _ (List.getElem_mem hkl)
   obtain ⟨g1,g2⟩:=sign_get hd
   refine Rng.mk (by omega) (by omega) ⟨(digs n)[k],?_,_,hd.1,g1,?_⟩
   ·rw [Int.toNat_natCast,List.getElem?_toArray,List.getElem?_map,List.getElem?_eq_getElem hkl]
    rfl
   refine Rng.mk (by omega) (by omega) ?_
   rw [add_off,Int.toNat_natCast,g2]
   refine store_rule hw (by kernel_rfl) rfl (by rw [outL_len (by omega)];show 0 + k + 1≤6;omega) fun w hw=>?_
   have hw:Sat R (outB bo (outL n (k + 1))::intB b1 (wsum 2 ((digs n).take k) % 31)::intB b2 (2 + (k:Int))::wosB bw (digs n)::Hs) w:=by
    unfold outB
    rw [←outL_step (n:=n) hk5]
    exact hw
   have hsb:0≤wsum 2 ((digs n).take k) % 31∧wsum 2 ((digs n).take k) % 31<31:=by omega
   have hw:Sat R (intB b1 (wsum 2 ((digs n).take k) % 31)::intB b2 (2 + (k:Int))::outB bo (outL n (k + 1))::wosB bw (digs n)::Hs) w:=hw.arr
   have hadd:CalW Tryz.prog cl (.func (.func 158) #[] #[.pointer (some ⟨b1,0,none⟩),.pointer (some ⟨b2,0,none⟩)]) [.int .i64 (digs n)[k]] w fun e w'=>e=.returned (.int .i64 ((wsum 2 ((digs n).take k) % 31 + (2 + (k:Int)) * (digs n)[k]) % 31))∧Sat R (intB b1 ((wsum 2 ((digs n).take k) % 31 + (2 + (k:Int)) * (digs n)[k]) % 31)::intB b2 (2 + (k:Int) + 1)::outB bo (outL n (k + 1))::wosB bw (digs n)::Hs) w':=
    CalW.mk (by kernel_rfl) ((wadd_spec hsb (by omega) hd hw).use fun v w' h=>⟨by rw [h.1],h.2⟩)
   refine hadd.mono ?_
   clear hw hadd
   rintro _ w ⟨rfl,hw⟩
   have htk:((digs n).take k).length=k:=by rw [List.length_take];omega
   have htk1:(digs n).take (k + 1)=(digs n).take k++[(digs n)[k]]:=by
    rw [List.take_add_one,List.getElem?_eq_getElem hkl];rfl
   rw [wsum_step htk,←htk1] at hw ⊢
   rw [wrap64 (x:=(k:Int) + 1) (by omega) (by omega)]
   refine ⟨_,rfl,⟨k + 1,by omega,by omega,rfl,?_⟩,by dsimp only;omega⟩
   rw [show (2:Int) + ((k + 1:Nat):Int)=2 + (k:Int) + 1 by omega]
   exact hw.arr
  ·have hk5:k=5:=by omega
   subst hk5
   have hcd:=chkD_bd n
   have e:(31 - wsum 2 ((digs n).take 5) % 31).tmod 31=chkD n:=by
    rw [List.take_of_length_le (by exact Nat.le_refl 5),Int.tmod_eq_emod_of_nonneg (by omega)]
    rfl
   rw [wrap64 (x:=31 - wsum 2 ((digs n).take 5) % 31) (by omega) (by omega),e]
   obtain ⟨g1,g2⟩:=sign_get hcd
   refine ⟨_,hcd.1,g1,?_⟩
   rw [add_off,g2]
   refine store_rule hw (by kernel_rfl) rfl (by rw [outL_len (by omega)];show 0 + 5 + 1≤6;omega) fun w hw=>?_
   have hw:Sat R (outB bo (locB n)::intB b1 (wsum 2 ((digs n).take 5) % 31)::intB b2 (2 + ((5:Nat):Int))::wosB bw (digs n)::Hs) w:=by
    unfold outB
    rw [←outL_end (n:=n)]
    exact hw
   have hw2:Sat R (Own ⟨some ⟨bo,0,none⟩,6,6⟩ 230 (b8 (locB n))::intB b1 (wsum 2 ((digs n).take 5) % 31)::intB b2 (2 + ((5:Nat):Int))::wosB bw (digs n)::Hs) w:=own_lit (n:=6) hw
   obtain ⟨R1,h1,_,h3,_⟩:=Own.lend hw2 (by rw [List.length_map,locB_len];omega)
   refine ⟨_,rfl,VC.strOf (locB n),fun w' e=>?_,?_⟩
   ·rw [show w'=w from e]
    exact convS_ro (s:=⟨some ⟨bo,0,none⟩,6,6⟩) (xs:=locB n) Tryz.underlying22 Tryz.underlying5 Tryz.underlying9 h3 h1
   ·exact ⟨rfl,hw.drop.drop.drop.drop⟩
end Go.Proofs.YtflgboncpbmikaaGreatDoor
/- Package booking: the book in memory, opened at a flight, at a booking; at, named. Condition: none. -/
namespace Go.Proofs.YtflgboncpbmikaaGreatDoor
set_option linter.unusedVariables false
set_option linter.unusedSimpArgs false
open Go Go.VC
open Classical
variable {R:Cx} {Hs Rest:List HP} {w:World}
theorem star_mid {A C:List HP} {x:HP}:Sat R (Star (A++x::C)::Hs) w↔Sat R (x::Star (A++C)::Hs) w:=by
 have hp:((A++x::C)++Hs).Perm (x::((A++C)++Hs)):=List.perm_middle.append_right Hs
 constructor
 ·intro h
  exact ((Sat.star.1 h).perm hp).cons fun _ h=>Sat.star.2 h
 ·intro h
  have h2:Sat R (x::((A++C)++Hs)) w:=h.cons fun _ h=>Sat.star.1 h
  exact Sat.star.2 (h2.perm hp.symm)
theorem fls_mid {A C:List FE} {f q:Nat} {p:Pl}:Sat R (FlsAt (A++(f,q,p)::C)::Hs) w↔Sat R (LoneAt f p.r::QuAt q p.q::FlsAt (A++C)::Hs) w:=by
 unfold FlsAt
 rw [List.map_append,List.map_cons,star_mid,List.map_append]
 exact Sat.star
theorem bks_mid {A C:List BE} {a:Nat} {x:Bk}:Sat R (BksAt (A++(a,x)::C)::Hs) w↔Sat R (pts a (bkObj x)::BksAt (A++C)::Hs) w:=by
 unfold BksAt
 rw [List.map_append,List.map_cons,star_mid,List.map_append]
 exact Iff.rfl
theorem getM_mid {β:Type} {k:Int} {v:β} {a b:List (Int × β)} (h:∀ e∈a,e.1≠k):getM k (a++(k,v)::b)=some v:=getM_app (getM_ne.2 h) (by simp)
theorem delM_mid {β:Type} {k:Int} {v:β} {a b:List (Int × β)} (h:∀ e∈a,e.1≠k):delM k (a++(k,v)::b)=a++b:=delM_app (getM_ne.2 h) (by simp)
structure FlMid (A C:List FE) (n:Int) (p:Pl):Prop where
 num:p.n=n
 a:∀ e∈A,e.2.2.n≠n
 c:∀ e∈C,e.2.2.n≠n
structure BkMid (A C:List BE) (x:Bk):Prop where
 a:∀ e∈A,e.2.id≠x.id
 c:∀ e∈C,e.2.id≠x.id
theorem fl_split {b:Book} {fs:List FE} {xs:List BE} (hl:BookL b fs xs) (c:KRise Pl.n b.fl) {n:Int} {p:Pl} (h:b.at n=some p):∃ A f q C,fs=A++(f,q,p)::C∧FlMid A C n p:=by
 have h1:=kget_some h
 obtain ⟨⟨f,q,p'⟩,he,hp⟩:=List.mem_map.1 (hl.fl.mem_iff.2 h1.1)
 dsimp only at hp
 subst hp
 obtain ⟨A,C,rfl⟩:=List.append_of_mem he
 have hnd:((A++(f,q,p')::C).map fun e=>e.2.2).Pairwise fun a b=>a.n≠b.n:=(hl.fl.pairwise_iff (fun h=>Ne.symm h)).2 (KRise.ne c)
 rw [List.map_append,List.map_cons,List.pairwise_append,List.pairwise_cons] at hnd
 refine ⟨A,f,q,C,rfl,h1.2,fun e he2=>?_,fun e he2=>?_⟩
 ·have:=hnd.2.2 e.2.2 (List.mem_map.2 ⟨e,he2,rfl⟩) p' (by simp)
  rw [←h1.2];exact this
 ·have:=hnd.2.1.1 e.2.2 (List.mem_map.2 ⟨e,he2,rfl⟩)
  rw [←h1.2];exact this.symm
theorem fl_get {A C:List FE} {f q:Nat} {n:Int} {p:Pl} (h:FlMid A C n p):getM n ((A++(f,q,p)::C).map flV)=some (.agg #[.pointer (some ⟨f,0,none⟩),.pointer (some ⟨q,0,none⟩)]):=by
 rw [List.map_append,List.map_cons]
 unfold flV
 dsimp only
 rw [h.num]
 exact getM_mid fun e he=>by
  obtain ⟨e',h1,rfl⟩:=List.mem_map.1 he
  exact h.a e' h1
theorem bk_split {b:Book} {fs:List FE} {xs:List BE} (hl:BookL b fs xs) (c:KRise Bk.id b.L) {x:Bk} (h:x∈b.L):∃ A a C,xs=A++(a,x)::C∧BkMid A C x:=by
 rw [←hl.bk] at h
 obtain ⟨⟨a,x'⟩,he,hp⟩:=List.mem_map.1 h
 dsimp only at hp
 subst hp
 obtain ⟨A,C,rfl⟩:=List.append_of_mem he
 have hnd:((A++(a,x')::C).map fun e=>e.2).Pairwise fun a b=>a.id≠b.id:=by rw [hl.bk];exact KRise.ne c
 rw [List.map_append,List.map_cons,List.pairwise_append,List.pairwise_cons] at hnd
 refine ⟨A,a,C,rfl,fun e he2=>?_,fun e he2=>?_⟩
 ·exact hnd.2.2 e.2 (List.mem_map.2 ⟨e,he2,rfl⟩) x' (by simp)
 ·exact (hnd.2.1.1 e.2 (List.mem_map.2 ⟨e,he2,rfl⟩)).symm
theorem bk_get {A C:List BE} {a:Nat} {x:Bk} (h:BkMid A C x):getM x.id ((A++(a,x)::C).map bkV)=some (.pointer (some ⟨a,0,none⟩)):=by
 rw [List.map_append,List.map_cons]
 exact getM_mid fun e he=>by
  obtain ⟨e',h1,rfl⟩:=List.mem_map.1 he
  exact h.a e' h1
theorem bk_none {b:Book} {fs:List FE} {xs:List BE} (hl:BookL b fs xs) {n:Int}:getM n (xs.map bkV)=none↔b.bk n=none:=by
 unfold Book.bk
 rw [getM_ne,kget_none,←hl.bk]
 constructor
 ·intro h x hx
  obtain ⟨e,he,rfl⟩:=List.mem_map.1 hx
  exact h (bkV e) (List.mem_map.2 ⟨e,he,rfl⟩)
 ·rintro h _ he
  obtain ⟨e,h1,rfl⟩:=List.mem_map.1 he
  exact h e.2 (List.mem_map.2 ⟨e,h1,rfl⟩)
theorem bk_len {b:Book} {fs:List FE} {xs:List BE} (hl:BookL b fs xs):xs.length=b.L.length:=by
 have:=congrArg List.length hl.bk
 rwa [List.length_map] at this
theorem BookL.fset {b:Book} {A C:List FE} {xs:List BE} {f q:Nat} {n:Int} {p:Pl} (hl:BookL b (A++(f,q,p)::C) xs) (h:FlMid A C n p) (g:Pl→Pl):((A++(f,q,g p)::C).map fun e=>e.2.2).Perm (kset Pl.n n g b.fl):=by
 have h1:=hl.fl.map fun x=>if x.n=n then g x else x
 unfold kset
 refine List.Perm.trans (List.Perm.of_eq ?_) h1
 have key:∀ L:List FE,(∀ e∈L,e.2.2.n≠n)→(L.map fun e=>e.2.2).map (fun x=>if x.n=n then g x else x)=L.map fun e=>e.2.2:=fun L hL=>by
  rw [List.map_map]
  refine List.map_congr_left fun e he=>?_
  show (if e.2.2.n=n then _ else _)=_
  rw [if_neg (hL e he)]
 rw [List.map_append,List.map_cons,List.map_append,List.map_cons,List.map_append,List.map_cons,key A h.a,key C h.c]
 rw [if_pos h.num]
theorem BookL.bset {b:Book} {A C:List BE} {fs:List FE} {a:Nat} {x:Bk} (hl:BookL b fs (A++(a,x)::C)) (c:KRise Bk.id b.L) (g:Bk→Bk):(A++(a,g x)::C).map (fun e=>e.2)=kset Bk.id x.id g b.L:=by
 have e:=hl.bk
 rw [List.map_append,List.map_cons] at e ⊢
 rw [←e] at c ⊢
 exact (kset_mid rfl c).symm
theorem BookL.bdel {b:Book} {A C:List BE} {fs:List FE} {a:Nat} {x:Bk} (hl:BookL b fs (A++(a,x)::C)) (c:KRise Bk.id b.L):(A++C).map (fun e=>e.2)=kdel Bk.id x.id b.L:=by
 have e:=hl.bk
 rw [List.map_append,List.map_cons] at e
 rw [List.map_append]
 rw [←e] at c ⊢
 exact (kdel_mid rfl c).symm
theorem fl_vals {A C:List FE} {f q:Nat} {n:Int} {p p':Pl} (h:p.n=n) (h':p'.n=n):(A++(f,q,p')::C).map flV=(A++(f,q,p)::C).map flV:=by
 rw [List.map_append,List.map_append,List.map_cons,List.map_cons]
 unfold flV
 dsimp only
 rw [h,h']
theorem bk_vals {A C:List BE} {a:Nat} {x x':Bk} (h:x'.id=x.id):(A++(a,x')::C).map bkV=(A++(a,x)::C).map bkV:=by
 rw [List.map_append,List.map_append,List.map_cons,List.map_cons]
 unfold bkV
 dsimp only
 rw [h]
theorem bk_vdel {A C:List BE} {a:Nat} {x:Bk} (h:BkMid A C x):delM x.id ((A++(a,x)::C).map bkV)=(A++C).map bkV:=by
 rw [List.map_append,List.map_cons,List.map_append]
 exact delM_mid fun e he=>by
  obtain ⟨e',h1,rfl⟩:=List.mem_map.1 he
  exact h.a e' h1
abbrev plC (b:Nat) (v1 v2:Option Addr):HP:=pts b (.cells [.pointer v1,.pointer v2].toArray 119 (0,0))
theorem fl_shape {n:Int} {fs:List FE}:∃ v1 v2:Option Addr,(getM n (fs.map flV)).getD (.agg #[.pointer none,.pointer none])=.agg #[.pointer v1,.pointer v2]:=by
 cases hgm:getM n (fs.map flV) with
 |none=>exact ⟨none,none,rfl⟩
 |some v=>
  obtain ⟨A,C,e,_⟩:=getM_split hgm
  have:(n,v)∈fs.map flV:=by rw [e];simp
  obtain ⟨x,_,hx⟩:=List.mem_map.1 this
  have hx2:=congrArg Prod.snd hx
  exact ⟨_,_,hx2.symm⟩
theorem bk_shape {n:Int} {xs:List BE}:∃ v:Option Addr,(getM n (xs.map bkV)).getD (.pointer none)=.pointer v:=by
 cases hgm:getM n (xs.map bkV) with
 |none=>exact ⟨none,rfl⟩
 |some v=>
  obtain ⟨A,C,e,_⟩:=getM_split hgm
  have:(n,v)∈xs.map bkV:=by rw [e];simp
  obtain ⟨x,_,hx⟩:=List.mem_map.1 this
  have hx2:=congrArg Prod.snd hx
  exact ⟨_,hx2.symm⟩
theorem bat_spec {p m1 m2:Nat} {b:Book} {fs:List FE} {n:Int} (hw:Sat R (pts p (bookC b m1 m2)::MapAt m1 (fs.map flV)::Hs) w):
  GetsX Tryz.prog 78 #[.pointer (some ⟨p,0,none⟩),.int .i64 n] w
   (fun ch w'=>ch=errP 2∧getM n (fs.map flV)=none∧Sat R (pts p (bookC b m1 m2)::MapAt m1 (fs.map flV)::Hs) w')
   (fun v w'=>(∃ v1 v2,getM n (fs.map flV)=some (.agg #[.pointer v1,.pointer v2])∧v=.agg #[.pointer v1,.pointer v2])∧Sat R (pts p (bookC b m1 m2)::MapAt m1 (fs.map flV)::Hs) w'):=by
 obtain ⟨v1,v2,hv⟩:=fl_shape (n:=n) (fs:=fs)
 apply call78
 refine new_rule hw fun b4 w hw=>?_
 refine NilP.mk rfl ⟨some m1,At.own (eqS hw) (by exact ⟨rfl,trivial⟩),v1,v2,(getM n (fs.map flV)).isSome,fun w' e=>?_,?_⟩
 ·rw [show w'=w from e]
  have hm:Sat R (MapAt m1 (fs.map flV)::pts p (bookC b m1 m2)::plC b4 none none::Hs) w:=hw.arr
  have:=MapAt.look pMap hm n true
  rw [hv] at this
  exact this
 refine new_rule hw fun b5 w hw=>?_
 refine store_rule hw (by kernel_rfl) rfl (by simp [Value.cells]) fun w hw=>?_
 have hw:=hw.re (plC b5 v1 v2)
 refine need_c (fun hn=>.inl ⟨rfl,?_⟩) (fun hn=>.inr ⟨_,rfl,rfl,?_,hw.drop.drop⟩)
 ·refine ⟨v1,v2,At.own (eqS hw) (by exact ⟨rfl,rfl,trivial⟩),?_⟩
  have hw:Sat R (plC b4 none none::plC b5 v1 v2::pts p (bookC b m1 m2)::MapAt m1 (fs.map flV)::Hs) w:=hw.swap
  refine store_rule hw (by kernel_rfl) rfl (by simp [Value.cells]) fun w hw=>?_
  have hw:=hw.re (plC b4 v1 v2)
  refine ⟨v1,v2,At.own (eqS hw) (by exact ⟨rfl,rfl,trivial⟩),⟨v1,v2,?_,rfl⟩,hw.drop.drop⟩
  obtain ⟨v,hs⟩:=Option.isSome_iff_exists.1 hn
  rw [hs] at hv ⊢
  exact congrArg some hv
 ·cases hg:getM n (fs.map flV) with
  |none=>rfl
  |some v=>rw [hg] at hn;cases hn
theorem bnamed_spec {p m1 m2:Nat} {b:Book} {xs:List BE} {s:ByteArray} (hw:Sat R (pts p (bookC b m1 m2)::MapAt m2 (xs.map bkV)::Hs) w):
  GetsX Tryz.prog 52 #[.pointer (some ⟨p,0,none⟩),.string s] w
   (fun ch w'=>(∃ e,ch=errP e∧(((locRd (bytesL s)).2≠0∧e=(locRd (bytesL s)).2)∨((locRd (bytesL s)).2=0∧e=2∧getM (locRd (bytesL s)).1 (xs.map bkV)=none)))∧Sat R (pts p (bookC b m1 m2)::MapAt m2 (xs.map bkV)::Hs) w')
   (fun v w'=>(∃ v1,(locRd (bytesL s)).2=0∧getM (locRd (bytesL s)).1 (xs.map bkV)=some (.pointer v1)∧v=.pointer v1)∧Sat R (pts p (bookC b m1 m2)::MapAt m2 (xs.map bkV)::Hs) w'):=by
 obtain ⟨v1,hv⟩:=bk_shape (n:=(locRd (bytesL s)).1) (xs:=xs)
 apply call52
 refine (lread_spec hw).use ?_
 clear hw
 rintro _ w ⟨rfl,hw⟩
 refine .inl ⟨_,_,rfl,?_⟩
 refine mustE_c (fun h0=>.inl ⟨rfl,?_⟩) (fun h0=>.inr ⟨_,rfl,⟨_,rfl,.inl ⟨h0,rfl⟩⟩,hw⟩)
 refine NilP.mk rfl ⟨some m2,At.own (eqS hw) (by exact ⟨rfl,trivial⟩),v1,(getM (locRd (bytesL s)).1 (xs.map bkV)).isSome,fun w' e=>?_,?_⟩
 ·rw [show w'=w from e]
  have:=MapAt.look bMap hw.swap (locRd (bytesL s)).1 true
  rw [hv] at this
  exact this
 refine need_c (fun hn=>.inl ⟨rfl,⟨v1,h0,?_,rfl⟩,hw⟩) (fun hn=>.inr ⟨_,rfl,⟨_,rfl,.inr ⟨h0,rfl,?_⟩⟩,hw⟩)
 ·obtain ⟨v,hs⟩:=Option.isSome_iff_exists.1 hn
  rw [hs] at hv ⊢
  exact congrArg some hv
 ·cases hg:getM (locRd (bytesL s)).1 (xs.map bkV) with
  |none=>rfl
  |some v=>rw [hg] at hn;cases hn
end Go.Proofs.YtflgboncpbmikaaGreatDoor
/- Package booking: a booking is told. Condition: none. -/
namespace Go.Proofs.YtflgboncpbmikaaGreatDoor
set_option linter.unusedVariables false
set_option linter.unusedSimpArgs false
open Go Go.VC
open Classical
variable {R:Cx} {Hs Rest:List HP} {w:World}
set_option maxHeartbeats 1000000 in
theorem told_spec {p m1 m2 a f q:Nat} {b:Book} {A C:List FE} {x:Bk} {pl:Pl} (hid:0≤x.id∧x.id<28629151) (hm:FlMid A C x.flt pl)
  (hw:Sat R (pts p (bookC b m1 m2)::MapAt m1 ((A++(f,q,pl)::C).map flV)::pts a (bkObj x)::LoneAt f pl.r::Hs) w):
  Gets Tryz.prog 82 #[.pointer (some ⟨p,0,none⟩),.pointer (some ⟨a,0,none⟩)] w fun v w'=>∃ sl sb:Sl,v=.agg (rpV (tellP pl x) sl sb).toArray∧
   Sat R (Own sl 3 (intsI (rleftsF pl.r))::Own sb 9 ((rlabelsF pl.r x.id).map Value.string)::pts p (bookC b m1 m2)::MapAt m1 ((A++(f,q,pl)::C).map flV)::pts a (bkObj x)::LoneAt f pl.r::Hs) w':=by
 obtain ⟨M,hM⟩:∃ M,M=(A++(f,q,pl)::C).map flV:=⟨_,rfl⟩
 have hget:getM x.flt M=some (.agg #[.pointer (some ⟨f,0,none⟩),.pointer (some ⟨q,0,none⟩)]):=by rw [hM];exact fl_get hm
 rw [←hM] at hw ⊢
 apply call82
 refine new_rule hw fun b4 w hw=>?_
 have hw:Sat R (rpNew b4::pts p (bookC b m1 m2)::MapAt m1 M::pts a (bkObj x)::LoneAt f pl.r::Hs) w:=hw
 refine drw_ruleT hw fun w hw=>?_
 refine NilP.mk rfl ⟨some m1,At.own (fun _ h=>h) (by exact ⟨rfl,trivial⟩),NilP.mk rfl ⟨x.flt,At.own (fun _ h=>h) (by exact ⟨rfl,trivial⟩),some ⟨f,0,none⟩,some ⟨q,0,none⟩,fun w' h=>?_,?_⟩⟩
 ·have hm1:Sat R (MapAt m1 M::VC.tru::rpNew b4::pts p (bookC b m1 m2)::pts a (bkObj x)::LoneAt f pl.r::Hs) w':=Sat.arr h
  have:=MapAt.look pMap hm1 x.flt false
  rw [hget] at this
  exact this
 refine new_rule hw fun b5 w hw=>⟨hw.absorb,?_⟩
 refine store_rule hw (by kernel_rfl) rfl (by simp [Value.cells]) fun w hw=>?_
 have hw:=hw.re (plC b5 (some ⟨f,0,none⟩) (some ⟨q,0,none⟩))
 have hw:Sat R (plC b5 (some ⟨f,0,none⟩) (some ⟨q,0,none⟩)::rpNew b4::pts p (bookC b m1 m2)::MapAt m1 M::pts a (bkObj x)::LoneAt f pl.r::Hs) w:=hw.cons fun _ h=>h.drop
 refine NilP.mk rfl ⟨x.id,At.own (eqS hw) (by exact ⟨rfl,trivial⟩),?_⟩
 refine (lof_spec hid hw).use ?_
 clear hw
 rintro _ w ⟨rfl,hw⟩
 refine ⟨_,_,rfl,?_⟩
 refine drw_rule' (Sat R [pts a (bkObj x),plC b5 (some ⟨f,0,none⟩) (some ⟨q,0,none⟩),VC.tru]) hw (fun w hw=>?_) fun w hw=>?_
 ·exact (hw.arr (Hs':=pts a (bkObj x)::plC b5 (some ⟨f,0,none⟩) (some ⟨q,0,none⟩)::rpNew b4::pts p (bookC b m1 m2)::MapAt m1 M::LoneAt f pl.r::Hs)).cons fun _ h=>h.restTru2
 refine NilP.mk rfl ⟨x.state,At.own (fun _ h=>h) (by exact ⟨rfl,trivial⟩),NilP.mk rfl ⟨x.flt,At.own (fun _ h=>h) (by exact ⟨rfl,trivial⟩),NilP.mk rfl ⟨x.cls,At.own (fun _ h=>h) (by exact ⟨rfl,trivial⟩),NilP.mk rfl ⟨x.many,At.own (fun _ h=>h) (by exact ⟨rfl,trivial⟩),NilP.mk rfl ⟨x.till,At.own (fun _ h=>h) (by exact ⟨rfl,trivial⟩),some ⟨f,0,none⟩,At.own (fun _ h=>h) (by exact ⟨rfl,trivial⟩),some ⟨f,0,none⟩,At.own (fun _ h=>h) (by exact ⟨rfl,trivial⟩),NilP.mk rfl ⟨x.id,At.own (fun _ h=>h) (by exact ⟨rfl,trivial⟩),?_⟩⟩⟩⟩⟩⟩
 have hw:Sat R (LoneAt f pl.r::pts a (bkObj x)::plC b5 (some ⟨f,0,none⟩) (some ⟨q,0,none⟩)::rpNew b4::pts p (bookC b m1 m2)::MapAt m1 M::Hs) w:=hw.arr
 refine (lone_left hw).use ?_
 clear hw
 rintro _ w ⟨sl,rfl,hw⟩
 refine ⟨sl,rfl,?_,?_⟩
 ·exact (hw.arr (Hs':=pts a (bkObj x)::plC b5 (some ⟨f,0,none⟩) (some ⟨q,0,none⟩)::Own sl 3 (intsI (rleftsF pl.r))::LoneAt f pl.r::rpNew b4::pts p (bookC b m1 m2)::MapAt m1 M::Hs)).cons fun _ h=>h.restTru2
 have hw:Sat R (LoneAt f pl.r::pts a (bkObj x)::plC b5 (some ⟨f,0,none⟩) (some ⟨q,0,none⟩)::rpNew b4::Own sl 3 (intsI (rleftsF pl.r))::pts p (bookC b m1 m2)::MapAt m1 M::Hs) w:=hw.arr
 refine (lone_labels hw).use ?_
 clear hw
 rintro _ w ⟨sb,rfl,hw⟩
 refine ⟨sb,rfl,?_,?_⟩
 ·exact (hw.arr (Hs':=pts a (bkObj x)::plC b5 (some ⟨f,0,none⟩) (some ⟨q,0,none⟩)::Own sb 9 ((rlabelsF pl.r x.id).map Value.string)::LoneAt f pl.r::rpNew b4::Own sl 3 (intsI (rleftsF pl.r))::pts p (bookC b m1 m2)::MapAt m1 M::Hs)).cons fun _ h=>h.restTru2
 have hw:Sat R (rpNew b4::plC b5 (some ⟨f,0,none⟩) (some ⟨q,0,none⟩)::Own sl 3 (intsI (rleftsF pl.r))::Own sb 9 ((rlabelsF pl.r x.id).map Value.string)::pts p (bookC b m1 m2)::MapAt m1 M::pts a (bkObj x)::LoneAt f pl.r::Hs) w:=hw.arr
 refine store_rule hw (by kernel_rfl) rfl (by simp [Value.cells]) fun w hw=>?_
 have hw:=hw.re (rpC b4 (tellP pl x) sl sb)
 refine ⟨0,locS x.id,x.state,x.flt,x.cls,x.many,x.till,sl,sb,At.own (eqS hw) (by exact ⟨rfl,rfl,rfl,rfl,rfl,rfl,rfl,rfl,rfl,trivial⟩),sl,sb,rfl,hw.drop.drop⟩
end Go.Proofs.YtflgboncpbmikaaGreatDoor
/- Package booking: room is given to those who wait. Condition: none. -/
namespace Go.Proofs.YtflgboncpbmikaaGreatDoor
set_option linter.unusedVariables false
set_option linter.unusedSimpArgs false
open Go Go.VC
open Classical
variable {R:Cx} {Hs Rest:List HP} {w:World}
def quLen (q:Nat) (w:World):Nat:=match w.heap[q]? with
 |some (.cells l _ _)=>(match l[0]? with|some (Value.slice _ n _)=>n|_=>0)
 |_=>0
theorem quLen_eq {q:Nat} {l:List Wt} (hw:Sat R (QuAt q l::Hs) w):quLen q w=l.length:=by
 obtain ⟨s,hw⟩:=Sat.qu.1 hw
 have h:=OwnN.len hw.swap
 rw [List.length_map] at h
 unfold quLen
 rw [hw.at]
 exact h
theorem first_own {q:Nat} {l:List Wt} {sl:Sl} {left:List Int} (hq:QOk l) (hb:left.length≤9223372036854775807) (hw:Sat R (Own sl 3 (intsI left)::QuAt q l::Hs) w):
  Gets Tryz.prog 111 #[.pointer (some ⟨q,0,none⟩),.slice sl.a sl.len sl.cap] w fun v w'=>v=.tuple #[wtA ((qfirst l left).getD zeroW),.bool (qfirst l left).isSome]∧Sat R (QuAt q l::Hs) w':=by
 obtain ⟨R1,e1,g1,hw⟩:=Own.leak hw
 refine (qfirst_spec hq (g1.ro (by rw [List.length_map];exact hb)) hw).use ?_
 clear hw
 rintro _ w ⟨rfl,hw⟩
 exact ⟨_,rfl,rfl,e1.back hw⟩
abbrev fqC (b f q:Nat):HP:=plC b (some ⟨f,0,none⟩) (some ⟨q,0,none⟩)
structure PromI (n:Int) (b:Book) (A C:List FE) (f q:Nat) (MB:List (Int × Value)) (j:Nat) (b':Book) (pl:Pl) (xs:List BE):Prop where
 prom:promote n b=promB j n b'
 len:pl.q.length<j
 core:Core b'
 here:b'.at n=some pl
 now:b'.now=b.now
 next:b'.next=b.next
 book:BookL b' (A++(f,q,pl)::C) xs
 mb:xs.map bkV=MB
abbrev promH (R:Cx) (Hs:List HP) (p m1 m2 f q b4 bw:Nat) (b:Book) (pl:Pl) (A C:List FE) (MF MB:List (Int × Value)) (xs:List BE) (w:World):Prop:=
 Sat R (LoneAt f pl.r::QuAt q pl.q::pts p (bookC b m1 m2)::MapAt m1 MF::MapAt m2 MB::FlsAt (A++C)::BksAt xs::fqC b4 f q::wtD bw ((qfirst pl.q (rleftsF pl.r)).getD zeroW)::Hs) w
theorem lefts_len8 {r:RF} (g:Good r):(rleftsF r).length≤9223372036854775807:=by have:=(lefts_bd g).1;omega
set_option maxHeartbeats 2000000 in
theorem promote_spec {p m1 m2:Nat} {b:Book} {fs:List FE} {xs:List BE} {n:Int} {pl:Pl} (k:Core b) (hl:BookL b fs xs) (hat:b.at n=some pl)
  (hw:Sat R (pts p (bookC b m1 m2)::MapAt m1 (fs.map flV)::MapAt m2 (xs.map bkV)::FlsAt fs::BksAt xs::Hs) w):
  Gets Tryz.prog 81 #[.pointer (some ⟨p,0,none⟩),.int .i64 n] w fun v w'=>v=.tuple #[]∧∃ fs' xs',BookL (promote n b) fs' xs'∧fs'.map flV=fs.map flV∧xs'.map bkV=xs.map bkV∧
   Sat R (pts p (bookC (promote n b) m1 m2)::MapAt m1 (fs.map flV)::MapAt m2 (xs.map bkV)::FlsAt fs'::BksAt xs'::Hs) w':=by
 obtain ⟨A,f,q,C,rfl,hm⟩:=fl_split hl k.nums hat
 obtain ⟨MF,hMF⟩:∃ M,M=(A++(f,q,pl)::C).map flV:=⟨_,rfl⟩
 obtain ⟨MB,hMB⟩:∃ M,M=xs.map bkV:=⟨_,rfl⟩
 have hget:getM n MF=some (.agg #[.pointer (some ⟨f,0,none⟩),.pointer (some ⟨q,0,none⟩)]):=by rw [hMF];exact fl_get hm
 rw [←hMF,←hMB] at hw ⊢
 have hpl:=at_some hat
 apply call81
 refine NilP.mk rfl ⟨some m1,At.own (eqS hw) (by exact ⟨rfl,trivial⟩),some ⟨f,0,none⟩,some ⟨q,0,none⟩,fun w' e=>?_,?_⟩
 ·rw [show w'=w from e]
  have:=MapAt.look pMap hw.swap n false
  rw [hget] at this
  exact this
 refine new_rule hw fun b4 w hw=>?_
 refine store_rule hw (by kernel_rfl) rfl (by simp [Value.cells]) fun w hw=>?_
 have hw:=hw.re (fqC b4 f q)
 have hw:Sat R (FlsAt (A++(f,q,pl)::C)::pts p (bookC b m1 m2)::MapAt m1 MF::MapAt m2 MB::BksAt xs::fqC b4 f q::Hs) w:=hw.arr
 have hw:=fls_mid.1 hw
 have hg:Good pl.r:=k.good pl hpl.1
 have hqok:QOk pl.q:=k.qok pl hpl.1
 have hi0:PromI n b A C f q MB 201 b pl xs:=⟨rfl,by have:=hqok.len;omega,k,hat,rfl,rfl,hl,hMB.symm⟩
 refine ⟨fun w5 fits w=>∃ bw,w5=some ⟨bw,0,none⟩∧fits=(qfirst pl.q (rleftsF pl.r)).isSome∧promH R Hs p m1 m2 f q b4 bw b pl A C MF MB xs w,?_,?_⟩
 ·refine drw_rule' (Sat R [fqC b4 f q,VC.tru]) hw (fun w hw=>?_) fun w hw=>?_
  ·exact (hw.arr (Hs':=fqC b4 f q::LoneAt f pl.r::QuAt q pl.q::FlsAt (A++C)::pts p (bookC b m1 m2)::MapAt m1 MF::MapAt m2 MB::BksAt xs::Hs)).cons fun _ h=>h.allTru
  refine ⟨some ⟨q,0,none⟩,At.own (fun _ h=>h) (by exact ⟨rfl,trivial⟩),some ⟨f,0,none⟩,At.own (fun _ h=>h) (by exact ⟨rfl,trivial⟩),?_,?_⟩
  ·refine (lone_left hw).use ?_
   clear hw
   rintro _ w ⟨sl,rfl,hw⟩
   refine ⟨sl,rfl,?_,?_,?_⟩
   ·exact (hw.arr (Hs':=fqC b4 f q::Own sl 3 (intsI (rleftsF pl.r))::LoneAt f pl.r::QuAt q pl.q::FlsAt (A++C)::pts p (bookC b m1 m2)::MapAt m1 MF::MapAt m2 MB::BksAt xs::Hs)).cons fun _ h=>h.allTru
   ·have hw:Sat R (Own sl 3 (intsI (rleftsF pl.r))::QuAt q pl.q::LoneAt f pl.r::FlsAt (A++C)::pts p (bookC b m1 m2)::MapAt m1 MF::MapAt m2 MB::BksAt xs::fqC b4 f q::Hs) w:=hw.arr
    refine (first_own hqok (lefts_len8 hg) hw).use ?_
    clear hw
    rintro _ w ⟨rfl,hw⟩
    refine ⟨_,_,_,_,_,_,rfl,?_,?_⟩
    ·exact (hw.arr (Hs':=fqC b4 f q::LoneAt f pl.r::QuAt q pl.q::FlsAt (A++C)::pts p (bookC b m1 m2)::MapAt m1 MF::MapAt m2 MB::BksAt xs::Hs)).cons fun _ h=>h.allTru
    refine new_rule hw fun bw w hw=>?_
    have hw:Sat R (wtD bw zeroW::QuAt q pl.q::LoneAt f pl.r::FlsAt (A++C)::pts p (bookC b m1 m2)::MapAt m1 MF::MapAt m2 MB::BksAt xs::fqC b4 f q::Hs) w:=hw
    refine ⟨?_,?_⟩
    ·exact (hw.arr (Hs':=fqC b4 f q::wtD bw zeroW::LoneAt f pl.r::QuAt q pl.q::FlsAt (A++C)::pts p (bookC b m1 m2)::MapAt m1 MF::MapAt m2 MB::BksAt xs::Hs)).cons fun _ h=>h.allTru
    refine store_rule hw (by kernel_rfl) rfl (by simp [Value.cells,wtV]) fun w hw=>?_
    have hw:=hw.re (wtD bw ((qfirst pl.q (rleftsF pl.r)).getD zeroW))
    exact ⟨bw,rfl,rfl,hw.arr⟩
   ·refine new_rule hw fun bw w hw=>?_
    have hw:Sat R (wtD bw zeroW::Own sl 3 (intsI (rleftsF pl.r))::LoneAt f pl.r::QuAt q pl.q::FlsAt (A++C)::pts p (bookC b m1 m2)::MapAt m1 MF::MapAt m2 MB::BksAt xs::fqC b4 f q::Hs) w:=hw
    refine ⟨?_,?_⟩
    ·exact (hw.arr (Hs':=fqC b4 f q::wtD bw zeroW::Own sl 3 (intsI (rleftsF pl.r))::LoneAt f pl.r::QuAt q pl.q::FlsAt (A++C)::pts p (bookC b m1 m2)::MapAt m1 MF::MapAt m2 MB::BksAt xs::Hs)).cons fun _ h=>h.allTru
    have hw:Sat R (wtD bw zeroW::Own sl 3 (intsI (rleftsF pl.r))::LoneAt f pl.r::QuAt q pl.q::FlsAt (A++C)::pts p (bookC b m1 m2)::MapAt m1 MF::MapAt m2 MB::BksAt xs::fqC b4 f q::Hs) w:=hw
    have hw:Sat R (Own sl 3 (intsI (rleftsF pl.r))::QuAt q pl.q::wtD bw zeroW::LoneAt f pl.r::FlsAt (A++C)::pts p (bookC b m1 m2)::MapAt m1 MF::MapAt m2 MB::BksAt xs::fqC b4 f q::Hs) w:=hw.arr
    refine (first_own hqok (lefts_len8 hg) hw).use ?_
    clear hw
    rintro _ w ⟨rfl,hw⟩
    refine ⟨_,_,_,_,_,_,rfl,?_,?_⟩
    ·exact (hw.arr (Hs':=fqC b4 f q::wtD bw zeroW::LoneAt f pl.r::QuAt q pl.q::FlsAt (A++C)::pts p (bookC b m1 m2)::MapAt m1 MF::MapAt m2 MB::BksAt xs::Hs)).cons fun _ h=>h.allTru
    have hw:Sat R (wtD bw zeroW::QuAt q pl.q::LoneAt f pl.r::FlsAt (A++C)::pts p (bookC b m1 m2)::MapAt m1 MF::MapAt m2 MB::BksAt xs::fqC b4 f q::Hs) w:=hw.arr
    refine store_rule hw (by kernel_rfl) rfl (by simp [Value.cells,wtV]) fun w hw=>?_
    have hw:=hw.re (wtD bw ((qfirst pl.q (rleftsF pl.r)).getD zeroW))
    exact ⟨bw,rfl,rfl,hw.arr⟩
  ·refine new_rule hw fun bw w hw=>?_
   have hw:Sat R (wtD bw zeroW::LoneAt f pl.r::QuAt q pl.q::FlsAt (A++C)::pts p (bookC b m1 m2)::MapAt m1 MF::MapAt m2 MB::BksAt xs::fqC b4 f q::Hs) w:=hw
   refine ⟨?_,?_⟩
   ·exact (hw.arr (Hs':=fqC b4 f q::wtD bw zeroW::LoneAt f pl.r::QuAt q pl.q::FlsAt (A++C)::pts p (bookC b m1 m2)::MapAt m1 MF::MapAt m2 MB::BksAt xs::Hs)).cons fun _ h=>h.allTru
   have hw:Sat R (wtD bw zeroW::LoneAt f pl.r::QuAt q pl.q::FlsAt (A++C)::pts p (bookC b m1 m2)::MapAt m1 MF::MapAt m2 MB::BksAt xs::fqC b4 f q::Hs) w:=hw
   refine (lone_left hw.swap).use ?_
   clear hw
   rintro _ w ⟨sl,rfl,hw⟩
   refine ⟨sl,rfl,?_,?_⟩
   ·exact (hw.arr (Hs':=fqC b4 f q::wtD bw zeroW::Own sl 3 (intsI (rleftsF pl.r))::LoneAt f pl.r::QuAt q pl.q::FlsAt (A++C)::pts p (bookC b m1 m2)::MapAt m1 MF::MapAt m2 MB::BksAt xs::Hs)).cons fun _ h=>h.allTru
   have hw:Sat R (Own sl 3 (intsI (rleftsF pl.r))::QuAt q pl.q::wtD bw zeroW::LoneAt f pl.r::FlsAt (A++C)::pts p (bookC b m1 m2)::MapAt m1 MF::MapAt m2 MB::BksAt xs::fqC b4 f q::Hs) w:=hw.arr
   refine (first_own hqok (lefts_len8 hg) hw).use ?_
   clear hw
   rintro _ w ⟨rfl,hw⟩
   refine ⟨_,_,_,_,_,_,rfl,?_,?_⟩
   ·exact (hw.arr (Hs':=fqC b4 f q::wtD bw zeroW::LoneAt f pl.r::QuAt q pl.q::FlsAt (A++C)::pts p (bookC b m1 m2)::MapAt m1 MF::MapAt m2 MB::BksAt xs::Hs)).cons fun _ h=>h.allTru
   have hw:Sat R (wtD bw zeroW::QuAt q pl.q::LoneAt f pl.r::FlsAt (A++C)::pts p (bookC b m1 m2)::MapAt m1 MF::MapAt m2 MB::BksAt xs::fqC b4 f q::Hs) w:=hw.arr
   refine store_rule hw (by kernel_rfl) rfl (by simp [Value.cells,wtV]) fun w hw=>?_
   have hw:=hw.re (wtD bw ((qfirst pl.q (rleftsF pl.r)).getD zeroW))
   exact ⟨bw,rfl,rfl,hw.arr⟩
 clear hw
 rintro _ _ _ w ⟨bw,rfl,rfl,hw⟩
 refine ⟨fun w5 fits w=>∃ j b' pl xs' bw,PromI n b A C f q MB j b' pl xs'∧w5=some ⟨bw,0,none⟩∧fits=(qfirst pl.q (rleftsF pl.r)).isSome∧promH R Hs p m1 m2 f q b4 bw b pl A C MF MB xs' w,fun _ _ w=>quLen q w,⟨201,b,pl,xs,bw,hi0,rfl,rfl,hw⟩,?_⟩
 clear hw hi0 hqok hg hpl
 rintro _ _ _ w ⟨j,b',pl',xs',bw,hi,rfl,rfl,hw⟩
 have hql:quLen q w=pl'.q.length:=quLen_eq hw.swap
 have hpl:=at_some hi.here
 have hg:=hi.core.good pl' hpl.1
 have hqok:=hi.core.qok pl' hpl.1
 have hm':FlMid A C n pl':=⟨hpl.2,hm.a,hm.c⟩
 obtain ⟨j,rfl⟩:∃ i,j=i + 1:=⟨j - 1,by have:=hi.len;omega⟩
 have hprom:=hi.prom
 unfold promB at hprom
 rw [hi.here] at hprom
 dsimp only at hprom
 cases hf:qfirst pl'.q (rleftsF pl'.r) with
 |none=>
  rw [hf] at hprom
  dsimp only at hprom
  refine Br.f rfl ⟨rfl,A++(f,q,pl')::C,xs',?_,?_,hi.mb,?_⟩
  ·rw [hprom];exact hi.book
  ·rw [hMF];exact fl_vals hm.num hpl.2
  ·rw [hprom,show bookC b' m1 m2=bookC b m1 m2 by unfold bookC;rw [hi.now,hi.next]]
   have hw:Sat R (LoneAt f pl'.r::QuAt q pl'.q::FlsAt (A++C)::pts p (bookC b m1 m2)::MapAt m1 MF::MapAt m2 MB::BksAt xs'::fqC b4 f q::wtD bw ((qfirst pl'.q (rleftsF pl'.r)).getD zeroW)::Hs) w:=hw.arr
   have hw:=fls_mid.2 hw
   have hw:Sat R (pts p (bookC b m1 m2)::MapAt m1 MF::MapAt m2 MB::FlsAt (A++(f,q,pl')::C)::BksAt xs'::fqC b4 f q::wtD bw ((qfirst pl'.q (rleftsF pl'.r)).getD zeroW)::Hs) w:=hw.arr
   exact hw.cons fun _ h=>h.cons fun _ h=>h.cons fun _ h=>h.cons fun _ h=>h.cons fun _ h=>h.drop.drop
 |some x=>
  rw [hf] at hprom
  dsimp only at hprom
  obtain ⟨hx,hfit,htk⟩:=fit_take hi.core hpl.1 hf
  obtain ⟨y,hyL,hyid,hyf,hys,hyc,hym⟩:=hi.core.waits hpl.1 hx
  obtain ⟨A2,a,C2,rfl,hbm⟩:=bk_split hi.book hi.core.ids hyL
  have hgetb:getM x.id MB=some (.pointer (some ⟨a,0,none⟩)):=by rw [←hi.mb,←hyid];exact bk_get hbm
  have hhas:hasQ x.id pl'.q=true:=hasQ_iff.2 ⟨x,hx,rfl⟩
  have hrem:qrem pl'.q x.id=(delQ x.id pl'.q,0):=by unfold qrem;rw [if_pos hhas]
  have hdl:=delQ_len hhas
  have hw:Sat R (LoneAt f pl'.r::QuAt q pl'.q::pts p (bookC b m1 m2)::MapAt m1 MF::MapAt m2 MB::FlsAt (A++C)::BksAt (A2++(a,y)::C2)::fqC b4 f q::wtD bw x::Hs) w:=by
   have:=hw
   unfold promH at this
   rw [hf] at this
   exact this
  refine Br.t rfl ⟨some ⟨q,0,none⟩,At.own (eqS hw) (by exact ⟨rfl,trivial⟩),NilP.mk rfl ⟨x.id,At.own (eqS hw) (by exact ⟨rfl,trivial⟩),?_⟩⟩
  refine (qremove_spec (by have:=hqok.len;omega) hw.swap).use ?_
  clear hw
  rintro _ w ⟨rfl,hw⟩
  rw [hrem] at hw ⊢
  refine ⟨_,rfl,some ⟨f,0,none⟩,At.own (eqS hw) (by exact ⟨rfl,trivial⟩),NilP.mk rfl ⟨x.id,At.own (eqS hw) (by exact ⟨rfl,trivial⟩),NilP.mk rfl ⟨x.cls,At.own (eqS hw) (by exact ⟨rfl,trivial⟩),NilP.mk rfl ⟨x.many,At.own (eqS hw) (by exact ⟨rfl,trivial⟩),?_⟩⟩⟩⟩
  refine (lone_take hw.swap).use ?_
  clear hw
  rintro _ w ⟨rfl,hw⟩
  refine ⟨_,rfl,?_⟩
  refine drw_rule hw fun w hw=>NilP.mk rfl ⟨some m2,At.own (fun _ h=>h) (by exact ⟨rfl,trivial⟩),NilP.mk rfl ⟨x.id,At.own (fun _ h=>h) (by exact ⟨rfl,trivial⟩),some ⟨a,0,none⟩,fun w' h=>?_,NilP.mk rfl ?_⟩⟩
  ·have hm1:Sat R (MapAt m2 MB::LoneAt f (rtakeF pl'.r x.id x.cls x.many).1::QuAt q (delQ x.id pl'.q)::pts p (bookC b m1 m2)::MapAt m1 MF::FlsAt (A++C)::BksAt (A2++(a,y)::C2)::fqC b4 f q::wtD bw x::Hs) w':=Sat.arr h
   have:=MapAt.look bMap hm1 x.id false
   rw [hgetb] at this
   exact this
  have hw:Sat R (BksAt (A2++(a,y)::C2)::LoneAt f (rtakeF pl'.r x.id x.cls x.many).1::QuAt q (delQ x.id pl'.q)::pts p (bookC b m1 m2)::MapAt m1 MF::MapAt m2 MB::FlsAt (A++C)::fqC b4 f q::wtD bw x::Hs) w:=hw.arr
  have hw:=bks_mid.1 hw
  refine store_rule hw (by kernel_rfl) rfl (by simp [Value.cells]) fun w hw=>?_
  have hw:=bks_mid.2 (hw.re (pts a (bkObj (bookX y))))
  refine NilP.mk rfl ⟨x.id,x.cls,x.many,x.time,x.sc,At.own (eqS hw) (by exact ⟨rfl,rfl,rfl,rfl,rfl,trivial⟩),?_⟩
  refine new_rule hw fun bw2 w hw=>?_
  refine store_rule hw (by kernel_rfl) rfl (by simp [Value.cells]) fun w hw=>?_
  have hw:=hw.re (wtD bw2 x)
  have hcore:Core (moveB b' n x):=core_move hi.core hpl.1 hpl.2 hf
  have hat2:(moveB b' n x).at n=some (takeW x pl'):=move_at hi.core hi.here
  have hpl2:=at_some hat2
  have hi2:PromI n b A C f q MB j (moveB b' n x) (takeW x pl') (A2++(a,bookX y)::C2):=
   ⟨hprom,by have:=hi.len;show (delQ x.id pl'.q).length<j;omega,hcore,hat2,hi.now,hi.next,⟨hi.book.fset hm' (takeW x),by
    have:=hi.book.bset hi.core.ids bookX
    rw [hyid] at this
    exact this⟩,(bk_vals (show (bookX y).id=y.id from rfl)).trans hi.mb⟩
  obtain ⟨pl2,hpe⟩:∃ pl2,pl2=takeW x pl':=⟨_,rfl⟩
  have hw:Sat R (LoneAt f pl2.r::QuAt q pl2.q::wtD bw2 x::pts p (bookC b m1 m2)::MapAt m1 MF::MapAt m2 MB::FlsAt (A++C)::BksAt (A2++(a,bookX y)::C2)::fqC b4 f q::wtD bw x::Hs) w:=by
   have hw:Sat R (wtD bw2 x::BksAt (A2++(a,bookX y)::C2)::LoneAt f pl2.r::QuAt q pl2.q::pts p (bookC b m1 m2)::MapAt m1 MF::MapAt m2 MB::FlsAt (A++C)::fqC b4 f q::wtD bw x::Hs) w:=by
    rw [hpe];exact hw
   exact hw.arr
  have hql2:pl2.q.length + 1=pl'.q.length:=by rw [hpe];exact hdl
  rw [←hpe] at hi2 hat2 hpl2
  have hg2:=hcore.good pl2 hpl2.1
  have hqok2:=hcore.qok pl2 hpl2.1
  clear hpe
  refine drw_rule' (Sat R [fqC b4 f q,VC.tru]) hw (fun w hw=>?_) fun w hw=>?_
  ·exact (hw.arr (Hs':=fqC b4 f q::LoneAt f pl2.r::QuAt q pl2.q::wtD bw2 x::pts p (bookC b m1 m2)::MapAt m1 MF::MapAt m2 MB::FlsAt (A++C)::BksAt (A2++(a,bookX y)::C2)::wtD bw x::Hs)).cons fun _ h=>h.allTru
  refine ⟨some ⟨q,0,none⟩,At.own (fun _ h=>h) (by exact ⟨rfl,trivial⟩),some ⟨f,0,none⟩,At.own (fun _ h=>h) (by exact ⟨rfl,trivial⟩),?_⟩
  refine (lone_left hw).use ?_
  clear hw
  rintro _ w ⟨sl,rfl,hw⟩
  refine ⟨sl,rfl,?_,?_⟩
  ·exact (hw.arr (Hs':=fqC b4 f q::Own sl 3 (intsI (rleftsF pl2.r))::LoneAt f pl2.r::QuAt q pl2.q::wtD bw2 x::pts p (bookC b m1 m2)::MapAt m1 MF::MapAt m2 MB::FlsAt (A++C)::BksAt (A2++(a,bookX y)::C2)::wtD bw x::Hs)).cons fun _ h=>h.allTru
  have hw:Sat R (Own sl 3 (intsI (rleftsF pl2.r))::QuAt q pl2.q::wtD bw2 x::LoneAt f pl2.r::pts p (bookC b m1 m2)::MapAt m1 MF::MapAt m2 MB::FlsAt (A++C)::BksAt (A2++(a,bookX y)::C2)::fqC b4 f q::wtD bw x::Hs) w:=hw.arr
  refine (first_own hqok2 (lefts_len8 hg2) hw).use ?_
  clear hw
  rintro _ w ⟨rfl,hw⟩
  refine ⟨_,_,_,_,_,_,rfl,?_,?_⟩
  ·exact (hw.arr (Hs':=fqC b4 f q::LoneAt f pl2.r::QuAt q pl2.q::wtD bw2 x::pts p (bookC b m1 m2)::MapAt m1 MF::MapAt m2 MB::FlsAt (A++C)::BksAt (A2++(a,bookX y)::C2)::wtD bw x::Hs)).cons fun _ h=>h.allTru
  have hw:Sat R (wtD bw2 x::QuAt q pl2.q::LoneAt f pl2.r::pts p (bookC b m1 m2)::MapAt m1 MF::MapAt m2 MB::FlsAt (A++C)::BksAt (A2++(a,bookX y)::C2)::fqC b4 f q::wtD bw x::Hs) w:=hw.arr
  refine store_rule hw (by kernel_rfl) rfl (by simp [Value.cells,wtV]) fun w hw=>?_
  have hw:=hw.re (wtD bw2 ((qfirst pl2.q (rleftsF pl2.r)).getD zeroW))
  have hw:Sat R (wtD bw x::LoneAt f pl2.r::QuAt q pl2.q::pts p (bookC b m1 m2)::MapAt m1 MF::MapAt m2 MB::FlsAt (A++C)::BksAt (A2++(a,bookX y)::C2)::fqC b4 f q::wtD bw2 ((qfirst pl2.q (rleftsF pl2.r)).getD zeroW)::Hs) w:=hw.arr
  have hw:=hw.drop
  refine ⟨⟨j,_,pl2,_,bw2,hi2,rfl,rfl,hw⟩,?_⟩
  show quLen q _<quLen q _
  rw [quLen_eq hw.swap,hql]
  omega
end Go.Proofs.YtflgboncpbmikaaGreatDoor
/- Package booking: a booking is held. Condition: bounds. -/
namespace Go.Proofs.YtflgboncpbmikaaGreatDoor
set_option linter.unusedVariables false
set_option linter.unusedSimpArgs false
open Go Go.VC
open Classical
variable {R:Cx} {Hs Rest:List HP} {w:World}
theorem book_close {p m1 m2 f q:Nat} {b:Book} {A C:List FE} {xs:List BE} {pl:Pl} (hl:BookL b (A++(f,q,pl)::C) xs) {MF MB:List (Int × Value)} (hF:MF=(A++(f,q,pl)::C).map flV) (hB:MB=xs.map bkV)
  (hw:Sat R (LoneAt f pl.r::QuAt q pl.q::pts p (bookC b m1 m2)::MapAt m1 MF::MapAt m2 MB::FlsAt (A++C)::BksAt xs::Hs) w):Sat R (BookAt p b::Hs) w:=by
 subst hF hB
 have hw:Sat R (LoneAt f pl.r::QuAt q pl.q::FlsAt (A++C)::pts p (bookC b m1 m2)::MapAt m1 ((A++(f,q,pl)::C).map flV)::MapAt m2 (xs.map bkV)::BksAt xs::Hs) w:=hw.arr
 have hw:=fls_mid.2 hw
 have hw:Sat R (pts p (bookC b m1 m2)::MapAt m1 ((A++(f,q,pl)::C).map flV)::MapAt m2 (xs.map bkV)::FlsAt (A++(f,q,pl)::C)::BksAt xs::Hs) w:=hw.arr
 exact Sat.book.2 ⟨m1,m2,_,xs,hl,hw⟩
theorem fl_found {b:Book} {fs:List FE} {xs:List BE} (hl:BookL b fs xs) (k:Core b) {n:Int} {v:Value} (h:getM n (fs.map flV)=some v):
  ∃ A f q C pl,fs=A++(f,q,pl)::C∧FlMid A C n pl∧b.at n=some pl∧v=.agg #[.pointer (some ⟨f,0,none⟩),.pointer (some ⟨q,0,none⟩)]:=by
 cases hat:b.at n with
 |none=>rw [(fl_none hl).2 hat] at h;cases h
 |some pl=>
  obtain ⟨A,f,q,C,rfl,hm⟩:=fl_split hl k.nums hat
  rw [fl_get hm] at h
  exact ⟨A,f,q,C,pl,rfl,hm,rfl,(Option.some.inj h).symm⟩
theorem bk_fresh {b:Book} {fs:List FE} {xs:List BE} (hl:BookL b fs xs) (k:Core b) (v:Value):putM b.next v (xs.map bkV)=xs.map bkV++[(b.next,v)]:=by
 have:getM b.next (xs.map bkV)=none:=by
  rw [bk_none hl]
  unfold Book.bk
  rw [kget_none]
  intro x hx e
  have:=(k.each x hx).id.2
  omega
 unfold putM
 rw [this]
 rfl
theorem bks_snoc {xs:List BE} {a:Nat} {x:Bk} (hw:Sat R (pts a (bkObj x)::BksAt xs::Hs) w):Sat R (BksAt (xs++[(a,x)])::Hs) w:=by
 have:Sat R (pts a (bkObj x)::BksAt (xs++[])::Hs) w:=by rw [List.append_nil];exact hw
 exact bks_mid.2 this
set_option maxHeartbeats 2000000 in
theorem ask2_spec {p:Nat} {b:Book} {c:Cm} {sg sp:Sl} (hk:c.kind=2) (k:Core b) (hr:RightC c) (hw:Sat R (BookAt p b::Hs) w):
  GetsX Tryz.prog 48 #[.pointer (some ⟨p,0,none⟩),.agg #[.int .i64 c.kind,.string c.pnr,.int .i64 c.flt,.int .i64 c.cls,.int .i64 c.many,.int .i64 c.time,.float .f64 c.sc,.string c.lab,.int .i64 c.rows,.slice sg.a sg.len sg.cap,.slice sp.a sp.len sp.cap]] w
   (fun ch w'=>∃ e,ch=errP e∧heldB b c=(b,errR e)∧Sat R (BookAt p b::Hs) w')
   (fun v w'=>∃ sl sb:Sl,v=.agg (rpV (heldB b c).2 sl sb).toArray∧Sat R (Own sl 3 (intsI (heldB b c).2.left)::Own sb 9 ((heldB b c).2.labs.map Value.string)::BookAt p (heldB b c).1::Hs) w'):=by
 apply call48
 suffices H:∀ (X:List PanicEntry→World→Prop) (K:Value→World→Prop),(∀ e w',heldB b c=(b,errR e)→Sat R (BookAt p b::Hs) w'→X (errP e) w')→
   (∀ sl sb w',Sat R (Own sl 3 (intsI (heldB b c).2.left)::Own sb 9 ((heldB b c).2.labs.map Value.string)::BookAt p (heldB b c).1::Hs) w'→K (.agg (rpV (heldB b c).2 sl sb).toArray) w')→B48 (some ⟨p,0,none⟩) c.kind c.pnr c.flt c.cls c.many c.time c.sc c.lab c.rows sg sp X K w from
  H _ _ (fun e w' h1 h2=>⟨e,rfl,h1,h2⟩) (fun sl sb w' h2=>⟨sl,sb,rfl,h2⟩)
 intro X K hX hK
 obtain ⟨m1,m2,fs,xs,hl,hw⟩:=Sat.book.1 hw
 have hxl:=bk_len hl
 refine new_rule hw fun b3 w hw=>new_rule hw fun b4 w hw=>?_
 have hw:Sat R (rpNew b4::cmC b3 c sg sp::pts p (bookC b m1 m2)::MapAt m1 (fs.map flV)::MapAt m2 (xs.map bkV)::FlsAt fs::BksAt xs::Hs) w:=hw
 refine ⟨c.flt,At.own (eqS hw) (by exact ⟨rfl,trivial⟩),?_⟩
 have hw:Sat R (pts p (bookC b m1 m2)::MapAt m1 (fs.map flV)::rpNew b4::cmC b3 c sg sp::MapAt m2 (xs.map bkV)::FlsAt fs::BksAt xs::Hs) w:=hw.arr
 refine (bat_spec hw).use ?_ ?_
 rotate_left
 ·clear hw
  rintro _ w ⟨rfl,hno,hw⟩
  refine .inr ⟨_,rfl,hX 2 w ?_ ?_⟩
  ·unfold heldB
   rw [(fl_none hl).1 hno]
  ·have hw:Sat R (rpNew b4::cmC b3 c sg sp::pts p (bookC b m1 m2)::MapAt m1 (fs.map flV)::MapAt m2 (xs.map bkV)::FlsAt fs::BksAt xs::Hs) w:=hw.arr
   exact Sat.book.2 ⟨m1,m2,fs,xs,hl,hw.drop.drop⟩
 clear hw
 rintro _ w ⟨⟨v1,v2,hgm,rfl⟩,hw⟩
 obtain ⟨A,f,q,C,pl,rfl,hm,hat,hv⟩:=fl_found hl k hgm
 simp only [Value.agg.injEq,Array.mk.injEq,List.cons.injEq,Value.pointer.injEq,and_true] at hv
 obtain ⟨rfl,rfl⟩:=hv
 obtain ⟨MF,hMF⟩:∃ M,M=(A++(f,q,pl)::C).map flV:=⟨_,rfl⟩
 obtain ⟨MB,hMB⟩:∃ M,M=xs.map bkV:=⟨_,rfl⟩
 have hMBl:MB.length=b.L.length:=by rw [hMB,List.length_map];exact hxl
 rw [←hMF,←hMB] at hw
 have hw:Sat R (FlsAt (A++(f,q,pl)::C)::cmC b3 c sg sp::rpNew b4::pts p (bookC b m1 m2)::MapAt m1 MF::MapAt m2 MB::BksAt xs::Hs) w:=hw.arr
 have hw:=fls_mid.1 hw
 refine .inl ⟨_,_,rfl,?_⟩
 refine new_rule hw fun b5 w hw=>?_
 refine store_rule hw (by kernel_rfl) rfl (by simp [Value.cells]) fun w hw=>?_
 have hw:=hw.re (fqC b5 f q)
 refine drw_ruleT hw fun w hw=>?_
 refine NilP.mk rfl ⟨b.next,At.own (fun _ h=>h) (by exact ⟨rfl,trivial⟩),c.flt,At.own (fun _ h=>h) (by exact ⟨rfl,trivial⟩),c.cls,At.own (fun _ h=>h) (by exact ⟨rfl,trivial⟩),c.many,At.own (fun _ h=>h) (by exact ⟨rfl,trivial⟩),c.time,At.own (fun _ h=>h) (by exact ⟨rfl,trivial⟩),?_⟩
 refine new_rule hw fun bx w hw=>⟨hw.absorb,?_⟩
 have hw:Sat R (pts bx (bkObj (heldX b c))::fqC b5 f q::LoneAt f pl.r::QuAt q pl.q::FlsAt (A++C)::cmC b3 c sg sp::rpNew b4::pts p (bookC b m1 m2)::MapAt m1 MF::MapAt m2 MB::BksAt xs::Hs) w:=by
  have hw:Sat R (pts bx (bkObj (heldX b c))::VC.tru::fqC b5 f q::LoneAt f pl.r::QuAt q pl.q::FlsAt (A++C)::cmC b3 c sg sp::rpNew b4::pts p (bookC b m1 m2)::MapAt m1 MF::MapAt m2 MB::BksAt xs::Hs) w:=hw
  exact hw.cons fun _ h=>h.drop
 have close:∀ {w},Sat R (pts bx (bkObj (heldX b c))::fqC b5 f q::LoneAt f pl.r::QuAt q pl.q::FlsAt (A++C)::cmC b3 c sg sp::rpNew b4::pts p (bookC b m1 m2)::MapAt m1 MF::MapAt m2 MB::BksAt xs::Hs) w→Sat R (BookAt p b::Hs) w:=fun {w} hw=>by
  have hw:Sat R (pts bx (bkObj (heldX b c))::fqC b5 f q::cmC b3 c sg sp::rpNew b4::LoneAt f pl.r::QuAt q pl.q::pts p (bookC b m1 m2)::MapAt m1 MF::MapAt m2 MB::FlsAt (A++C)::BksAt xs::Hs) w:=hw.arr
  exact book_close hl hMF hMB hw.drop.drop.drop.drop
 have hheld:∀ {e},heldB b c=e↔(if c.time≤b.now then (b,errR 1) else if b.full then (b,errR 3)
   else if (rtakeF pl.r b.next c.cls c.many).2≠0 then (b,errR (rtakeF pl.r b.next c.cls c.many).2)
   else ({ b.put c.flt (takeP b.next c.cls c.many) (b.L++[heldX b c]) with next:=b.next + 1 },tellP (takeP b.next c.cls c.many pl) (heldX b c)))=e:=by
  intro e
  unfold heldB
  rw [hat]
 refine ⟨fun w=>¬ c.time≤b.now∧Sat R (pts bx (bkObj (heldX b c))::fqC b5 f q::LoneAt f pl.r::QuAt q pl.q::FlsAt (A++C)::cmC b3 c sg sp::rpNew b4::pts p (bookC b m1 m2)::MapAt m1 MF::MapAt m2 MB::BksAt xs::Hs) w,?_,?_⟩
 ·refine ⟨c.kind,At.own (eqS hw) (by exact ⟨rfl,trivial⟩),Br.e (fun _=>?_) (fun h=>absurd hk h)⟩
  refine drw_rule hw fun w hw=>⟨c.time,At.own (fun _ h=>h) (by exact ⟨rfl,trivial⟩),NilP.mk rfl ⟨b.now,At.own (fun _ h=>h) (by exact ⟨rfl,trivial⟩),?_⟩⟩
  refine need_c (fun h=>.inl ⟨rfl,hw,?_,hw⟩) (fun h=>.inr ⟨_,rfl,hX 1 w ?_ (close hw)⟩)
  ·have:=of_decide_eq_true h;omega
  ·have:=of_decide_eq_false h
   exact hheld.2 (by rw [if_pos (by omega)])
 clear hw
 rintro _ w ⟨ht,hw⟩
 refine ⟨fun w=>¬ b.full∧Sat R (pts bx (bkObj (heldX b c))::fqC b5 f q::LoneAt f pl.r::QuAt q pl.q::FlsAt (A++C)::cmC b3 c sg sp::rpNew b4::pts p (bookC b m1 m2)::MapAt m1 MF::MapAt m2 MB::BksAt xs::Hs) w,?_,?_⟩
 ·refine NilP.mk rfl ⟨some m2,At.own (eqS hw) (by exact ⟨rfl,trivial⟩),(MB.length:Int),fun w' e=>?_,?_⟩
  ·rw [show w'=w from e]
   have hm1:Sat R (MapAt m2 MB::pts bx (bkObj (heldX b c))::fqC b5 f q::LoneAt f pl.r::QuAt q pl.q::FlsAt (A++C)::cmC b3 c sg sp::rpNew b4::pts p (bookC b m1 m2)::MapAt m1 MF::BksAt xs::Hs) w:=hw.arr
   exact MapAt.len (by kernel_rfl) hm1
  rw [hMBl]
  with_reducible refine Br.d (fun h3=>?_) (fun h3=>?_)
  ·refine NilP.mk rfl ⟨b.next,At.own (eqS hw) (by exact ⟨rfl,trivial⟩),?_⟩
   refine need_c (fun h=>.inl ⟨rfl,?_,hw⟩) (fun h=>.inr ⟨_,rfl,hX 3 w ?_ (close hw)⟩)
   ·have:=of_decide_eq_true h
    unfold Book.full
    omega
   ·have:=of_decide_eq_false h
    exact hheld.2 (by rw [if_neg ht,if_pos (.inr (by omega))])
  ·exact need_c (fun h=>by cases h) (fun h=>.inr ⟨_,rfl,hX 3 w (hheld.2 (by rw [if_neg ht,if_pos (.inl (by omega))])) (close hw)⟩)
 clear hw
 rintro _ w ⟨hf,hw⟩
 have hnext:=k.next
 have hf2:b.L.length<300∧b.next<28629151:=by unfold Book.full at hf;omega
 obtain ⟨r2,hr2⟩:∃ r2,r2=(rtakeF pl.r b.next c.cls c.many).1:=⟨_,rfl⟩
 refine ⟨fun w=>(rtakeF pl.r b.next c.cls c.many).2=0∧Sat R (pts bx (bkObj (heldX b c))::fqC b5 f q::LoneAt f r2::QuAt q pl.q::FlsAt (A++C)::cmC b3 c sg sp::rpNew b4::pts p (bookC b m1 m2)::MapAt m1 MF::MapAt m2 MB::BksAt xs::Hs) w,?_,?_⟩
 ·refine ⟨c.kind,At.own (eqS hw) (by exact ⟨rfl,trivial⟩),Br.e (fun _=>?_) (fun h=>absurd hk h)⟩
  refine drw_rule' (Sat R [fqC b5 f q,pts bx (bkObj (heldX b c)),VC.tru]) hw (fun w hw=>?_) fun w hw=>?_
  ·exact (hw.arr (Hs':=fqC b5 f q::pts bx (bkObj (heldX b c))::LoneAt f pl.r::QuAt q pl.q::FlsAt (A++C)::cmC b3 c sg sp::rpNew b4::pts p (bookC b m1 m2)::MapAt m1 MF::MapAt m2 MB::BksAt xs::Hs)).cons fun _ h=>h.restTru2
  refine ⟨some ⟨f,0,none⟩,At.own (fun _ h=>h) (by exact ⟨rfl,trivial⟩),b.next,At.own (fun _ h=>h) (by exact ⟨rfl,trivial⟩),c.cls,At.own (fun _ h=>h) (by exact ⟨rfl,trivial⟩),c.many,At.own (fun _ h=>h) (by exact ⟨rfl,trivial⟩),?_⟩
  have hw:Sat R (LoneAt f pl.r::pts bx (bkObj (heldX b c))::fqC b5 f q::QuAt q pl.q::FlsAt (A++C)::cmC b3 c sg sp::rpNew b4::pts p (bookC b m1 m2)::MapAt m1 MF::MapAt m2 MB::BksAt xs::Hs) w:=hw.arr
  refine (lone_take hw).use ?_
  clear hw
  rintro _ w ⟨rfl,hw⟩
  refine .inl ⟨_,rfl,?_⟩
  refine mustE_c (fun h0=>.inl ⟨rfl,?_,h0,?_⟩) (fun h0=>.inr ⟨_,rfl,hX _ w (hheld.2 (by rw [if_neg ht,if_neg hf,if_pos h0])) ?_⟩)
  ·exact (hw.arr (Hs':=fqC b5 f q::pts bx (bkObj (heldX b c))::LoneAt f (rtakeF pl.r b.next c.cls c.many).1::QuAt q pl.q::FlsAt (A++C)::cmC b3 c sg sp::rpNew b4::pts p (bookC b m1 m2)::MapAt m1 MF::MapAt m2 MB::BksAt xs::Hs)).cons fun _ h=>h.restTru2
  ·rw [hr2];exact hw.arr
  ·rw [take_no h0] at hw
   have hw:Sat R (pts bx (bkObj (heldX b c))::fqC b5 f q::LoneAt f pl.r::QuAt q pl.q::FlsAt (A++C)::cmC b3 c sg sp::rpNew b4::pts p (bookC b m1 m2)::MapAt m1 MF::MapAt m2 MB::BksAt xs::Hs) w:=hw.arr
   exact close hw
 clear hw
 rintro _ w ⟨h0,hw⟩
 have hcore:=core_hold k hr hat hf h0
 have hres:heldB b c=({ b.put c.flt (takeP b.next c.cls c.many) (b.L++[heldX b c]) with next:=b.next + 1 },tellP (takeP b.next c.cls c.many pl) (heldX b c)):=hheld.2 (by rw [if_neg ht,if_neg hf,if_neg (fun h=>h h0)])
 obtain ⟨nb,hnb⟩:∃ nb,nb={ b.put c.flt (takeP b.next c.cls c.many) (b.L++[heldX b c]) with next:=b.next + 1 }:=⟨_,rfl⟩
 obtain ⟨pl2,hp2⟩:∃ pl2,pl2=takeP b.next c.cls c.many pl:=⟨_,rfl⟩
 rw [←hnb] at hres hcore
 rw [←hp2] at hres
 have hn2:pl2.n=c.flt:=by rw [hp2];exact (take_num (r:=pl.r) (o:=b.next) (c:=c.cls) (m:=c.many)).1.trans hm.num
 have hm2:FlMid A C c.flt pl2:=⟨hn2,hm.a,hm.c⟩
 have hMF2:MF=(A++(f,q,pl2)::C).map flV:=by rw [hMF];exact fl_vals hn2 hm.num
 have hl2:BookL nb (A++(f,q,pl2)::C) (xs++[(bx,heldX b c)]):=by
  refine ⟨?_,?_⟩
  ·rw [hnb,hp2]
   exact hl.fset hm (takeP b.next c.cls c.many)
  ·rw [hnb,List.map_append,hl.bk]
   rfl
 have hMB2:MB++[(b.next,Value.pointer (some ⟨bx,0,none⟩))]=(xs++[(bx,heldX b c)]).map bkV:=by rw [hMB,List.map_append];rfl
 have hput:putM b.next (.pointer (some ⟨bx,0,none⟩)) MB=MB++[(b.next,Value.pointer (some ⟨bx,0,none⟩))]:=by rw [hMB];exact bk_fresh hl k _
 have hr22:r2=pl2.r:=by rw [hr2,hp2];rfl
 have hq2:pl.q=pl2.q:=by rw [hp2];rfl
 rw [hr22,hq2] at hw
 refine drw_rule hw fun w hw=>NilP.mk rfl ⟨some m2,At.own (fun _ h=>h) (by exact ⟨rfl,trivial⟩),b.next,At.own (fun _ h=>h) (by exact ⟨rfl,trivial⟩),?_⟩
 have hw:Sat R (MapAt m2 MB::pts bx (bkObj (heldX b c))::fqC b5 f q::LoneAt f pl2.r::QuAt q pl2.q::FlsAt (A++C)::cmC b3 c sg sp::rpNew b4::pts p (bookC b m1 m2)::MapAt m1 MF::BksAt xs::Hs) w:=hw.arr
 refine MapAt.put bMap hw b.next (.pointer (some ⟨bx,0,none⟩)) fun w hw=>?_
 rw [hput] at hw
 refine NilP.mk rfl ⟨b.next,At.own (eqS hw) (by exact ⟨rfl,trivial⟩),NilP.mk rfl ?_⟩
 have hw:Sat R (pts p (bookC b m1 m2)::MapAt m2 (MB++[(b.next,Value.pointer (some ⟨bx,0,none⟩))])::pts bx (bkObj (heldX b c))::fqC b5 f q::LoneAt f pl2.r::QuAt q pl2.q::FlsAt (A++C)::cmC b3 c sg sp::rpNew b4::MapAt m1 MF::BksAt xs::Hs) w:=hw.arr
 rw [wrap64 (x:=b.next + 1) (by omega) (by omega)]
 refine store_rule hw (by kernel_rfl) rfl (by simp [Value.cells]) fun w hw=>?_
 have hw:Sat R (pts p (bookC nb m1 m2)::MapAt m2 (MB++[(b.next,Value.pointer (some ⟨bx,0,none⟩))])::pts bx (bkObj (heldX b c))::fqC b5 f q::LoneAt f pl2.r::QuAt q pl2.q::FlsAt (A++C)::cmC b3 c sg sp::rpNew b4::MapAt m1 MF::BksAt xs::Hs) w:=by
  rw [hnb]
  exact hw.re (pts p (bookC { b.put c.flt (takeP b.next c.cls c.many) (b.L++[heldX b c]) with next:=b.next + 1 } m1 m2))
 refine ⟨c.kind,At.own (eqS hw) (by exact ⟨rfl,trivial⟩),Br.e (fun h=>by omega) (fun _=>?_)⟩
 have hw:Sat R (pts p (bookC nb m1 m2)::MapAt m1 ((A++(f,q,pl2)::C).map flV)::pts bx (bkObj (heldX b c))::LoneAt f pl2.r::MapAt m2 (MB++[(b.next,Value.pointer (some ⟨bx,0,none⟩))])::fqC b5 f q::QuAt q pl2.q::FlsAt (A++C)::cmC b3 c sg sp::rpNew b4::BksAt xs::Hs) w:=by
  rw [←hMF2];exact hw.arr
 refine (told_spec (x:=heldX b c) (by show 0≤b.next∧b.next<28629151;omega) hm2 hw).use ?_
 clear hw
 rintro _ w ⟨sl,sb,rfl,hw⟩
 refine .inl ⟨_,_,_,_,_,_,_,sl,sb,rfl,?_⟩
 rw [←hMF2] at hw
 have hw:Sat R (rpNew b4::Own sl 3 (intsI (rleftsF pl2.r))::Own sb 9 ((rlabelsF pl2.r (heldX b c).id).map Value.string)::pts bx (bkObj (heldX b c))::BksAt xs::LoneAt f pl2.r::QuAt q pl2.q::pts p (bookC nb m1 m2)::MapAt m1 MF::MapAt m2 (MB++[(b.next,Value.pointer (some ⟨bx,0,none⟩))])::FlsAt (A++C)::fqC b5 f q::cmC b3 c sg sp::Hs) w:=hw.arr
 refine store_rule hw (by kernel_rfl) rfl (by simp [Value.cells]) fun w hw=>?_
 have hw:=hw.re (rpC b4 (tellP pl2 (heldX b c)) sl sb)
 refine ⟨_,_,_,_,_,_,_,sl,sb,At.own (eqS hw) (by exact ⟨rfl,rfl,rfl,rfl,rfl,rfl,rfl,rfl,rfl,trivial⟩),?_⟩
 have hfin:=hK sl sb w
 rw [hres] at hfin
 refine hfin ?_
 refine hw.drop.cons fun _ hw=>hw.cons fun _ hw=>?_
 have hw:=bks_snoc hw
 have hw:Sat _ (LoneAt f pl2.r::QuAt q pl2.q::pts p (bookC nb m1 m2)::MapAt m1 MF::MapAt m2 (MB++[(b.next,Value.pointer (some ⟨bx,0,none⟩))])::FlsAt (A++C)::BksAt (xs++[(bx,heldX b c)])::fqC b5 f q::cmC b3 c sg sp::Hs) w:=hw.arr
 exact (book_close hl2 hMF2 hMB2 hw).cons fun _ h=>h.drop.drop
end Go.Proofs.YtflgboncpbmikaaGreatDoor
/- Package booking: a booking that waits. Condition: bounds. -/
namespace Go.Proofs.YtflgboncpbmikaaGreatDoor
set_option linter.unusedVariables false
set_option linter.unusedSimpArgs false
open Go Go.VC
open Classical
variable {R:Cx} {Hs Rest:List HP} {w:World}
theorem bk_snoc_get {b:Book} {fs:List FE} {xs:List BE} (hl:BookL b fs xs) (k:Core b) (v:Value):getM b.next (xs.map bkV++[(b.next,v)])=some v:=by
 refine getM_mid fun e he=>?_
 obtain ⟨e',h1,rfl⟩:=List.mem_map.1 he
 have:e'.2∈b.L:=by rw [←hl.bk];exact List.mem_map.2 ⟨e',h1,rfl⟩
 have:=(k.each _ this).id.2
 show e'.2.id≠b.next
 omega
set_option maxHeartbeats 2000000 in
theorem ask7_spec {p:Nat} {b:Book} {c:Cm} {sg sp:Sl} (hk:c.kind=7) (k0:BookOk b) (hr:RightC c) (hsc:c.sc<18446744073709551616) (hw:Sat R (BookAt p b::Hs) w):
  GetsX Tryz.prog 48 #[.pointer (some ⟨p,0,none⟩),.agg #[.int .i64 c.kind,.string c.pnr,.int .i64 c.flt,.int .i64 c.cls,.int .i64 c.many,.int .i64 c.time,.float .f64 c.sc,.string c.lab,.int .i64 c.rows,.slice sg.a sg.len sg.cap,.slice sp.a sp.len sp.cap]] w
   (fun ch w'=>∃ e,ch=errP e∧waitB b c=(b,errR e)∧Sat R (BookAt p b::Hs) w')
   (fun v w'=>∃ sl sb:Sl,v=.agg (rpV (waitB b c).2 sl sb).toArray∧Sat R (Own sl 3 (intsI (waitB b c).2.left)::Own sb 9 ((waitB b c).2.labs.map Value.string)::BookAt p (waitB b c).1::Hs) w'):=by
 apply call48
 suffices H:∀ (X:List PanicEntry→World→Prop) (K:Value→World→Prop),(∀ e w',waitB b c=(b,errR e)→Sat R (BookAt p b::Hs) w'→X (errP e) w')→
   (∀ sl sb w',Sat R (Own sl 3 (intsI (waitB b c).2.left)::Own sb 9 ((waitB b c).2.labs.map Value.string)::BookAt p (waitB b c).1::Hs) w'→K (.agg (rpV (waitB b c).2 sl sb).toArray) w')→B48 (some ⟨p,0,none⟩) c.kind c.pnr c.flt c.cls c.many c.time c.sc c.lab c.rows sg sp X K w from
  H _ _ (fun e w' h1 h2=>⟨e,rfl,h1,h2⟩) (fun sl sb w' h2=>⟨sl,sb,rfl,h2⟩)
 intro X K hX hK
 have k:=k0.core
 obtain ⟨m1,m2,fs,xs,hl,hw⟩:=Sat.book.1 hw
 have hxl:=bk_len hl
 refine new_rule hw fun b3 w hw=>new_rule hw fun b4 w hw=>?_
 have hw:Sat R (rpNew b4::cmC b3 c sg sp::pts p (bookC b m1 m2)::MapAt m1 (fs.map flV)::MapAt m2 (xs.map bkV)::FlsAt fs::BksAt xs::Hs) w:=hw
 refine ⟨c.flt,At.own (eqS hw) (by exact ⟨rfl,trivial⟩),?_⟩
 have hw:Sat R (pts p (bookC b m1 m2)::MapAt m1 (fs.map flV)::rpNew b4::cmC b3 c sg sp::MapAt m2 (xs.map bkV)::FlsAt fs::BksAt xs::Hs) w:=hw.arr
 refine (bat_spec hw).use ?_ ?_
 rotate_left
 ·clear hw
  rintro _ w ⟨rfl,hno,hw⟩
  refine .inr ⟨_,rfl,hX 2 w ?_ ?_⟩
  ·unfold waitB
   rw [(fl_none hl).1 hno]
  ·have hw:Sat R (rpNew b4::cmC b3 c sg sp::pts p (bookC b m1 m2)::MapAt m1 (fs.map flV)::MapAt m2 (xs.map bkV)::FlsAt fs::BksAt xs::Hs) w:=hw.arr
   exact Sat.book.2 ⟨m1,m2,fs,xs,hl,hw.drop.drop⟩
 clear hw
 rintro _ w ⟨⟨v1,v2,hgm,rfl⟩,hw⟩
 obtain ⟨A,f,q,C,pl,rfl,hm,hat,hv⟩:=fl_found hl k hgm
 simp only [Value.agg.injEq,Array.mk.injEq,List.cons.injEq,Value.pointer.injEq,and_true] at hv
 obtain ⟨rfl,rfl⟩:=hv
 obtain ⟨MF,hMF⟩:∃ M,M=(A++(f,q,pl)::C).map flV:=⟨_,rfl⟩
 obtain ⟨MB,hMB⟩:∃ M,M=xs.map bkV:=⟨_,rfl⟩
 have hMBl:MB.length=b.L.length:=by rw [hMB,List.length_map];exact hxl
 rw [←hMF,←hMB] at hw
 have hw:Sat R (FlsAt (A++(f,q,pl)::C)::cmC b3 c sg sp::rpNew b4::pts p (bookC b m1 m2)::MapAt m1 MF::MapAt m2 MB::BksAt xs::Hs) w:=hw.arr
 have hw:=fls_mid.1 hw
 refine .inl ⟨_,_,rfl,?_⟩
 refine new_rule hw fun b5 w hw=>?_
 refine store_rule hw (by kernel_rfl) rfl (by simp [Value.cells]) fun w hw=>?_
 have hw:=hw.re (fqC b5 f q)
 refine drw_ruleT hw fun w hw=>?_
 refine NilP.mk rfl ⟨b.next,At.own (fun _ h=>h) (by exact ⟨rfl,trivial⟩),c.flt,At.own (fun _ h=>h) (by exact ⟨rfl,trivial⟩),c.cls,At.own (fun _ h=>h) (by exact ⟨rfl,trivial⟩),c.many,At.own (fun _ h=>h) (by exact ⟨rfl,trivial⟩),c.time,At.own (fun _ h=>h) (by exact ⟨rfl,trivial⟩),?_⟩
 refine new_rule hw fun bx w hw=>⟨hw.absorb,?_⟩
 have hw:Sat R (pts bx (bkObj (heldX b c))::fqC b5 f q::LoneAt f pl.r::QuAt q pl.q::FlsAt (A++C)::cmC b3 c sg sp::rpNew b4::pts p (bookC b m1 m2)::MapAt m1 MF::MapAt m2 MB::BksAt xs::Hs) w:=by
  have hw:Sat R (pts bx (bkObj (heldX b c))::VC.tru::fqC b5 f q::LoneAt f pl.r::QuAt q pl.q::FlsAt (A++C)::cmC b3 c sg sp::rpNew b4::pts p (bookC b m1 m2)::MapAt m1 MF::MapAt m2 MB::BksAt xs::Hs) w:=hw
  exact hw.cons fun _ h=>h.drop
 have close:∀ {w},Sat R (pts bx (bkObj (heldX b c))::fqC b5 f q::LoneAt f pl.r::QuAt q pl.q::FlsAt (A++C)::cmC b3 c sg sp::rpNew b4::pts p (bookC b m1 m2)::MapAt m1 MF::MapAt m2 MB::BksAt xs::Hs) w→Sat R (BookAt p b::Hs) w:=fun {w} hw=>by
  have hw:Sat R (pts bx (bkObj (heldX b c))::fqC b5 f q::cmC b3 c sg sp::rpNew b4::LoneAt f pl.r::QuAt q pl.q::pts p (bookC b m1 m2)::MapAt m1 MF::MapAt m2 MB::FlsAt (A++C)::BksAt xs::Hs) w:=hw.arr
  exact book_close hl hMF hMB hw.drop.drop.drop.drop
 have hwait:∀ {e},waitB b c=e↔(if (pl.r.lims.length:Int)≤c.cls then (b,errR 1) else if b.full then (b,errR 3)
   else if (qadd pl.q (waitW b c)).2≠0 then (b,errR (qadd pl.q (waitW b c)).2)
   else (promote c.flt (queued b c),match (promote c.flt (queued b c)).bk b.next with
    |none=>errR 0
    |some x=>tellB (promote c.flt (queued b c)) x))=e:=by
  intro e
  unfold waitB
  rw [hat]
  exact Iff.rfl
 have hpl:=at_some hat
 have closeW:∀ {w},Sat R (pts bx (bkObj (waitX b c))::fqC b5 f q::LoneAt f pl.r::QuAt q pl.q::FlsAt (A++C)::cmC b3 c sg sp::rpNew b4::pts p (bookC b m1 m2)::MapAt m1 MF::MapAt m2 MB::BksAt xs::Hs) w→Sat R (BookAt p b::Hs) w:=fun {w} hw=>by
  have hw:Sat R (pts bx (bkObj (waitX b c))::fqC b5 f q::cmC b3 c sg sp::rpNew b4::LoneAt f pl.r::QuAt q pl.q::pts p (bookC b m1 m2)::MapAt m1 MF::MapAt m2 MB::FlsAt (A++C)::BksAt xs::Hs) w:=hw.arr
  exact book_close hl hMF hMB hw.drop.drop.drop.drop
 refine ⟨fun w=>¬ (pl.r.lims.length:Int)≤c.cls∧Sat R (pts bx (bkObj (waitX b c))::fqC b5 f q::LoneAt f pl.r::QuAt q pl.q::FlsAt (A++C)::cmC b3 c sg sp::rpNew b4::pts p (bookC b m1 m2)::MapAt m1 MF::MapAt m2 MB::BksAt xs::Hs) w,?_,?_⟩
 ·refine ⟨c.kind,At.own (eqS hw) (by exact ⟨rfl,trivial⟩),Br.e (fun h=>by omega) (fun _=>?_)⟩
  refine drw_rule' (Sat R [cmC b3 c sg sp,fqC b5 f q,VC.tru]) hw (fun w hw=>?_) fun w hw=>?_
  ·exact (hw.arr (Hs':=cmC b3 c sg sp::fqC b5 f q::pts bx (bkObj (heldX b c))::LoneAt f pl.r::QuAt q pl.q::FlsAt (A++C)::rpNew b4::pts p (bookC b m1 m2)::MapAt m1 MF::MapAt m2 MB::BksAt xs::Hs)).cons fun _ h=>h.restTru2
  refine ⟨c.cls,At.own (fun _ h=>h) (by exact ⟨rfl,trivial⟩),some ⟨f,0,none⟩,At.own (fun _ h=>h) (by exact ⟨rfl,trivial⟩),?_⟩
  have hw:Sat R (LoneAt f pl.r::pts bx (bkObj (heldX b c))::fqC b5 f q::QuAt q pl.q::FlsAt (A++C)::cmC b3 c sg sp::rpNew b4::pts p (bookC b m1 m2)::MapAt m1 MF::MapAt m2 MB::BksAt xs::Hs) w:=hw.arr
  refine (lone_left hw).use ?_
  clear hw
  rintro _ w ⟨sl,rfl,hw⟩
  have hsl:=Own.len hw
  rw [List.length_map,lefts_len] at hsl
  have hw:Sat R (pts bx (bkObj (heldX b c))::fqC b5 f q::LoneAt f pl.r::QuAt q pl.q::FlsAt (A++C)::cmC b3 c sg sp::rpNew b4::pts p (bookC b m1 m2)::MapAt m1 MF::MapAt m2 MB::BksAt xs::Hs) w:=by
   have hw:=hw.drop
   exact hw.arr
  have hS:Sat R [cmC b3 c sg sp,fqC b5 f q,VC.tru] w:=(hw.arr (Hs':=cmC b3 c sg sp::fqC b5 f q::pts bx (bkObj (heldX b c))::LoneAt f pl.r::QuAt q pl.q::FlsAt (A++C)::rpNew b4::pts p (bookC b m1 m2)::MapAt m1 MF::MapAt m2 MB::BksAt xs::Hs)).cons fun _ h=>h.restTru2
  refine .inl ⟨sl,rfl,hS,?_⟩
  refine need_c (fun h=>.inl ⟨rfl,hS,?_⟩) (fun h=>.inr ⟨_,rfl,hX 1 w ?_ (close hw)⟩)
  ·have:=of_decide_eq_true h
   clear hS
   refine store_rule hw (by kernel_rfl) rfl (by simp [Value.cells]) fun w hw=>?_
   refine store_rule hw (by kernel_rfl) rfl (by rw [putL_len];simp [Value.cells]) fun w hw=>?_
   have hw:=hw.re (pts bx (bkObj (waitX b c)))
   exact ⟨by omega,hw⟩
  ·have:=of_decide_eq_false h
   exact hwait.2 (by rw [if_pos (by omega)])
 clear hw
 rintro _ w ⟨ht,hw⟩
 refine ⟨fun w=>¬ b.full∧Sat R (pts bx (bkObj (waitX b c))::fqC b5 f q::LoneAt f pl.r::QuAt q pl.q::FlsAt (A++C)::cmC b3 c sg sp::rpNew b4::pts p (bookC b m1 m2)::MapAt m1 MF::MapAt m2 MB::BksAt xs::Hs) w,?_,?_⟩
 ·refine NilP.mk rfl ⟨some m2,At.own (eqS hw) (by exact ⟨rfl,trivial⟩),(MB.length:Int),fun w' e=>?_,?_⟩
  ·rw [show w'=w from e]
   have hm1:Sat R (MapAt m2 MB::pts bx (bkObj (waitX b c))::fqC b5 f q::LoneAt f pl.r::QuAt q pl.q::FlsAt (A++C)::cmC b3 c sg sp::rpNew b4::pts p (bookC b m1 m2)::MapAt m1 MF::BksAt xs::Hs) w:=hw.arr
   exact MapAt.len (by kernel_rfl) hm1
  rw [hMBl]
  with_reducible refine Br.d (fun h3=>?_) (fun h3=>?_)
  ·refine NilP.mk rfl ⟨b.next,At.own (eqS hw) (by exact ⟨rfl,trivial⟩),?_⟩
   refine need_c (fun h=>.inl ⟨rfl,?_,hw⟩) (fun h=>.inr ⟨_,rfl,hX 3 w ?_ (closeW hw)⟩)
   ·have:=of_decide_eq_true h
    unfold Book.full
    omega
   ·have:=of_decide_eq_false h
    exact hwait.2 (by rw [if_neg ht,if_pos (.inr (by omega))])
  ·exact need_c (fun h=>by cases h) (fun h=>.inr ⟨_,rfl,hX 3 w (hwait.2 (by rw [if_neg ht,if_pos (.inl (by omega))])) (closeW hw)⟩)
 clear hw
 rintro _ w ⟨hf,hw⟩
 have hnext:=k.next
 have hf2:b.L.length<300∧b.next<28629151:=by unfold Book.full at hf;omega
 have hqok:=k.qok pl hpl.1
 obtain ⟨q2,hq2⟩:∃ q2,q2=(qadd pl.q (waitW b c)).1:=⟨_,rfl⟩
 refine ⟨fun w=>(qadd pl.q (waitW b c)).2=0∧Sat R (pts bx (bkObj (waitX b c))::fqC b5 f q::LoneAt f pl.r::QuAt q q2::FlsAt (A++C)::cmC b3 c sg sp::rpNew b4::pts p (bookC b m1 m2)::MapAt m1 MF::MapAt m2 MB::BksAt xs::Hs) w,?_,?_⟩
 ·refine ⟨c.kind,At.own (eqS hw) (by exact ⟨rfl,trivial⟩),Br.e (fun h=>by omega) (fun _=>?_)⟩
  refine drw_rule' (Sat R [fqC b5 f q,pts bx (bkObj (waitX b c)),pts p (bookC b m1 m2),cmC b3 c sg sp,VC.tru]) hw (fun w hw=>?_) fun w hw=>?_
  ·exact (hw.arr (Hs':=fqC b5 f q::pts bx (bkObj (waitX b c))::pts p (bookC b m1 m2)::cmC b3 c sg sp::LoneAt f pl.r::QuAt q pl.q::FlsAt (A++C)::rpNew b4::MapAt m1 MF::MapAt m2 MB::BksAt xs::Hs)).cons fun _ h=>h.cons fun _ h=>h.cons fun _ h=>h.restTru2
  refine ⟨some ⟨q,0,none⟩,At.own (fun _ h=>h) (by exact ⟨rfl,trivial⟩),b.next,At.own (fun _ h=>h) (by exact ⟨rfl,trivial⟩),c.cls,At.own (fun _ h=>h) (by exact ⟨rfl,trivial⟩),c.many,At.own (fun _ h=>h) (by exact ⟨rfl,trivial⟩),NilP.mk rfl ⟨b.now,At.own (fun _ h=>h) (by exact ⟨rfl,trivial⟩),c.sc,At.own (fun _ h=>h) (by exact ⟨rfl,trivial⟩),?_⟩⟩
  have hw:Sat R (QuAt q pl.q::pts bx (bkObj (waitX b c))::fqC b5 f q::LoneAt f pl.r::FlsAt (A++C)::cmC b3 c sg sp::rpNew b4::pts p (bookC b m1 m2)::MapAt m1 MF::MapAt m2 MB::BksAt xs::Hs) w:=hw.arr
  refine (qadd_spec (x:=waitW b c) hqok hw).use ?_
  clear hw
  rintro _ w ⟨rfl,hw⟩
  have hS:Sat R [fqC b5 f q,pts bx (bkObj (waitX b c)),pts p (bookC b m1 m2),cmC b3 c sg sp,VC.tru] w:=(hw.arr (Hs':=fqC b5 f q::pts bx (bkObj (waitX b c))::pts p (bookC b m1 m2)::cmC b3 c sg sp::LoneAt f pl.r::QuAt q (qadd pl.q (waitW b c)).1::FlsAt (A++C)::rpNew b4::MapAt m1 MF::MapAt m2 MB::BksAt xs::Hs)).cons fun _ h=>h.cons fun _ h=>h.cons fun _ h=>h.restTru2
  refine .inl ⟨_,rfl,hS,?_⟩
  refine mustE_c (fun h0=>.inl ⟨rfl,hS,h0,?_⟩) (fun h0=>.inr ⟨_,rfl,hX _ w (hwait.2 (by rw [if_neg ht,if_neg hf,if_pos h0])) ?_⟩)
  ·rw [hq2];exact hw.arr
  ·have hno:(qadd pl.q (waitW b c)).1=pl.q:=by
    unfold qadd at h0 ⊢
    split at h0<;>rename_i h1
    ·rw [if_pos h1]
    ·rw [if_neg h1]
     split at h0<;>rename_i h2
     ·rw [if_pos h2]
     ·rw [if_neg h2]
      split at h0<;>rename_i h3
      ·rw [if_pos h3]
      ·exact absurd rfl h0
   rw [hno] at hw
   have hw:Sat R (pts bx (bkObj (waitX b c))::fqC b5 f q::LoneAt f pl.r::QuAt q pl.q::FlsAt (A++C)::cmC b3 c sg sp::rpNew b4::pts p (bookC b m1 m2)::MapAt m1 MF::MapAt m2 MB::BksAt xs::Hs) w:=hw.arr
   exact closeW hw
 clear hw
 rintro _ w ⟨h0,hw⟩
 have hcore:=core_wait k hr hsc hat ht hf h0
 obtain ⟨y,hyL,hyid,hyf,hyc,hym,hyt,hres⟩:∃ y,y∈(promote c.flt (queued b c)).L∧y.id=b.next∧y.flt=c.flt∧y.cls=c.cls∧y.many=c.many∧y.till=0∧waitB b c=(promote c.flt (queued b c),tellB (promote c.flt (queued b c)) y):=by
  rcases wait_cases k0 hr hsc with ⟨h1,_⟩|⟨_,y,_,_,_,_,_,h1,h2,h3,h4,h5,h6,h7⟩
  ·exfalso
   rw [hwait.2 (by rw [if_neg ht,if_neg hf,if_neg (fun h=>h h0)])] at h1
   refine h1 ?_
   dsimp only
   split
   ·rfl
   ·exact tell_code
  ·exact ⟨y,h1,h2,h3,h4,h5,h6,h7⟩
 obtain ⟨nb,hnb⟩:∃ nb,nb=queued b c:=⟨_,rfl⟩
 obtain ⟨pl2,hp2⟩:∃ pl2,pl2=waitP (waitW b c) pl:=⟨_,rfl⟩
 rw [←hnb] at hres hcore hyL
 have hn2:pl2.n=c.flt:=by rw [hp2];exact hm.num
 have hm2:FlMid A C c.flt pl2:=⟨hn2,hm.a,hm.c⟩
 have hMF2:MF=(A++(f,q,pl2)::C).map flV:=by rw [hMF];exact fl_vals hn2 hm.num
 have hl2:BookL nb (A++(f,q,pl2)::C) (xs++[(bx,waitX b c)]):=by
  refine ⟨?_,?_⟩
  ·rw [hnb,hp2]
   exact hl.fset hm (waitP (waitW b c))
  ·rw [hnb,List.map_append,hl.bk]
   rfl
 have hMB2:MB++[(b.next,Value.pointer (some ⟨bx,0,none⟩))]=(xs++[(bx,waitX b c)]).map bkV:=by rw [hMB,List.map_append];rfl
 have hput:putM b.next (.pointer (some ⟨bx,0,none⟩)) MB=MB++[(b.next,Value.pointer (some ⟨bx,0,none⟩))]:=by rw [hMB];exact bk_fresh hl k _
 have hbget:getM b.next (MB++[(b.next,Value.pointer (some ⟨bx,0,none⟩))])=some (.pointer (some ⟨bx,0,none⟩)):=by rw [hMB];exact bk_snoc_get hl k _
 have hq22:q2=pl2.q:=by rw [hq2,hp2,(qadd_facts h0).2.2.2];rfl
 have hr22:pl.r=pl2.r:=by rw [hp2];rfl
 rw [hr22,hq22] at hw
 have hat2:nb.at c.flt=some pl2:=(at_iff hcore).2 ⟨hl2.fl.mem_iff.1 (List.mem_map.2 ⟨(f,q,pl2),by simp,rfl⟩),hn2⟩
 refine drw_rule hw fun w hw=>NilP.mk rfl ⟨some m2,At.own (fun _ h=>h) (by exact ⟨rfl,trivial⟩),b.next,At.own (fun _ h=>h) (by exact ⟨rfl,trivial⟩),?_⟩
 have hw:Sat R (MapAt m2 MB::pts bx (bkObj (waitX b c))::fqC b5 f q::LoneAt f pl2.r::QuAt q pl2.q::FlsAt (A++C)::cmC b3 c sg sp::rpNew b4::pts p (bookC b m1 m2)::MapAt m1 MF::BksAt xs::Hs) w:=hw.arr
 refine MapAt.put bMap hw b.next (.pointer (some ⟨bx,0,none⟩)) fun w hw=>?_
 rw [hput] at hw
 refine NilP.mk rfl ⟨b.next,At.own (eqS hw) (by exact ⟨rfl,trivial⟩),NilP.mk rfl ?_⟩
 have hw:Sat R (pts p (bookC b m1 m2)::MapAt m2 (MB++[(b.next,Value.pointer (some ⟨bx,0,none⟩))])::pts bx (bkObj (waitX b c))::fqC b5 f q::LoneAt f pl2.r::QuAt q pl2.q::FlsAt (A++C)::cmC b3 c sg sp::rpNew b4::MapAt m1 MF::BksAt xs::Hs) w:=hw.arr
 rw [wrap64 (x:=b.next + 1) (by omega) (by omega)]
 refine store_rule hw (by kernel_rfl) rfl (by simp [Value.cells]) fun w hw=>?_
 have hw:Sat R (pts p (bookC nb m1 m2)::MapAt m2 (MB++[(b.next,Value.pointer (some ⟨bx,0,none⟩))])::pts bx (bkObj (waitX b c))::fqC b5 f q::LoneAt f pl2.r::QuAt q pl2.q::FlsAt (A++C)::cmC b3 c sg sp::rpNew b4::MapAt m1 MF::BksAt xs::Hs) w:=by
  rw [hnb]
  exact hw.re (pts p (bookC (queued b c) m1 m2))
 refine ⟨c.kind,At.own (eqS hw) (by exact ⟨rfl,trivial⟩),Br.e (fun _=>?_) (fun h=>absurd hk h)⟩
 refine ⟨c.flt,At.own (eqS hw) (by exact ⟨rfl,trivial⟩),?_⟩
 have hw:Sat R (pts bx (bkObj (waitX b c))::BksAt xs::LoneAt f pl2.r::QuAt q pl2.q::FlsAt (A++C)::pts p (bookC nb m1 m2)::MapAt m1 MF::MapAt m2 (MB++[(b.next,Value.pointer (some ⟨bx,0,none⟩))])::fqC b5 f q::cmC b3 c sg sp::rpNew b4::Hs) w:=hw.arr
 have hw:=bks_snoc hw
 have hw:Sat R (LoneAt f pl2.r::QuAt q pl2.q::FlsAt (A++C)::BksAt (xs++[(bx,waitX b c)])::pts p (bookC nb m1 m2)::MapAt m1 MF::MapAt m2 (MB++[(b.next,Value.pointer (some ⟨bx,0,none⟩))])::fqC b5 f q::cmC b3 c sg sp::rpNew b4::Hs) w:=hw.arr
 have hw:=fls_mid.2 hw
 rw [hMF2,hMB2] at hw
 have hw:Sat R (pts p (bookC nb m1 m2)::MapAt m1 ((A++(f,q,pl2)::C).map flV)::MapAt m2 ((xs++[(bx,waitX b c)]).map bkV)::FlsAt (A++(f,q,pl2)::C)::BksAt (xs++[(bx,waitX b c)])::fqC b5 f q::cmC b3 c sg sp::rpNew b4::Hs) w:=hw.arr
 refine (promote_spec hcore hl2 hat2 hw).use ?_
 clear hw
 rintro _ w ⟨rfl,fs3,xs3,hl3,hf3,hb3,hw⟩
 refine .inl ⟨rfl,?_⟩
 have hcore3:=(promote_ok (n:=c.flt) hcore).1
 obtain ⟨A3,a3,C3,rfl,hbm3⟩:=bk_split hl3 hcore3.ids hyL
 have ha3:a3=bx:=by
  have h1:=bk_get (a:=a3) hbm3
  rw [hb3,←hMB2,hyid,hbget] at h1
  simpa using h1.symm
 subst ha3
 obtain ⟨p3,hp3⟩:=hcore3.at_of hyL
 obtain ⟨D3,f3,q3,E3,rfl,hm3⟩:=fl_split hl3 hcore3.nums hp3
 rw [←hf3,←hb3] at hw
 have htell:tellB (promote c.flt nb) y=tellP p3 y:=by unfold tellB;rw [hp3]
 rw [htell] at hres
 have hw:Sat R (FlsAt (D3++(f3,q3,p3)::E3)::BksAt (A3++(a3,y)::C3)::pts p (bookC (promote c.flt nb) m1 m2)::MapAt m1 ((D3++(f3,q3,p3)::E3).map flV)::MapAt m2 ((A3++(a3,y)::C3).map bkV)::fqC b5 f q::cmC b3 c sg sp::rpNew b4::Hs) w:=hw.arr
 have hw:=fls_mid.1 hw
 have hw:Sat R (BksAt (A3++(a3,y)::C3)::LoneAt f3 p3.r::QuAt q3 p3.q::FlsAt (D3++E3)::pts p (bookC (promote c.flt nb) m1 m2)::MapAt m1 ((D3++(f3,q3,p3)::E3).map flV)::MapAt m2 ((A3++(a3,y)::C3).map bkV)::fqC b5 f q::cmC b3 c sg sp::rpNew b4::Hs) w:=hw.arr
 have hw:=bks_mid.1 hw
 have hw:Sat R (pts p (bookC (promote c.flt nb) m1 m2)::MapAt m1 ((D3++(f3,q3,p3)::E3).map flV)::pts a3 (bkObj y)::LoneAt f3 p3.r::BksAt (A3++C3)::QuAt q3 p3.q::FlsAt (D3++E3)::MapAt m2 ((A3++(a3,y)::C3).map bkV)::fqC b5 f q::cmC b3 c sg sp::rpNew b4::Hs) w:=hw.arr
 refine (told_spec (x:=y) (by omega) hm3 hw).use ?_
 clear hw
 rintro _ w ⟨sl,sb,rfl,hw⟩
 refine .inl ⟨_,_,_,_,_,_,_,sl,sb,rfl,?_⟩
 have hw:Sat R (rpNew b4::Own sl 3 (intsI (rleftsF p3.r))::Own sb 9 ((rlabelsF p3.r y.id).map Value.string)::pts a3 (bkObj y)::BksAt (A3++C3)::LoneAt f3 p3.r::QuAt q3 p3.q::pts p (bookC (promote c.flt nb) m1 m2)::MapAt m1 ((D3++(f3,q3,p3)::E3).map flV)::MapAt m2 ((A3++(a3,y)::C3).map bkV)::FlsAt (D3++E3)::fqC b5 f q::cmC b3 c sg sp::Hs) w:=hw.arr
 refine store_rule hw (by kernel_rfl) rfl (by simp [Value.cells]) fun w hw=>?_
 have hw:=hw.re (rpC b4 (tellP p3 y) sl sb)
 refine ⟨_,_,_,_,_,_,_,sl,sb,At.own (eqS hw) (by exact ⟨rfl,rfl,rfl,rfl,rfl,rfl,rfl,rfl,rfl,trivial⟩),?_⟩
 have hfin:=hK sl sb w
 rw [hres] at hfin
 refine hfin ?_
 refine hw.drop.cons fun _ hw=>hw.cons fun _ hw=>?_
 have hw:=bks_mid.2 hw
 have hw:Sat _ (LoneAt f3 p3.r::QuAt q3 p3.q::pts p (bookC (promote c.flt nb) m1 m2)::MapAt m1 ((D3++(f3,q3,p3)::E3).map flV)::MapAt m2 ((A3++(a3,y)::C3).map bkV)::FlsAt (D3++E3)::BksAt (A3++(a3,y)::C3)::fqC b5 f q::cmC b3 c sg sp::Hs) w:=hw.arr
 exact (book_close hl3 rfl rfl hw).cons fun _ h=>h.drop.drop
end Go.Proofs.YtflgboncpbmikaaGreatDoor
/- Package booking: something is done with one booking. Condition: bounds. -/
namespace Go.Proofs.YtflgboncpbmikaaGreatDoor
set_option linter.unusedVariables false
set_option linter.unusedSimpArgs false
open Go Go.VC
open Classical
variable {R:Cx} {Hs Rest:List HP} {w:World}
theorem open_close {p m1 m2 f q a:Nat} {b:Book} {A C:List FE} {A2 C2:List BE} {pl:Pl} {x:Bk} (hl:BookL b (A++(f,q,pl)::C) (A2++(a,x)::C2)) {MF MB:List (Int × Value)} (hF:MF=(A++(f,q,pl)::C).map flV) (hB:MB=(A2++(a,x)::C2).map bkV)
  (hw:Sat R (LoneAt f pl.r::QuAt q pl.q::pts a (bkObj x)::pts p (bookC b m1 m2)::MapAt m1 MF::MapAt m2 MB::FlsAt (A++C)::BksAt (A2++C2)::Hs) w):Sat R (BookAt p b::Hs) w:=by
 have hw:Sat R (pts a (bkObj x)::BksAt (A2++C2)::LoneAt f pl.r::QuAt q pl.q::pts p (bookC b m1 m2)::MapAt m1 MF::MapAt m2 MB::FlsAt (A++C)::Hs) w:=hw.arr
 have hw:=bks_mid.2 hw
 have hw:Sat R (LoneAt f pl.r::QuAt q pl.q::pts p (bookC b m1 m2)::MapAt m1 MF::MapAt m2 MB::FlsAt (A++C)::BksAt (A2++(a,x)::C2)::Hs) w:=hw.arr
 exact book_close hl hF hB hw
theorem tell_tail {p m1 m2 f q a b6:Nat} {b:Book} {A C:List FE} {A2 C2:List BE} {pl:Pl} {x:Bk} {X:List PanicEntry→World→Prop} {K:Value→World→Prop} (hl:BookL b (A++(f,q,pl)::C) (A2++(a,x)::C2)) {MF MB:List (Int × Value)} (hF:MF=(A++(f,q,pl)::C).map flV) (hB:MB=(A2++(a,x)::C2).map bkV)
  (hid:0≤x.id∧x.id<28629151) (hm:FlMid A C x.flt pl)
  (hK:∀ sl sb w',Sat R (Own sl 3 (intsI (rleftsF pl.r))::Own sb 9 ((rlabelsF pl.r x.id).map Value.string)::BookAt p b::Hs) w'→K (.agg (rpV (tellP pl x) sl sb).toArray) w')
  (hw:Sat R (LoneAt f pl.r::QuAt q pl.q::pts a (bkObj x)::pts p (bookC b m1 m2)::MapAt m1 MF::MapAt m2 MB::FlsAt (A++C)::BksAt (A2++C2)::rpNew b6::Hs) w):
  Calls Tryz.prog 82 #[.pointer (some ⟨p,0,none⟩),.pointer (some ⟨a,0,none⟩)] w fun e w_9=>
   (∃ t0:Int,∃ t1:ByteArray,∃ t2:Int,∃ t3:Int,∃ t4:Int,∃ t5:Int,∃ t6:Int,∃ t7:Sl,∃ t8:Sl,(e=.returned (.agg #[.int .i64 t0,.string t1,.int .i64 t2,.int .i64 t3,.int .i64 t4,.int .i64 t5,.int .i64 t6,.slice t7.a t7.len t7.cap,.slice t8.a t8.len t8.cap]))∧
    ∃ w_10:World,((Instr.storeAt 102 (.pointer ((some ⟨b6,0,none⟩))) (.agg #[.int .i64 t0,.string t1,.int .i64 t2,.int .i64 t3,.int .i64 t4,.int .i64 t5,.int .i64 t6,.slice t7.a t7.len t7.cap,.slice t8.a t8.len t8.cap])).run Tryz.prog w_9=.ok () w_10)∧
    ∃ u0:Int,∃ u1:ByteArray,∃ u2:Int,∃ u3:Int,∃ u4:Int,∃ u5:Int,∃ u6:Int,∃ u7:Sl,∃ u8:Sl,(At (fun w'=>w'=w_10) ⟨b6,0,none⟩ [.int .i64 u0,.string u1,.int .i64 u2,.int .i64 u3,.int .i64 u4,.int .i64 u5,.int .i64 u6,.slice u7.a u7.len u7.cap,.slice u8.a u8.len u8.cap])∧
    K (.agg #[.int .i64 u0,.string u1,.int .i64 u2,.int .i64 u3,.int .i64 u4,.int .i64 u5,.int .i64 u6,.slice u7.a u7.len u7.cap,.slice u8.a u8.len u8.cap]) w_10)∨
   (∃ ch:List PanicEntry,(e=.panicked ch)∧X ch w_9):=by
 subst hF hB
 have hw:Sat R (pts p (bookC b m1 m2)::MapAt m1 ((A++(f,q,pl)::C).map flV)::pts a (bkObj x)::LoneAt f pl.r::QuAt q pl.q::MapAt m2 ((A2++(a,x)::C2).map bkV)::FlsAt (A++C)::BksAt (A2++C2)::rpNew b6::Hs) w:=hw.arr
 refine (told_spec hid hm hw).use ?_
 clear hw
 rintro _ w ⟨sl,sb,rfl,hw⟩
 refine .inl ⟨_,_,_,_,_,_,_,sl,sb,rfl,?_⟩
 have hw:Sat R (rpNew b6::Own sl 3 (intsI (rleftsF pl.r))::Own sb 9 ((rlabelsF pl.r x.id).map Value.string)::LoneAt f pl.r::QuAt q pl.q::pts a (bkObj x)::pts p (bookC b m1 m2)::MapAt m1 ((A++(f,q,pl)::C).map flV)::MapAt m2 ((A2++(a,x)::C2).map bkV)::FlsAt (A++C)::BksAt (A2++C2)::Hs) w:=hw.arr
 refine store_rule hw (by kernel_rfl) rfl (by simp [Value.cells]) fun w hw=>?_
 have hw:=hw.re (rpC b6 (tellP pl x) sl sb)
 refine ⟨_,_,_,_,_,_,_,sl,sb,At.own (eqS hw) (by exact ⟨rfl,rfl,rfl,rfl,rfl,rfl,rfl,rfl,rfl,trivial⟩),hK sl sb w ?_⟩
 exact hw.drop.cons fun _ hw=>hw.cons fun _ hw=>open_close hl rfl rfl hw
theorem delQ_no {id:Int}:∀ {l:List Wt},hasQ id l=false→delQ id l=l
 |[],_=>rfl
 |w::l,h=>by
  have h1:¬ w.id=id∧hasQ id l=false:=by simpa [hasQ] using h
  show (if w.id=id then l else w::delQ id l)=_
  rw [if_neg h1.1,delQ_no h1.2]
theorem qrem_del {id:Int} {l:List Wt}:(qrem l id).1=delQ id l:=by
 unfold qrem
 cases h:hasQ id l with
 |true=>rfl
 |false=>exact (delQ_no h).symm
set_option maxHeartbeats 4000000 in
theorem one_spec {p m1 m2 a:Nat} {b:Book} {c:Cm} {x:Bk} {fs:List FE} {A2 C2:List BE} {sg sp:Sl} (hk:c.kind=3∨c.kind=4∨c.kind=5∨c.kind=6) (k:Core b) (hlab:c.lab.size≤16) (hl:BookL b fs (A2++(a,x)::C2)) (hbm:BkMid A2 C2 x)
  (hw:Sat R (pts p (bookC b m1 m2)::MapAt m1 (fs.map flV)::MapAt m2 ((A2++(a,x)::C2).map bkV)::FlsAt fs::BksAt (A2++(a,x)::C2)::Hs) w):
  GetsX Tryz.prog 51 #[.pointer (some ⟨p,0,none⟩),.pointer (some ⟨a,0,none⟩),.agg #[.int .i64 c.kind,.string c.pnr,.int .i64 c.flt,.int .i64 c.cls,.int .i64 c.many,.int .i64 c.time,.float .f64 c.sc,.string c.lab,.int .i64 c.rows,.slice sg.a sg.len sg.cap,.slice sp.a sp.len sp.cap]] w
   (fun ch w'=>∃ e,ch=errP e∧oneB b x c=(b,errR e)∧Sat R (BookAt p b::Hs) w')
   (fun v w'=>∃ sl sb:Sl,v=.agg (rpV (oneB b x c).2 sl sb).toArray∧Sat R (Own sl 3 (intsI (oneB b x c).2.left)::Own sb 9 ((oneB b x c).2.labs.map Value.string)::BookAt p (oneB b x c).1::Hs) w'):=by
 apply call51
 suffices H:∀ (X:List PanicEntry→World→Prop) (K:Value→World→Prop),(∀ e w',oneB b x c=(b,errR e)→Sat R (BookAt p b::Hs) w'→X (errP e) w')→
   (∀ sl sb w',Sat R (Own sl 3 (intsI (oneB b x c).2.left)::Own sb 9 ((oneB b x c).2.labs.map Value.string)::BookAt p (oneB b x c).1::Hs) w'→K (.agg (rpV (oneB b x c).2 sl sb).toArray) w')→B51 (some ⟨p,0,none⟩) (some ⟨a,0,none⟩) c.kind c.pnr c.flt c.cls c.many c.time c.sc c.lab c.rows sg sp X K w from
  H _ _ (fun e w' h1 h2=>⟨e,rfl,h1,h2⟩) (fun sl sb w' h2=>⟨sl,sb,rfl,h2⟩)
 intro X K hX hK
 have hxL:x∈b.L:=by rw [←hl.bk];exact List.mem_map.2 ⟨(a,x),by simp,rfl⟩
 have hbk:=k.each x hxL
 have hnx:=k.next
 have hid:0≤x.id∧x.id<28629151:=⟨by have:=hbk.id;omega,by have:=hbk.id;omega⟩
 obtain ⟨pl,hat⟩:=k.at_of hxL
 obtain ⟨A,f,q,C,rfl,hm⟩:=fl_split hl k.nums hat
 have hpl:=at_some hat
 have hg:=k.good pl hpl.1
 have hqok:=k.qok pl hpl.1
 obtain ⟨MF,hMF⟩:∃ M,M=(A++(f,q,pl)::C).map flV:=⟨_,rfl⟩
 obtain ⟨MB,hMB⟩:∃ M,M=(A2++(a,x)::C2).map bkV:=⟨_,rfl⟩
 have hget:getM x.flt MF=some (.agg #[.pointer (some ⟨f,0,none⟩),.pointer (some ⟨q,0,none⟩)]):=by rw [hMF];exact fl_get hm
 rw [←hMF,←hMB] at hw
 have hone:∀ {e},oneB b x c=e↔(if c.kind=3 then (if x.state≠1 then (b,errR 7) else ({ b with L:=kset Bk.id x.id sureX b.L },tellP pl (sureX x)))
  else if c.kind=4 then (promote x.flt (gone b x),⟨0,c.pnr,0,0,0,0,0,[],[]⟩)
  else if x.state=3 then (b,errR 7)
  else if c.kind=5 then
   (if (rseatF pl.r x.id c.lab).2≠0 then (b,errR (rseatF pl.r x.id c.lab).2)
    else (b.put x.flt (seatP (rseatF pl.r x.id c.lab).1) b.L,tellP (seatP (rseatF pl.r x.id c.lab).1 pl) x))
  else (if (rautoF pl.r x.id).2.2≠0 then (b,errR (rautoF pl.r x.id).2.2)
    else (b.put x.flt (seatP (rautoF pl.r x.id).1) b.L,tellP (seatP (rautoF pl.r x.id).1 pl) x)))=e:=by
  intro e
  unfold oneB
  rw [hat]
 refine new_rule hw fun b5 w hw=>new_rule hw fun b6 w hw=>?_
 have hw:Sat R (FlsAt (A++(f,q,pl)::C)::BksAt (A2++(a,x)::C2)::pts p (bookC b m1 m2)::MapAt m1 MF::MapAt m2 MB::cmC b5 c sg sp::rpNew b6::Hs) w:=by
  have hw:Sat R (rpNew b6::cmC b5 c sg sp::pts p (bookC b m1 m2)::MapAt m1 MF::MapAt m2 MB::FlsAt (A++(f,q,pl)::C)::BksAt (A2++(a,x)::C2)::Hs) w:=hw
  exact hw.arr
 have hw:=fls_mid.1 hw
 have hw:Sat R (BksAt (A2++(a,x)::C2)::LoneAt f pl.r::QuAt q pl.q::FlsAt (A++C)::pts p (bookC b m1 m2)::MapAt m1 MF::MapAt m2 MB::cmC b5 c sg sp::rpNew b6::Hs) w:=hw.arr
 have hw:=bks_mid.1 hw
 refine drw_ruleT hw fun w hw=>?_
 refine NilP.mk rfl ⟨some m1,At.own (fun _ h=>h) (by exact ⟨rfl,trivial⟩),NilP.mk rfl ⟨x.flt,At.own (fun _ h=>h) (by exact ⟨rfl,trivial⟩),some ⟨f,0,none⟩,some ⟨q,0,none⟩,fun w' h=>?_,?_⟩⟩
 ·have hm1:Sat R (MapAt m1 MF::VC.tru::pts a (bkObj x)::BksAt (A2++C2)::LoneAt f pl.r::QuAt q pl.q::FlsAt (A++C)::pts p (bookC b m1 m2)::MapAt m2 MB::cmC b5 c sg sp::rpNew b6::Hs) w':=Sat.arr h
  have:=MapAt.look pMap hm1 x.flt false
  rw [hget] at this
  exact this
 refine new_rule hw fun b7 w hw=>⟨hw.absorb,?_⟩
 refine store_rule hw (by kernel_rfl) rfl (by simp [Value.cells]) fun w hw=>?_
 have hw:=hw.re (fqC b7 f q)
 have hw:Sat R (LoneAt f pl.r::QuAt q pl.q::pts a (bkObj x)::pts p (bookC b m1 m2)::MapAt m1 MF::MapAt m2 MB::FlsAt (A++C)::BksAt (A2++C2)::rpNew b6::fqC b7 f q::cmC b5 c sg sp::Hs) w:=by
  have hw:Sat R (fqC b7 f q::pts a (bkObj x)::BksAt (A2++C2)::LoneAt f pl.r::QuAt q pl.q::FlsAt (A++C)::pts p (bookC b m1 m2)::MapAt m1 MF::MapAt m2 MB::cmC b5 c sg sp::rpNew b6::Hs) w:=hw.cons fun _ h=>h.drop
  exact hw.arr
 have close:∀ {w},Sat R (LoneAt f pl.r::QuAt q pl.q::pts a (bkObj x)::pts p (bookC b m1 m2)::MapAt m1 MF::MapAt m2 MB::FlsAt (A++C)::BksAt (A2++C2)::rpNew b6::fqC b7 f q::cmC b5 c sg sp::Hs) w→Sat R (BookAt p b::Hs) w:=fun {w} hw=>
  (open_close hl hMF hMB hw).cons fun _ h=>h.drop.drop.drop
 refine NilP.mk rfl ⟨x.state,At.own (eqS hw) (by exact ⟨rfl,trivial⟩),c.kind,At.own (eqS hw) (by exact ⟨rfl,trivial⟩),?_⟩
 refine Br.e (fun h3=>?_) (fun h3=>Br.e (fun h4=>?_) (fun h4=>Br.e (fun h5=>?_) (fun h5=>Br.e (fun h6=>?_) (fun h6=>by omega))))
 ·-- confirmed
  refine NilP.mk rfl ⟨x.state,At.own (eqS hw) (by exact ⟨rfl,trivial⟩),?_⟩
  refine need_c (fun h=>.inl ⟨rfl,?_⟩) (fun h=>.inr ⟨_,rfl,hX 7 w (hone.2 ?_) (close hw)⟩)
  rotate_left
  ·have h1:¬ x.state=1:=by simpa using h
   rw [if_pos h3,if_pos h1]
  have h1:x.state=1:=by simpa using h
  have hres:=hone.2 (by rw [if_pos h3,if_neg (fun h=>h h1)])
  refine NilP.mk rfl ?_
  have hw:Sat R (pts a (bkObj x)::LoneAt f pl.r::QuAt q pl.q::pts p (bookC b m1 m2)::MapAt m1 MF::MapAt m2 MB::FlsAt (A++C)::BksAt (A2++C2)::rpNew b6::fqC b7 f q::cmC b5 c sg sp::Hs) w:=hw.arr
  refine store_rule hw (by kernel_rfl) rfl (by simp [Value.cells]) fun w hw=>NilP.mk rfl ?_
  refine store_rule hw (by kernel_rfl) rfl (by rw [putL_len];simp [Value.cells]) fun w hw=>?_
  have hw:=hw.re (pts a (bkObj (sureX x)))
  have hw:Sat R (LoneAt f pl.r::QuAt q pl.q::pts a (bkObj (sureX x))::pts p (bookC b m1 m2)::MapAt m1 MF::MapAt m2 MB::FlsAt (A++C)::BksAt (A2++C2)::rpNew b6::fqC b7 f q::cmC b5 c sg sp::Hs) w:=hw.arr
  have hl2:BookL { b with L:=kset Bk.id x.id sureX b.L } (A++(f,q,pl)::C) (A2++(a,sureX x)::C2):=⟨hl.fl,hl.bset k.ids sureX⟩
  refine tell_tail (Hs:=fqC b7 f q::cmC b5 c sg sp::Hs) (b:={ b with L:=kset Bk.id x.id sureX b.L }) (x:=sureX x) (MB:=MB) hl2 hMF (by rw [hMB];exact (bk_vals (show (sureX x).id=x.id from rfl)).symm) hid hm (fun sl sb w' hw=>?_) hw
  have hfin:=hK sl sb w'
  rw [hres] at hfin
  exact hfin (hw.cons fun _ h=>h.cons fun _ h=>h.cons fun _ h=>h.drop.drop)
 ·-- cancelled
  have hres:=hone.2 (by rw [if_neg h3,if_pos h4])
  have hcore:=core_gone k hxL
  obtain ⟨pl2,hp2⟩:∃ pl2:Pl,pl2=if x.state=3 then quitP x.id pl else giveP x.id pl:=⟨_,rfl⟩
  refine ⟨fun w=>Sat R (LoneAt f pl2.r::QuAt q pl2.q::pts a (bkObj x)::pts p (bookC b m1 m2)::MapAt m1 MF::MapAt m2 MB::FlsAt (A++C)::BksAt (A2++C2)::rpNew b6::fqC b7 f q::cmC b5 c sg sp::Hs) w,?_,?_⟩
  ·refine Br.e (fun hs=>?_) (fun hs=>?_)
   ·rw [if_pos hs] at hp2
    refine drw_rule hw fun w hw=>⟨some ⟨q,0,none⟩,At.own (fun _ h=>h) (by exact ⟨rfl,trivial⟩),NilP.mk rfl ⟨x.id,At.own (fun _ h=>h) (by exact ⟨rfl,trivial⟩),?_⟩⟩
    refine (qremove_spec (by have:=hqok.len;omega) hw.swap).use ?_
    clear hw
    rintro _ w ⟨rfl,hw⟩
    rw [qrem_del] at hw
    refine .inl ⟨_,rfl,?_⟩
    rw [hp2]
    exact hw.swap
   ·rw [if_neg hs] at hp2
    refine drw_rule hw fun w hw=>⟨some ⟨f,0,none⟩,At.own (fun _ h=>h) (by exact ⟨rfl,trivial⟩),NilP.mk rfl ⟨x.id,At.own (fun _ h=>h) (by exact ⟨rfl,trivial⟩),?_⟩⟩
    refine (lone_give hw).use ?_
    clear hw
    rintro _ w ⟨rfl,hw⟩
    refine .inl ⟨_,rfl,?_⟩
    rw [hp2]
    exact hw
  clear hw
  rintro _ w hw
  have hn2:pl2.n=x.flt:=by
   rw [hp2]
   split
   ·exact hm.num
   ·exact (give_num (r:=pl.r) (o:=x.id)).1.trans hm.num
  have hMF2:MF=(A++(f,q,pl2)::C).map flV:=by rw [hMF];exact fl_vals hn2 hm.num
  have hl2:BookL (gone b x) (A++(f,q,pl2)::C) (A2++C2):=by
   refine ⟨?_,?_⟩
   ·have h1:=hl.fset hm (quitP x.id)
    have h2:=hl.fset hm (giveP x.id)
    unfold gone
    rw [hp2]
    split
    ·exact h1
    ·exact h2
   ·have h1:=hl.bdel k.ids
    unfold gone
    split
    ·exact h1
    ·exact h1
  have hat2:(gone b x).at x.flt=some pl2:=(at_iff hcore).2 ⟨hl2.fl.mem_iff.1 (List.mem_map.2 ⟨(f,q,pl2),by simp,rfl⟩),hn2⟩
  have hgc:bookC (gone b x) m1 m2=bookC b m1 m2:=by
   unfold gone
   split<;>rfl
  refine drw_rule hw fun w hw=>NilP.mk rfl ⟨some m2,At.own (fun _ h=>h) (by exact ⟨rfl,trivial⟩),NilP.mk rfl ⟨x.id,At.own (fun _ h=>h) (by exact ⟨rfl,trivial⟩),?_⟩⟩
  have hw:Sat R (MapAt m2 MB::LoneAt f pl2.r::QuAt q pl2.q::pts a (bkObj x)::pts p (bookC b m1 m2)::MapAt m1 MF::FlsAt (A++C)::BksAt (A2++C2)::rpNew b6::fqC b7 f q::cmC b5 c sg sp::Hs) w:=hw.arr
  refine MapAt.del bMap hw x.id fun w hw=>?_
  rw [hMB,bk_vdel hbm] at hw
  refine NilP.mk rfl ⟨x.flt,At.own (eqS hw) (by exact ⟨rfl,trivial⟩),?_⟩
  have hw:Sat R (LoneAt f pl2.r::QuAt q pl2.q::FlsAt (A++C)::MapAt m2 ((A2++C2).map bkV)::pts a (bkObj x)::pts p (bookC (gone b x) m1 m2)::MapAt m1 ((A++(f,q,pl2)::C).map flV)::BksAt (A2++C2)::rpNew b6::fqC b7 f q::cmC b5 c sg sp::Hs) w:=by
   rw [hgc,←hMF2]
   exact hw.arr
  have hw:=fls_mid.2 hw
  have hw:Sat R (pts p (bookC (gone b x) m1 m2)::MapAt m1 ((A++(f,q,pl2)::C).map flV)::MapAt m2 ((A2++C2).map bkV)::FlsAt (A++(f,q,pl2)::C)::BksAt (A2++C2)::pts a (bkObj x)::rpNew b6::fqC b7 f q::cmC b5 c sg sp::Hs) w:=hw.arr
  refine (promote_spec hcore hl2 hat2 hw).use ?_
  clear hw
  rintro _ w ⟨rfl,fs3,xs3,hl3,hf3,hb3,hw⟩
  refine .inl ⟨rfl,c.pnr,At.own (eqS hw) (by exact ⟨rfl,trivial⟩),?_⟩
  have hw:Sat R (rpNew b6::pts p (bookC (promote x.flt (gone b x)) m1 m2)::MapAt m1 ((A++(f,q,pl2)::C).map flV)::MapAt m2 ((A2++C2).map bkV)::FlsAt fs3::BksAt xs3::pts a (bkObj x)::fqC b7 f q::cmC b5 c sg sp::Hs) w:=hw.arr
  refine store_rule hw (by kernel_rfl) rfl (by simp [Value.cells]) fun w hw=>?_
  have hw:=hw.re (rpC b6 ⟨0,c.pnr,0,0,0,0,0,[],[]⟩ nilSl nilSl)
  refine ⟨_,_,_,_,_,_,_,nilSl,nilSl,At.own (eqS hw) (by exact ⟨rfl,rfl,rfl,rfl,rfl,rfl,rfl,rfl,rfl,trivial⟩),?_⟩
  have hfin:=hK nilSl nilSl w
  rw [hres] at hfin
  refine hfin (Own.nil (Own.nil ?_))
  rw [←hf3,←hb3] at hw
  have hw:Sat R (pts p (bookC (promote x.flt (gone b x)) m1 m2)::MapAt m1 (fs3.map flV)::MapAt m2 (xs3.map bkV)::FlsAt fs3::BksAt xs3::pts a (bkObj x)::fqC b7 f q::cmC b5 c sg sp::Hs) w:=hw.drop
  exact (Sat.book.2 ⟨m1,m2,fs3,xs3,hl3,hw⟩).cons fun _ h=>h.drop.drop.drop
 ·-- a seat
  refine need_c (fun h=>.inl ⟨rfl,?_⟩) (fun h=>.inr ⟨_,rfl,hX 7 w (hone.2 ?_) (close hw)⟩)
  rotate_left
  ·have h1:x.state=3:=by simpa using h
   rw [if_neg h3,if_neg h4,if_pos h1]
  have h1:¬ x.state=3:=by simpa using h
  refine drw_rule' (Sat R [pts a (bkObj x),fqC b7 f q,cmC b5 c sg sp,VC.tru]) hw (fun w hw=>?_) fun w hw=>?_
  ·exact (hw.arr (Hs':=pts a (bkObj x)::fqC b7 f q::cmC b5 c sg sp::LoneAt f pl.r::QuAt q pl.q::pts p (bookC b m1 m2)::MapAt m1 MF::MapAt m2 MB::FlsAt (A++C)::BksAt (A2++C2)::rpNew b6::Hs)).cons fun _ h=>h.cons fun _ h=>h.restTru2
  refine ⟨some ⟨f,0,none⟩,At.own (fun _ h=>h) (by exact ⟨rfl,trivial⟩),NilP.mk rfl ⟨x.id,At.own (fun _ h=>h) (by exact ⟨rfl,trivial⟩),c.lab,At.own (fun _ h=>h) (by exact ⟨rfl,trivial⟩),?_⟩⟩
  refine (lone_seat (by omega) hw).use ?_
  clear hw
  rintro _ w ⟨rfl,hw⟩
  refine .inl ⟨_,rfl,?_⟩
  refine mustE_c (fun h0=>.inl ⟨rfl,?_,?_⟩) (fun h0=>.inr ⟨_,rfl,hX _ w (hone.2 (by rw [if_neg h3,if_neg h4,if_neg h1,if_pos h5,if_pos h0])) ?_⟩)
  rotate_left 2
  ·rw [seat_no' h0] at hw
   exact close hw
  ·exact (hw.arr (Hs':=pts a (bkObj x)::fqC b7 f q::cmC b5 c sg sp::LoneAt f (rseatF pl.r x.id c.lab).1::QuAt q pl.q::pts p (bookC b m1 m2)::MapAt m1 MF::MapAt m2 MB::FlsAt (A++C)::BksAt (A2++C2)::rpNew b6::Hs)).cons fun _ h=>h.cons fun _ h=>h.restTru2
  have hres:=hone.2 (by rw [if_neg h3,if_neg h4,if_neg h1,if_pos h5,if_neg (fun h=>h h0)])
  have hn2:(seatP (rseatF pl.r x.id c.lab).1 pl).n=x.flt:=(seat_ly hg h0).num.trans hm.num
  have hl2:BookL (b.put x.flt (seatP (rseatF pl.r x.id c.lab).1) b.L) (A++(f,q,seatP (rseatF pl.r x.id c.lab).1 pl)::C) (A2++(a,x)::C2):=⟨hl.fset hm (seatP (rseatF pl.r x.id c.lab).1),hl.bk⟩
  refine tell_tail (Hs:=fqC b7 f q::cmC b5 c sg sp::Hs) hl2 (by rw [hMF];exact (fl_vals hm.num hn2).symm) hMB hid ⟨hn2,hm.a,hm.c⟩ (fun sl sb w' hw=>?_) hw
  have hfin:=hK sl sb w'
  rw [hres] at hfin
  exact hfin (hw.cons fun _ h=>h.cons fun _ h=>h.cons fun _ h=>h.drop.drop)
 ·-- seats of themselves
  refine need_c (fun h=>.inl ⟨rfl,?_⟩) (fun h=>.inr ⟨_,rfl,hX 7 w (hone.2 ?_) (close hw)⟩)
  rotate_left
  ·have h1:x.state=3:=by simpa using h
   rw [if_neg h3,if_neg h4,if_pos h1]
  have h1:¬ x.state=3:=by simpa using h
  refine drw_rule hw fun w hw=>⟨some ⟨f,0,none⟩,At.own (fun _ h=>h) (by exact ⟨rfl,trivial⟩),NilP.mk rfl ⟨x.id,At.own (fun _ h=>h) (by exact ⟨rfl,trivial⟩),?_⟩⟩
  refine (lone_auto hw).use ?_
  clear hw
  rintro _ w ⟨t,rfl,hw⟩
  have hw:=hw.drop
  refine .inl ⟨_,_,rfl,?_⟩
  refine mustE_c (fun h0=>.inl ⟨rfl,?_⟩) (fun h0=>.inr ⟨_,rfl,hX _ w (hone.2 (by rw [if_neg h3,if_neg h4,if_neg h1,if_neg h5,if_pos h0])) ?_⟩)
  rotate_left
  ·rw [auto_no h0] at hw
   exact close hw
  have hres:=hone.2 (by rw [if_neg h3,if_neg h4,if_neg h1,if_neg h5,if_neg (fun h=>h h0)])
  have hn2:(seatP (rautoF pl.r x.id).1 pl).n=x.flt:=(auto_ly h0).num.trans hm.num
  have hl2:BookL (b.put x.flt (seatP (rautoF pl.r x.id).1) b.L) (A++(f,q,seatP (rautoF pl.r x.id).1 pl)::C) (A2++(a,x)::C2):=⟨hl.fset hm (seatP (rautoF pl.r x.id).1),hl.bk⟩
  refine tell_tail (Hs:=fqC b7 f q::cmC b5 c sg sp::Hs) hl2 (by rw [hMF];exact (fl_vals hm.num hn2).symm) hMB hid ⟨hn2,hm.a,hm.c⟩ (fun sl sb w' hw=>?_) hw
  have hfin:=hK sl sb w'
  rw [hres] at hfin
  exact hfin (hw.cons fun _ h=>h.cons fun _ h=>h.cons fun _ h=>h.drop.drop)
end Go.Proofs.YtflgboncpbmikaaGreatDoor
/- Package booking: the sorted keys of its maps; the clock. Condition: bounds. -/
namespace Go.Proofs.YtflgboncpbmikaaGreatDoor
set_option linter.unusedVariables false
set_option linter.unusedSimpArgs false
open Go Go.VC
open Classical
variable {R:Cx} {Hs Rest:List HP} {w:World}
theorem sortI_eq {l m:List Int} (hp:l.Perm m) (h:m.Pairwise fun a b=>a<b):sortI l=m:=by
 have tr:∀ a b c:Int,decide (a≤b)=true→decide (b≤c)=true→decide (a≤c)=true:=fun a b c h1 h2=>by simp only [decide_eq_true_eq] at *;omega
 have to:∀ a b:Int,(decide (a≤b)||decide (b≤a))=true:=fun a b=>by simp only [Bool.or_eq_true,decide_eq_true_eq];omega
 exact List.Perm.eq_of_pairwise (fun a b _ _ h1 h2=>by simp only [decide_eq_true_eq] at h1 h2;omega) (List.pairwise_mergeSort tr to l) (h.imp fun hab=>by simp only [decide_eq_true_eq];omega) ((List.mergeSort_perm l _).trans hp)
theorem bk_keys {b:Book} {fs:List FE} {xs:List BE} (hl:BookL b fs xs):(xs.map bkV).map (·.1)=b.L.map Bk.id:=by
 rw [←hl.bk,List.map_map,List.map_map]
 rfl
theorem fl_keys {b:Book} {fs:List FE} {xs:List BE} (hl:BookL b fs xs):((fs.map flV).map (·.1)).Perm (b.fl.map Pl.n):=by
 have:=hl.fl.map Pl.n
 rw [List.map_map] at this ⊢
 exact this
theorem rise_ids {b:Book} (k:Core b):(b.L.map Bk.id).Pairwise fun a b=>a<b:=List.pairwise_map.2 k.ids
theorem rise_nums {b:Book} (k:Core b):(b.fl.map Pl.n).Pairwise fun a b=>a<b:=List.pairwise_map.2 k.nums
theorem nd_lt {l:List Int} (h:l.Pairwise fun a b=>a<b):l.Nodup:=h.imp fun hab=>by omega
theorem sortB_rule {m:Nat} {b:Book} {fs:List FE} {xs:List BE} {K:Sl→World→Prop} (k:Core b) (hl:BookL b fs xs) (hw:Sat R (MapAt m (xs.map bkV)::Hs) w)
  (kk:∀ s w',Sat R (Own s 3 (intsI (b.L.map Bk.id))::MapAt m (xs.map bkV)::Hs) w'→K s w'):
  Calls Tryz.prog 61 #[.map (some m)] w fun e w1=>∃ t:Value,e=.returned t∧Calls Tryz.prog 30 #[t] w1 fun e w2=>∃ t:Sl,e=.returned (.slice t.a t.len t.cap)∧K t w2:=by
 have hk:=bk_keys hl
 obtain ⟨l,c,hs,hst,hp⟩:=MapAt.iff.1 hw
 obtain ⟨D0,hown,hsz,hperm⟩:=keysI_map hs hst (by rw [hk];exact nd_lt (rise_ids k)) (fun i hi=>by
  rw [hk] at hi
  obtain ⟨x,hx,rfl⟩:=List.mem_map.1 hi
  have:=(k.each x hx).id
  have:=k.next
  omega) (by rw [List.length_map,bk_len hl];have:=k.many;omega) hp.at
 refine (callsIn_wide.1 (Tryz.maps_Keys_61 (some m) w)).mono ?_
 rintro _ _ ⟨rfl,rfl⟩
 refine ⟨_,rfl,?_⟩
 refine (callsIn_wide.1 (Tryz.slices_Sorted_keys_30_61 m _ D0 _ w hown (by unfold maxLen;omega) (by omega))).mono ?_
 rintro _ w' ⟨v,ss,rfl,hS,hrow,hnil,hb⟩
 have hw1:Sat R (MapAt m (xs.map bkV)::Hs) (w.alloc (.cells #[.map (some m)] 88)):=(Sat.alloc _ hw).drop
 obtain ⟨s,rfl,h3⟩:=Sat.ownsRow hw1 hb hrow
 refine ⟨s,rfl,kk s _ ?_⟩
 have e:=sortI_eq (List.Perm.of_eq hk) (rise_ids k)
 rw [←sortI_perm (hperm ss hS)] at e
 rw [←e]
 exact h3
theorem sortF_rule {m:Nat} {b:Book} {fs:List FE} {xs:List BE} {K:Sl→World→Prop} (k:Core b) (hl:BookL b fs xs) (hw:Sat R (MapAt m (fs.map flV)::Hs) w)
  (kk:∀ s w',Sat R (Own s 3 (intsI (b.fl.map Pl.n))::MapAt m (fs.map flV)::Hs) w'→K s w'):
  Calls Tryz.prog 57 #[.map (some m)] w fun e w1=>∃ t:Value,e=.returned t∧Calls Tryz.prog 30 #[t] w1 fun e w2=>∃ t:Sl,e=.returned (.slice t.a t.len t.cap)∧K t w2:=by
 have hk:=fl_keys hl
 obtain ⟨l,c,hs,hst,hp⟩:=MapAt.iff.1 hw
 obtain ⟨D0,hown,hsz,hperm⟩:=keysI_map hs hst (hk.nodup_iff.2 (nd_lt (rise_nums k))) (fun i hi=>by
  obtain ⟨x,hx,rfl⟩:=List.mem_map.1 (hk.mem_iff.1 hi)
  have:=(k.good x hx).num
  show -1000000000≤x.r.num∧x.r.num≤1000000000
  omega) (by rw [List.length_map,fl_len hl];have:=k.few;omega) hp.at
 refine (callsIn_wide.1 (Tryz.maps_Keys_57 (some m) w)).mono ?_
 rintro _ _ ⟨rfl,rfl⟩
 refine ⟨_,rfl,?_⟩
 refine (callsIn_wide.1 (Tryz.slices_Sorted_keys_30_57 m _ D0 _ w hown (by unfold maxLen;omega) (by omega))).mono ?_
 rintro _ w' ⟨v,ss,rfl,hS,hrow,hnil,hb⟩
 have hw1:Sat R (MapAt m (fs.map flV)::Hs) (w.alloc (.cells #[.map (some m)] 87)):=(Sat.alloc _ hw).drop
 obtain ⟨s,rfl,h3⟩:=Sat.ownsRow hw1 hb hrow
 refine ⟨s,rfl,kk s _ ?_⟩
 have e:=sortI_eq hk (rise_nums k)
 rw [←sortI_perm (hperm ss hS)] at e
 rw [←e]
 exact h3
theorem keys_x {g1 g2:FuncId} {m:Nat} {K:Sl→World→Prop} {E1 E2:Ending→World→Prop}
  (h:Calls Tryz.prog g1 #[.map (some m)] w fun e w1=>∃ t:Value,e=.returned t∧Calls Tryz.prog g2 #[t] w1 fun e w2=>∃ t:Sl,e=.returned (.slice t.a t.len t.cap)∧K t w2):
  Calls Tryz.prog g1 #[.map (some m)] w fun e w1=>(∃ t:Value,(e=.returned t)∧Calls Tryz.prog g2 #[t] w1 fun e w2=>(∃ t:Sl,(e=.returned (.slice t.a t.len t.cap))∧K t w2)∨E2 e w2)∨E1 e w1:=by
 refine h.mono ?_
 rintro _ w ⟨t,rfl,h⟩
 refine .inl ⟨t,rfl,h.mono ?_⟩
 rintro _ w ⟨t,rfl,h⟩
 exact .inl ⟨t,rfl,h⟩
theorem prom_book {p:Nat} {b:Book} {n:Int} (k:Core b) (hn:n∈b.fl.map Pl.n) (hw:Sat R (BookAt p b::Hs) w):
  Gets Tryz.prog 81 #[.pointer (some ⟨p,0,none⟩),.int .i64 n] w fun v w'=>v=.tuple #[]∧Sat R (BookAt p (promote n b)::Hs) w':=by
 obtain ⟨pl,hpl,hpn⟩:=List.mem_map.1 hn
 obtain ⟨m1,m2,fs,xs,hl,hw⟩:=Sat.book.1 hw
 refine (promote_spec k hl ((at_iff k).2 ⟨hpl,hpn⟩) hw).use ?_
 clear hw
 rintro _ w ⟨rfl,fs',xs',hl',h1,h2,hw⟩
 refine ⟨_,rfl,rfl,Sat.book.2 ⟨m1,m2,fs',xs',hl',?_⟩⟩
 rw [h1,h2]
 exact hw
structure ExpI (b:Book) (t:Int) (j:Nat) (b':Book):Prop where
 res:ticked b t=expAll (b.L.drop j) b'
 core:Core b'
 now:b'.now=t
 left:∀ x∈b.L.drop j,x∈b'.L
structure PromA (ns:List Int) (t:Int) (B:Book) (j:Nat) (b':Book):Prop where
 res:promAll ns B=promAll (ns.drop j) b'
 core:Core b'
 now:b'.now=t
 nums:b'.fl.map Pl.n=ns
set_option maxHeartbeats 4000000 in
theorem clock_spec {p:Nat} {b:Book} {c:Cm} {sg sp:Sl} (k:Core b) (hr:RightC c) (hw:Sat R (BookAt p b::Hs) w):
  GetsX Tryz.prog 49 #[.pointer (some ⟨p,0,none⟩),.agg #[.int .i64 c.kind,.string c.pnr,.int .i64 c.flt,.int .i64 c.cls,.int .i64 c.many,.int .i64 c.time,.float .f64 c.sc,.string c.lab,.int .i64 c.rows,.slice sg.a sg.len sg.cap,.slice sp.a sp.len sp.cap]] w
   (fun ch w'=>∃ e,ch=errP e∧clockB b c=(b,errR e)∧Sat R (BookAt p b::Hs) w')
   (fun v w'=>∃ sl sb:Sl,v=.agg (rpV (clockB b c).2 sl sb).toArray∧Sat R (Own sl 3 (intsI (clockB b c).2.left)::Own sb 9 ((clockB b c).2.labs.map Value.string)::BookAt p (clockB b c).1::Hs) w'):=by
 apply call49
 suffices H:∀ (X:List PanicEntry→World→Prop) (K:Value→World→Prop),(∀ e w',clockB b c=(b,errR e)→Sat R (BookAt p b::Hs) w'→X (errP e) w')→
   (∀ w',¬ c.time<b.now→Sat R (BookAt p (clockB b c).1::Hs) w'→K (.agg (rpV ⟨0,emS,0,0,0,0,c.time,[],[]⟩ nilSl nilSl).toArray) w')→B49 (some ⟨p,0,none⟩) c.kind c.pnr c.flt c.cls c.many c.time c.sc c.lab c.rows sg sp X K w from
  H _ _ (fun e w' h1 h2=>⟨e,rfl,h1,h2⟩) (fun w' h1 h2=>by
   have e:(clockB b c).2=⟨0,emS,0,0,0,0,c.time,[],[]⟩:=by unfold clockB;rw [if_neg h1]
   rw [e]
   exact ⟨nilSl,nilSl,rfl,Own.nil (Own.nil h2)⟩)
 intro X K hX hK
 have htm:=hr.time
 obtain ⟨m1,m2,fs,xs,hl,hw⟩:=Sat.book.1 hw
 refine new_rule hw fun b3 w hw=>new_rule hw fun b4 w hw=>?_
 have hw:Sat R (pts p (bookC b m1 m2)::MapAt m1 (fs.map flV)::MapAt m2 (xs.map bkV)::FlsAt fs::BksAt xs::rpNew b4::cmC b3 c sg sp::Hs) w:=by
  have hw:Sat R (rpNew b4::cmC b3 c sg sp::pts p (bookC b m1 m2)::MapAt m1 (fs.map flV)::MapAt m2 (xs.map bkV)::FlsAt fs::BksAt xs::Hs) w:=hw
  exact hw.arr
 refine drw_rule hw fun w hw=>⟨c.time,At.own (fun _ h=>h) (by exact ⟨rfl,trivial⟩),NilP.mk rfl ⟨b.now,At.own (fun _ h=>h) (by exact ⟨rfl,trivial⟩),?_⟩⟩
 refine need_c (fun h=>.inl ⟨rfl,hw,?_⟩) (fun h=>.inr ⟨_,rfl,hX 7 w ?_ ((Sat.book.2 ⟨m1,m2,fs,xs,hl,hw⟩).cons fun _ h=>h.drop.drop)⟩)
 rotate_left
 ·have:=of_decide_eq_false h
  unfold clockB
  rw [if_pos (by omega)]
 have ht:¬ c.time<b.now:=by have:=of_decide_eq_true h;omega
 have hclock:(clockB b c).1=promAll (b.fl.map Pl.n) (ticked b c.time):=by unfold clockB;rw [if_neg ht]
 refine ⟨c.time,At.own (eqS hw) (by exact ⟨rfl,trivial⟩),NilP.mk rfl ?_⟩
 rw [add_off]
 refine store_rule hw (by kernel_rfl) rfl (by simp [Value.cells]) fun w hw=>?_
 have k1:=core_now k htm
 obtain ⟨b1,hb1⟩:∃ b1,b1={ b with now:=c.time }:=⟨_,rfl⟩
 have hw:Sat R (pts p (bookC b1 m1 m2)::MapAt m1 (fs.map flV)::MapAt m2 (xs.map bkV)::FlsAt fs::BksAt xs::rpNew b4::cmC b3 c sg sp::Hs) w:=by
  rw [hb1]
  exact hw.re (pts p (bookC { b with now:=c.time } m1 m2))
 have hl1:BookL b1 fs xs:=by rw [hb1];exact ⟨hl.fl,hl.bk⟩
 rw [←hb1] at k1
 have hL1:b1.L=b.L:=by rw [hb1]
 refine NilP.mk rfl ⟨some m2,At.own (eqS hw) (by exact ⟨rfl,trivial⟩),?_⟩
 have hw:Sat R (MapAt m2 (xs.map bkV)::pts p (bookC b1 m1 m2)::MapAt m1 (fs.map flV)::FlsAt fs::BksAt xs::rpNew b4::cmC b3 c sg sp::Hs) w:=hw.arr
 refine keys_x (sortB_rule k1 hl1 hw ?_)
 clear hw
 intro s w hw
 have hw:Sat R (Own s 3 (intsI (b.L.map Bk.id))::BookAt p b1::rpNew b4::cmC b3 c sg sp::Hs) w:=by
  rw [hL1] at hw
  refine hw.cons fun _ hw=>Sat.book.2 ⟨m1,m2,fs,xs,hl1,?_⟩
  exact hw.arr
 obtain ⟨ids,hids⟩:∃ ids,ids=b.L.map Bk.id:=⟨_,rfl⟩
 have hil:ids.length=b.L.length:=by rw [hids,List.length_map]
 rw [←hids] at hw
 have hLm:=k.many
 refine ⟨fun t w=>∃ (j:Nat) (b':Book),t=j∧j≤b.L.length∧ExpI b c.time j b'∧Sat R (Own s 3 (intsI ids)::BookAt p b'::rpNew b4::cmC b3 c sg sp::Hs) w,fun t _=>b.L.length - t.toNat,⟨0,b1,rfl,Nat.zero_le _,⟨by rw [hb1];rfl,k1,by rw [hb1],fun x hx=>by rw [hL1];exact hx⟩,hw⟩,?_⟩
 clear hw
 rintro _ _ w ⟨j,b',rfl,hj,hi,hw⟩
 have hsl:=Own.len hw
 rw [List.length_map,hil] at hsl
 refine Br.d (fun hlt=>?_) (fun hge=>?_)
 ·have hjl:j<b.L.length:=by omega
  obtain ⟨x,hx⟩:∃ x,x=b.L[j]:=⟨_,rfl⟩
  have hdrop:b.L.drop j=x::b.L.drop (j + 1):=by rw [hx];exact List.drop_eq_getElem_cons hjl
  have hget:∀ h:j<ids.length,ids[j]=x.id:=fun h=>by subst hids;rw [List.getElem_map,hx]
  refine Own.ix hw (eqS hw) j rfl (by omega) ?_
  rw [hget]
  obtain ⟨m1,m2,fs,xs,hl,hw⟩:=Sat.book.1 hw.swap
  have hxL:x∈b'.L:=hi.left x (by rw [hdrop];simp)
  obtain ⟨pl,hat⟩:=hi.core.at_of hxL
  obtain ⟨A,f,q,C,rfl,hm⟩:=fl_split hl hi.core.nums hat
  obtain ⟨A2,a,C2,rfl,hbm⟩:=bk_split hl hi.core.ids hxL
  obtain ⟨MF,hMF⟩:∃ M,M=(A++(f,q,pl)::C).map flV:=⟨_,rfl⟩
  obtain ⟨MB,hMB⟩:∃ M,M=(A2++(a,x)::C2).map bkV:=⟨_,rfl⟩
  have hgetf:getM x.flt MF=some (.agg #[.pointer (some ⟨f,0,none⟩),.pointer (some ⟨q,0,none⟩)]):=by rw [hMF];exact fl_get hm
  have hgetb:getM x.id MB=some (.pointer (some ⟨a,0,none⟩)):=by rw [hMB];exact bk_get hbm
  rw [←hMF,←hMB] at hw
  have hw:Sat R (FlsAt (A++(f,q,pl)::C)::BksAt (A2++(a,x)::C2)::pts p (bookC b' m1 m2)::MapAt m1 MF::MapAt m2 MB::Own s 3 (intsI ids)::rpNew b4::cmC b3 c sg sp::Hs) w:=hw.arr
  have hw:=fls_mid.1 hw
  have hw:Sat R (BksAt (A2++(a,x)::C2)::LoneAt f pl.r::QuAt q pl.q::FlsAt (A++C)::pts p (bookC b' m1 m2)::MapAt m1 MF::MapAt m2 MB::Own s 3 (intsI ids)::rpNew b4::cmC b3 c sg sp::Hs) w:=hw.arr
  have hw:=bks_mid.1 hw
  have hw:Sat R (LoneAt f pl.r::QuAt q pl.q::pts a (bkObj x)::pts p (bookC b' m1 m2)::MapAt m1 MF::MapAt m2 MB::FlsAt (A++C)::BksAt (A2++C2)::Own s 3 (intsI ids)::rpNew b4::cmC b3 c sg sp::Hs) w:=hw.arr
  refine NilP.mk rfl ⟨some m2,At.own (eqS hw) (by exact ⟨rfl,trivial⟩),some ⟨a,0,none⟩,fun w' e=>?_,?_⟩
  ·rw [show w'=w from e]
   have hm1:Sat R (MapAt m2 MB::LoneAt f pl.r::QuAt q pl.q::pts a (bkObj x)::pts p (bookC b' m1 m2)::MapAt m1 MF::FlsAt (A++C)::BksAt (A2++C2)::Own s 3 (intsI ids)::rpNew b4::cmC b3 c sg sp::Hs) w:=hw.arr
   have:=MapAt.look bMap hm1 x.id false
   rw [hgetb] at this
   exact this
  refine ⟨fun t w=>t=old b'.now x∧Sat R (LoneAt f pl.r::QuAt q pl.q::pts a (bkObj x)::pts p (bookC b' m1 m2)::MapAt m1 MF::MapAt m2 MB::FlsAt (A++C)::BksAt (A2++C2)::Own s 3 (intsI ids)::rpNew b4::cmC b3 c sg sp::Hs) w,?_,?_⟩
  ·refine drw_rule hw fun w hw=>NilP.mk rfl ⟨x.state,At.own (fun _ h=>h) (by exact ⟨rfl,trivial⟩),Br.e (fun h1=>?_) (fun h1=>?_)⟩
   ·refine NilP.mk rfl ⟨x.till,At.own (fun _ h=>h) (by exact ⟨rfl,trivial⟩),NilP.mk rfl ⟨b'.now,At.own (fun _ h=>h) (by exact ⟨rfl,trivial⟩),?_,hw⟩⟩
    unfold old
    rw [decide_eq_true h1,Bool.true_and]
   ·refine ⟨?_,hw⟩
    unfold old
    rw [decide_eq_false h1,Bool.false_and]
  clear hw
  rintro _ _ w ⟨rfl,hw⟩
  have hexp:∀ b2,(if old b'.now x then dropB b' x else b')=b2→ticked b c.time=expAll (b.L.drop (j + 1)) b2:=fun b2 e=>by
   rw [hi.res,hdrop,←e]
   rfl
  have hwr:IntKind.i64.wrap ((j:Int) + 1)=((j + 1:Nat):Int):=by rw [wrap64 (by omega) (by omega)];omega
  rw [hwr]
  cases hold:old b'.now x with
  |false=>
   rw [hold] at hexp
   refine Br.f rfl ⟨⟨j + 1,b',rfl,hjl,⟨hexp _ rfl,hi.core,hi.now,fun y hy=>hi.left y (by rw [hdrop];exact List.mem_cons_of_mem _ hy)⟩,?_⟩,by dsimp only;omega⟩
   have hw:=open_close hl hMF hMB hw
   exact hw.swap
  |true=>
   rw [hold] at hexp
   have hst:x.state=1:=by
    unfold old at hold
    simp only [Bool.and_eq_true,decide_eq_true_eq] at hold
    exact hold.1
   refine Br.t rfl ?_
   refine drw_rule' (Sat R [pts p (bookC b' m1 m2),pts a (bkObj x),MapAt m1 MF,VC.tru]) hw (fun w hw=>?_) fun w hw=>?_
   ·exact (hw.arr (Hs':=pts p (bookC b' m1 m2)::pts a (bkObj x)::MapAt m1 MF::LoneAt f pl.r::QuAt q pl.q::MapAt m2 MB::FlsAt (A++C)::BksAt (A2++C2)::Own s 3 (intsI ids)::rpNew b4::cmC b3 c sg sp::Hs)).cons fun _ h=>h.cons fun _ h=>h.restTru2
   refine NilP.mk rfl ⟨some m1,At.own (fun _ h=>h) (by exact ⟨rfl,trivial⟩),NilP.mk rfl ⟨x.flt,At.own (fun _ h=>h) (by exact ⟨rfl,trivial⟩),some ⟨f,0,none⟩,some ⟨q,0,none⟩,fun w' h=>?_,?_⟩⟩
   ·have hm1:Sat R (MapAt m1 MF::pts p (bookC b' m1 m2)::pts a (bkObj x)::[VC.tru]) w':=Sat.arr h
    have:=MapAt.look pMap hm1 x.flt false
    rw [hgetf] at this
    exact this
   refine (lone_give hw).use ?_
   clear hw
   rintro _ w ⟨rfl,hw⟩
   refine .inl ⟨_,rfl,?_,NilP.mk rfl ⟨some m2,At.own (eqS hw) (by exact ⟨rfl,trivial⟩),?_⟩⟩
   ·exact (hw.arr (Hs':=pts p (bookC b' m1 m2)::pts a (bkObj x)::MapAt m1 MF::LoneAt f (rgiveF pl.r x.id).1::QuAt q pl.q::MapAt m2 MB::FlsAt (A++C)::BksAt (A2++C2)::Own s 3 (intsI ids)::rpNew b4::cmC b3 c sg sp::Hs)).cons fun _ h=>h.cons fun _ h=>h.restTru2
   have hw:Sat R (LoneAt f (giveP x.id pl).r::QuAt q (giveP x.id pl).q::pts a (bkObj x)::pts p (bookC (dropB b' x) m1 m2)::MapAt m1 MF::MapAt m2 MB::FlsAt (A++C)::BksAt (A2++C2)::Own s 3 (intsI ids)::rpNew b4::cmC b3 c sg sp::Hs) w:=hw
   have hw:Sat R (MapAt m2 MB::LoneAt f (giveP x.id pl).r::QuAt q (giveP x.id pl).q::pts a (bkObj x)::pts p (bookC (dropB b' x) m1 m2)::MapAt m1 MF::FlsAt (A++C)::BksAt (A2++C2)::Own s 3 (intsI ids)::rpNew b4::cmC b3 c sg sp::Hs) w:=hw.arr
   refine MapAt.del bMap hw x.id fun w hw=>?_
   rw [hMB,bk_vdel hbm] at hw
   have hn2:(giveP x.id pl).n=x.flt:=(give_num (r:=pl.r) (o:=x.id)).1.trans hm.num
   have hl2:BookL (dropB b' x) (A++(f,q,giveP x.id pl)::C) (A2++C2):=⟨hl.fset hm (giveP x.id),hl.bdel hi.core.ids⟩
   have hMF2:MF=(A++(f,q,giveP x.id pl)::C).map flV:=by rw [hMF];exact fl_vals hn2 hm.num
   have hlater:∀ y∈b.L.drop (j + 1),y.id≠x.id:=fun y hy=>by
    have h1:=k.ids.sublist (List.drop_sublist j b.L)
    rw [hdrop] at h1
    have:=(List.pairwise_cons.1 h1).1 y hy
    omega
   refine ⟨⟨j + 1,dropB b' x,rfl,hjl,⟨hexp _ rfl,core_drop hi.core hxL (by omega),hi.now,fun y hy=>?_⟩,?_⟩,by dsimp only;omega⟩
   ·exact mem_kdel.2 ⟨hi.left y (by rw [hdrop];exact List.mem_cons_of_mem _ hy),hlater y hy⟩
   ·have hw:Sat R (LoneAt f (giveP x.id pl).r::QuAt q (giveP x.id pl).q::pts p (bookC (dropB b' x) m1 m2)::MapAt m1 MF::MapAt m2 ((A2++C2).map bkV)::FlsAt (A++C)::BksAt (A2++C2)::Own s 3 (intsI ids)::pts a (bkObj x)::rpNew b4::cmC b3 c sg sp::Hs) w:=hw.arr
    have hw:=book_close hl2 hMF2 rfl hw
    exact hw.swap.cons fun _ h=>h.cons fun _ h=>h.drop
 ·have hje:j=b.L.length:=by omega
  subst hje
  have htk:ticked b c.time=b':=by rw [hi.res,List.drop_length];rfl
  obtain ⟨m1,m2,fs,xs,hl,hw⟩:=Sat.book.1 hw.swap
  refine NilP.mk rfl ⟨some m1,At.own (eqS hw) (by exact ⟨rfl,trivial⟩),?_⟩
  have hw:Sat R (MapAt m1 (fs.map flV)::pts p (bookC b' m1 m2)::MapAt m2 (xs.map bkV)::FlsAt fs::BksAt xs::Own s 3 (intsI ids)::rpNew b4::cmC b3 c sg sp::Hs) w:=hw.arr
  refine keys_x (sortF_rule hi.core hl hw ?_)
  clear hw
  intro s2 w hw
  obtain ⟨ns,hns⟩:∃ ns,ns=b'.fl.map Pl.n:=⟨_,rfl⟩
  rw [←hns] at hw
  have hnl:ns.length≤8:=by rw [hns,List.length_map];exact hi.core.few
  have hkeys:=(ticked_ok k htm).2.2.2.2
  rw [htk,←hns] at hkeys
  rw [←hkeys,htk] at hclock
  have hw:Sat R (Own s2 3 (intsI ns)::BookAt p b'::Own s 3 (intsI ids)::rpNew b4::cmC b3 c sg sp::Hs) w:=by
   refine hw.cons fun _ hw=>Sat.book.2 ⟨m1,m2,fs,xs,hl,?_⟩
   exact hw.arr
  refine ⟨fun t w=>∃ (j:Nat) (b2:Book),t=j∧j≤ns.length∧PromA ns c.time b' j b2∧Sat R (Own s2 3 (intsI ns)::BookAt p b2::Own s 3 (intsI ids)::rpNew b4::cmC b3 c sg sp::Hs) w,fun t _=>ns.length - t.toNat,⟨0,b',rfl,Nat.zero_le _,⟨rfl,hi.core,hi.now,hns.symm⟩,hw⟩,?_⟩
  clear hw
  rintro _ _ w ⟨j,b2,rfl,hj,hi2,hw⟩
  have hsl2:=Own.len hw
  rw [List.length_map] at hsl2
  refine Br.d (fun hlt=>?_) (fun hge=>?_)
  ·have hjl:j<ns.length:=by omega
   obtain ⟨n,hn⟩:∃ n,n=ns[j]:=⟨_,rfl⟩
   have hdrop:ns.drop j=n::ns.drop (j + 1):=by rw [hn];exact List.drop_eq_getElem_cons hjl
   refine Own.ix hw (eqS hw) j rfl hjl ?_
   rw [←hn]
   have hwr:IntKind.i64.wrap ((j:Int) + 1)=((j + 1:Nat):Int):=by rw [wrap64 (by omega) (by omega)];omega
   rw [hwr]
   refine (prom_book hi2.core (by rw [hi2.nums,hn];exact List.getElem_mem hjl) hw.swap).use ?_
   clear hw
   rintro _ w ⟨rfl,hw⟩
   have hok:=promote_ok (n:=n) hi2.core
   refine .inl ⟨rfl,⟨j + 1,promote n b2,rfl,hjl,⟨?_,hok.1,hok.2.1.now.trans hi2.now,hok.2.1.keys.trans hi2.nums⟩,hw.swap⟩,by dsimp only;omega⟩
   rw [hi2.res,hdrop]
   rfl
  ·have hje:j=ns.length:=by omega
   subst hje
   have hfin:promAll ns b'=b2:=by rw [hi2.res,List.drop_length];rfl
   rw [hfin] at hclock
   obtain ⟨m1,m2,fs,xs,hl,hw⟩:=Sat.book.1 hw.swap
   refine NilP.mk rfl ⟨b2.now,At.own (eqS hw) (by exact ⟨rfl,trivial⟩),?_⟩
   rw [hi2.now]
   have hw:Sat R (rpNew b4::pts p (bookC b2 m1 m2)::MapAt m1 (fs.map flV)::MapAt m2 (xs.map bkV)::FlsAt fs::BksAt xs::Own s2 3 (intsI ns)::Own s 3 (intsI ids)::cmC b3 c sg sp::Hs) w:=hw.arr
   refine store_rule hw (by kernel_rfl) rfl (by simp [Value.cells]) fun w hw=>?_
   have hw:=hw.re (rpC b4 ⟨0,emS,0,0,0,0,c.time,[],[]⟩ nilSl nilSl)
   refine ⟨_,_,_,_,_,_,_,nilSl,nilSl,At.own (eqS hw) (by exact ⟨rfl,rfl,rfl,rfl,rfl,rfl,rfl,rfl,rfl,trivial⟩),hK w ht ?_⟩
   rw [hclock]
   exact (Sat.book.2 ⟨m1,m2,fs,xs,hl,hw.drop⟩).cons fun _ h=>h.drop.drop.drop
end Go.Proofs.YtflgboncpbmikaaGreatDoor
/- Package booking: Show, Apply. Condition: bounds. -/
namespace Go.Proofs.YtflgboncpbmikaaGreatDoor
set_option linter.unusedVariables false
set_option linter.unusedSimpArgs false
open Go Go.VC
open Classical
variable {R:Cx} {Hs Rest:List HP} {w:World}
abbrev cmA (c:Cm) (sg sp:Sl):Value:=.agg #[.int .i64 c.kind,.string c.pnr,.int .i64 c.flt,.int .i64 c.cls,.int .i64 c.many,.int .i64 c.time,.float .f64 c.sc,.string c.lab,.int .i64 c.rows,.slice sg.a sg.len sg.cap,.slice sp.a sp.len sp.cap]
abbrev RetK (b4:Nat) (K:Value→World→Prop) (w:World):Prop:=
 ∃ u:Int,∃ u1:ByteArray,∃ u2:Int,∃ u3:Int,∃ u4:Int,∃ u5:Int,∃ u6:Int,∃ u7:Sl,∃ u8:Sl,(At (fun w'=>w'=w) ⟨b4,0,none⟩ [.int .i64 u,.string u1,.int .i64 u2,.int .i64 u3,.int .i64 u4,.int .i64 u5,.int .i64 u6,.slice u7.a u7.len u7.cap,.slice u8.a u8.len u8.cap])∧
  K (.agg #[.int .i64 u,.string u1,.int .i64 u2,.int .i64 u3,.int .i64 u4,.int .i64 u5,.int .i64 u6,.slice u7.a u7.len u7.cap,.slice u8.a u8.len u8.cap]) w
theorem retK {b4:Nat} {r:Rp} {sl sb:Sl} {K:Value→World→Prop} (hw:Sat R (rpC b4 r sl sb::Hs) w) (k:K (.agg (rpV r sl sb).toArray) w):RetK b4 K w:=
 ⟨_,_,_,_,_,_,_,sl,sb,At.own (eqS hw) (by exact ⟨rfl,rfl,rfl,rfl,rfl,rfl,rfl,rfl,rfl,trivial⟩),k⟩
theorem reply_ok {b4:Nat} {r r0:Rp} {sl sb l0 b0:Sl} {K:Value→World→Prop} (hw:Sat R (rpC b4 r0 l0 b0::Hs) w) (k:∀ w',Sat R Hs w'→K (.agg (rpV r sl sb).toArray) w'):
  ∃ t0:Int,∃ t1:ByteArray,∃ t2:Int,∃ t3:Int,∃ t4:Int,∃ t5:Int,∃ t6:Int,∃ t7:Sl,∃ t8:Sl,(Ending.returned (.agg (rpV r sl sb).toArray)=.returned (.agg #[.int .i64 t0,.string t1,.int .i64 t2,.int .i64 t3,.int .i64 t4,.int .i64 t5,.int .i64 t6,.slice t7.a t7.len t7.cap,.slice t8.a t8.len t8.cap]))∧
   ∃ w_6:World,((Instr.storeAt 102 (.pointer ((some ⟨b4,0,none⟩))) (.agg #[.int .i64 t0,.string t1,.int .i64 t2,.int .i64 t3,.int .i64 t4,.int .i64 t5,.int .i64 t6,.slice t7.a t7.len t7.cap,.slice t8.a t8.len t8.cap])).run Tryz.prog w=.ok () w_6)∧
    LeaveF Tryz.prog 44 [.pointer ((some ⟨b4,0,none⟩))] .returning (RetK b4 K) w_6:=by
 refine ⟨_,_,_,_,_,_,_,sl,sb,rfl,?_⟩
 refine store_rule hw (by kernel_rfl) rfl (by simp [Value.cells]) fun w hw=>?_
 have hw:=hw.re (rpC b4 r sl sb)
 exact caughtR (retK hw (k w hw.drop))
theorem reply_err {b4:Nat} {r0:Rp} {l0 b0:Sl} {e:Int} {K:Value→World→Prop} (hw:Sat R (rpC b4 r0 l0 b0::Hs) w) (k:∀ w',Sat R Hs w'→K (.agg (rpV (errR e) nilSl nilSl).toArray) w'):
  LeaveF Tryz.prog 44 [.pointer ((some ⟨b4,0,none⟩))] (.panicking (errP e)) (RetK b4 K) w:=
 caughtP hw fun w hw=>retK hw (k w hw.drop)
theorem rpNew_c {b4:Nat} (hw:Sat R (rpNew b4::Hs) w):Sat R (rpC b4 ⟨0,emS,0,0,0,0,0,[],[]⟩ nilSl nilSl::Hs) w:=hw
def BookOp (p a:Nat) (b:Book) (x:Bk) (R:Cx) (Hs:List HP) (w:World):Prop:=∃ (m1 m2:Nat) (fs:List FE) (A2 C2:List BE),BookL b fs (A2++(a,x)::C2)∧BkMid A2 C2 x∧
 Sat R (pts p (bookC b m1 m2)::MapAt m1 (fs.map flV)::MapAt m2 ((A2++(a,x)::C2).map bkV)::FlsAt fs::BksAt (A2++(a,x)::C2)::Hs) w
theorem named_book {p:Nat} {b:Book} {s:ByteArray} (k:Core b) (hw:Sat R (BookAt p b::Hs) w):
  GetsX Tryz.prog 52 #[.pointer (some ⟨p,0,none⟩),.string s] w
   (fun ch w'=>∃ e,ch=errP e∧namedB b s=(none,e)∧Sat R (BookAt p b::Hs) w')
   (fun v w'=>∃ a x,v=.pointer (some ⟨a,0,none⟩)∧namedB b s=(some x,0)∧x∈b.L∧BookOp p a b x R Hs w'):=by
 obtain ⟨m1,m2,fs,xs,hl,hw⟩:=Sat.book.1 hw
 have hw:Sat R (pts p (bookC b m1 m2)::MapAt m2 (xs.map bkV)::MapAt m1 (fs.map flV)::FlsAt fs::BksAt xs::Hs) w:=hw.arr
 refine (bnamed_spec hw).use ?_ ?_
 ·clear hw
  rintro _ w ⟨⟨v1,h0,hg,rfl⟩,hw⟩
  refine .inl ⟨_,rfl,?_⟩
  cases hbk:b.bk (locRd (bytesL s)).1 with
  |none=>rw [(bk_none hl).2 hbk] at hg;cases hg
  |some x=>
   have hx:=(bk_iff k).1 hbk
   obtain ⟨A2,a,C2,rfl,hbm⟩:=bk_split hl k.ids hx.1
   have:=bk_get (a:=a) hbm
   rw [hx.2,hg] at this
   simp only [Option.some.injEq,Value.pointer.injEq] at this
   subst this
   refine ⟨a,x,rfl,?_,hx.1,m1,m2,fs,A2,C2,hl,hbm,?_⟩
   ·unfold namedB
    rw [if_neg (fun h=>h h0),hbk]
   ·exact hw.arr
 ·clear hw
  rintro _ w ⟨⟨e,rfl,he⟩,hw⟩
  refine .inr ⟨_,rfl,e,rfl,?_,Sat.book.2 ⟨m1,m2,fs,xs,hl,?_⟩⟩
  ·rcases he with ⟨h0,rfl⟩|⟨h0,rfl,hg⟩
   ·unfold namedB
    rw [if_pos h0]
   ·unfold namedB
    rw [if_neg (fun h=>h h0),(bk_none hl).1 hg]
  ·exact hw.arr
theorem BookOp.close {p a:Nat} {b:Book} {x:Bk} (h:BookOp p a b x R Hs w):Sat R (BookAt p b::Hs) w:=by
 obtain ⟨m1,m2,fs,A2,C2,hl,_,hw⟩:=h
 exact Sat.book.2 ⟨m1,m2,fs,_,hl,hw⟩
theorem told_book {p a:Nat} {b:Book} {x:Bk} (k:Core b) (h:BookOp p a b x R Hs w):
  Gets Tryz.prog 82 #[.pointer (some ⟨p,0,none⟩),.pointer (some ⟨a,0,none⟩)] w fun v w'=>∃ sl sb:Sl,v=.agg (rpV (tellB b x) sl sb).toArray∧
   Sat R (Own sl 3 (intsI (tellB b x).left)::Own sb 9 ((tellB b x).labs.map Value.string)::BookAt p b::Hs) w':=by
 obtain ⟨m1,m2,fs,A2,C2,hl,hbm,hw⟩:=h
 have hxL:x∈b.L:=by rw [←hl.bk];exact List.mem_map.2 ⟨(a,x),by simp,rfl⟩
 have hnx:=k.next
 have hbk:=(k.each x hxL).id
 obtain ⟨pl,hat⟩:=k.at_of hxL
 obtain ⟨A,f,q,C,rfl,hm⟩:=fl_split hl k.nums hat
 have htell:tellB b x=tellP pl x:=by unfold tellB;rw [hat]
 rw [htell]
 obtain ⟨MF,hMF⟩:∃ M,M=(A++(f,q,pl)::C).map flV:=⟨_,rfl⟩
 obtain ⟨MB,hMB⟩:∃ M,M=(A2++(a,x)::C2).map bkV:=⟨_,rfl⟩
 rw [←hMF,←hMB] at hw
 have hw:Sat R (FlsAt (A++(f,q,pl)::C)::BksAt (A2++(a,x)::C2)::pts p (bookC b m1 m2)::MapAt m1 MF::MapAt m2 MB::Hs) w:=hw.arr
 have hw:=fls_mid.1 hw
 have hw:Sat R (BksAt (A2++(a,x)::C2)::LoneAt f pl.r::QuAt q pl.q::FlsAt (A++C)::pts p (bookC b m1 m2)::MapAt m1 MF::MapAt m2 MB::Hs) w:=hw.arr
 have hw:=bks_mid.1 hw
 have hw:Sat R (pts p (bookC b m1 m2)::MapAt m1 MF::pts a (bkObj x)::LoneAt f pl.r::QuAt q pl.q::MapAt m2 MB::FlsAt (A++C)::BksAt (A2++C2)::Hs) w:=hw.arr
 rw [hMF] at hw
 refine (told_spec (by omega) hm hw).use ?_
 clear hw
 rintro _ w ⟨sl,sb,rfl,hw⟩
 refine ⟨_,rfl,sl,sb,rfl,?_⟩
 refine hw.cons fun _ hw=>hw.cons fun _ hw=>?_
 rw [←hMF] at hw
 have hw:Sat _ (LoneAt f pl.r::QuAt q pl.q::pts a (bkObj x)::pts p (bookC b m1 m2)::MapAt m1 MF::MapAt m2 MB::FlsAt (A++C)::BksAt (A2++C2)::Hs) w:=hw.arr
 exact open_close hl hMF hMB hw
set_option maxHeartbeats 1000000 in
theorem show_spec {p:Nat} {b:Book} {c:Cm} {sg sp:Sl} (k:Core b) (hg:RoI R sg c.grps) (hgl:c.grps.length≤17592186043904) (hp:sp.len=c.parts.length) (hw:Sat R (BookAt p b::Hs) w):
  Gets Tryz.prog 50 #[.pointer (some ⟨p,0,none⟩),cmA c sg sp] w
   fun v w'=>∃ sl sb:Sl,v=.agg (rpV (showB b c) sl sb).toArray∧Sat R (Own sl 3 (intsI (showB b c).left)::Own sb 9 ((showB b c).labs.map Value.string)::BookAt p b::Hs) w':=by
 apply call50
 suffices H:∀ K:Value→World→Prop,(∀ sl sb w',Sat R (Own sl 3 (intsI (showB b c).left)::Own sb 9 ((showB b c).labs.map Value.string)::BookAt p b::Hs) w'→K (.agg (rpV (showB b c) sl sb).toArray) w')→B50 (some ⟨p,0,none⟩) c.kind c.pnr c.flt c.cls c.many c.time c.sc c.lab c.rows sg sp K w from
  H _ (fun sl sb w' h=>⟨sl,sb,rfl,h⟩)
 intro K hK
 have hKe:∀ e w',showB b c=errR e→Sat R (BookAt p b::Hs) w'→K (.agg (rpV (errR e) nilSl nilSl).toArray) w':=fun e w' he hw=>by
  have:=hK nilSl nilSl w'
  rw [he] at this
  exact this (Own.nil (Own.nil hw))
 refine new_rule hw fun b3 w hw=>new_rule hw fun b4 w hw=>?_
 have hw:Sat R (rpNew b4::cmC b3 c sg sp::BookAt p b::Hs) w:=hw
 refine ⟨fun w=>(RightC c∧c.kind=9)∧Sat R (rpNew b4::cmC b3 c sg sp::BookAt p b::Hs) w,?_,?_⟩
 ·refine ⟨c.kind,c.pnr,c.flt,c.cls,c.many,c.time,c.sc,c.lab,c.rows,sg,sp,At.own (eqS hw) (by exact ⟨rfl,rfl,rfl,rfl,rfl,rfl,rfl,rfl,rfl,rfl,rfl,trivial⟩),?_⟩
  refine (bright_spec hg hgl hp hw).use ?_
  clear hw
  rintro _ w ⟨rfl,hw⟩
  refine .inl ⟨_,rfl,Br.d (fun hr=>?_) (fun hr=>?_)⟩
  ·refine ⟨c.kind,At.own (eqS hw) (by exact ⟨rfl,trivial⟩),?_⟩
   refine need_c (fun h=>.inl ⟨rfl,⟨hr,by simpa using h⟩,hw⟩) (fun h=>.inr ⟨_,rfl,reply_err (rpNew_c hw) fun w hw=>hKe 1 w ?_ hw.drop⟩)
   unfold showB
   rw [if_pos (.inr (by simpa using h))]
  ·refine need_c (fun h=>by cases h) (fun h=>.inr ⟨_,rfl,reply_err (rpNew_c hw) fun w hw=>hKe 1 w ?_ hw.drop⟩)
   unfold showB
   rw [if_pos (.inl hr)]
 clear hw
 rintro _ w ⟨hr,hw⟩
 have hno:¬ (¬ RightC c∨c.kind≠9):=fun h=>h.elim (fun h=>h hr.1) (fun h=>h hr.2)
 refine ⟨c.pnr,At.own (eqS hw) (by exact ⟨rfl,trivial⟩),Br.sne (fun hs=>?_) (fun hs=>?_)⟩
 ·refine ⟨c.pnr,At.own (eqS hw) (by exact ⟨rfl,trivial⟩),?_⟩
  have hs':c.pnr≠emS:=hs
  have hshow:∀ y,namedB b c.pnr=y→showB b c=(match y with|(none,e)=>errR e|(some x,_)=>tellB b x):=fun y hy=>by
   unfold showB
   rw [if_neg hno,if_pos hs',hy]
   obtain ⟨o,e⟩:=y
   cases o<;>rfl
  have hw:Sat R (BookAt p b::rpNew b4::cmC b3 c sg sp::Hs) w:=hw.arr
  refine (named_book k hw).use ?_ ?_
  ·clear hw
   rintro _ w ⟨a,x,rfl,hn,hxL,hw⟩
   have hsh:=hshow _ hn
   refine .inl ⟨_,rfl,?_⟩
   refine (told_book k hw).use ?_
   clear hw
   rintro _ w ⟨sl,sb,rfl,hw⟩
   refine .inl ?_
   have hw:Sat R (rpNew b4::Own sl 3 (intsI (tellB b x).left)::Own sb 9 ((tellB b x).labs.map Value.string)::BookAt p b::cmC b3 c sg sp::Hs) w:=hw.arr
   refine reply_ok (rpNew_c hw) fun w hw=>?_
   have:=hK sl sb w
   rw [hsh] at this
   exact this (hw.cons fun _ h=>h.cons fun _ h=>h.cons fun _ h=>h.drop)
  ·clear hw
   rintro _ w ⟨e,rfl,hn,hw⟩
   have hw:Sat R (rpNew b4::BookAt p b::cmC b3 c sg sp::Hs) w:=hw.swap
   exact .inr ⟨_,rfl,reply_err (rpNew_c hw) fun w hw=>hKe e w (hshow _ hn) (hw.cons fun _ h=>h.drop)⟩
 ·have hs':¬ c.pnr≠emS:=fun h=>h hs
  have hshow:∀ y,b.at c.flt=y→showB b c=(match y with|none=>errR 2|some p=>⟨0,emS,0,c.flt,0,(p.q.length:Int),0,rleftsF p.r,[]⟩):=fun y hy=>by
   unfold showB
   rw [if_neg hno,if_neg hs',hy]
   cases y<;>rfl
  refine ⟨c.flt,At.own (eqS hw) (by exact ⟨rfl,trivial⟩),?_⟩
  have hw:Sat R (BookAt p b::rpNew b4::cmC b3 c sg sp::Hs) w:=hw.arr
  obtain ⟨m1,m2,fs,xs,hl,hw⟩:=Sat.book.1 hw
  refine (bat_spec hw).use ?_ ?_
  ·clear hw
   rintro _ w ⟨⟨v1,v2,hgm,rfl⟩,hw⟩
   obtain ⟨A,f,q,C,pl,rfl,hm,hat,hv⟩:=fl_found hl k hgm
   simp only [Value.agg.injEq,Array.mk.injEq,List.cons.injEq,Value.pointer.injEq,and_true] at hv
   obtain ⟨rfl,rfl⟩:=hv
   have hsh:=hshow _ hat
   have hpl:=at_some hat
   have hqok:=k.qok pl hpl.1
   obtain ⟨MF,hMF⟩:∃ M,M=(A++(f,q,pl)::C).map flV:=⟨_,rfl⟩
   obtain ⟨MB,hMB⟩:∃ M,M=xs.map bkV:=⟨_,rfl⟩
   rw [←hMF,←hMB] at hw
   have hw:Sat R (FlsAt (A++(f,q,pl)::C)::cmC b3 c sg sp::rpNew b4::pts p (bookC b m1 m2)::MapAt m1 MF::MapAt m2 MB::BksAt xs::Hs) w:=hw.arr
   have hw:=fls_mid.1 hw
   refine .inl ⟨_,_,rfl,?_⟩
   refine new_rule hw fun b5 w hw=>?_
   refine store_rule hw (by kernel_rfl) rfl (by simp [Value.cells]) fun w hw=>?_
   have hw:=hw.re (fqC b5 f q)
   have toS:∀ {A:List HP} {R:Cx} {w:World},Sat R (cmC b3 c sg sp::fqC b5 f q::A) w→Sat R [cmC b3 c sg sp,fqC b5 f q,VC.tru] w:=fun h=>h.cons fun _ h=>h.restTru2
   refine drw_rule' (Sat R [cmC b3 c sg sp,fqC b5 f q,VC.tru]) hw (fun w hw=>?_) fun w hw=>?_
   ·exact toS (hw.arr (Hs':=cmC b3 c sg sp::fqC b5 f q::LoneAt f pl.r::QuAt q pl.q::FlsAt (A++C)::rpNew b4::pts p (bookC b m1 m2)::MapAt m1 MF::MapAt m2 MB::BksAt xs::Hs))
   refine ⟨c.flt,At.own (fun _ h=>h) (by exact ⟨rfl,trivial⟩),some ⟨f,0,none⟩,At.own (fun _ h=>h) (by exact ⟨rfl,trivial⟩),some ⟨q,0,none⟩,At.own (fun _ h=>h) (by exact ⟨rfl,trivial⟩),?_⟩
   refine (lone_left hw.swap).use ?_
   clear hw
   rintro _ w ⟨sl,rfl,hw⟩
   refine .inl ⟨sl,rfl,?_,?_⟩
   ·exact toS (hw.arr (Hs':=cmC b3 c sg sp::fqC b5 f q::Own sl 3 (intsI (rleftsF pl.r))::LoneAt f pl.r::QuAt q pl.q::FlsAt (A++C)::rpNew b4::pts p (bookC b m1 m2)::MapAt m1 MF::MapAt m2 MB::BksAt xs::Hs))
   have hw:Sat R (QuAt q pl.q::Own sl 3 (intsI (rleftsF pl.r))::LoneAt f pl.r::FlsAt (A++C)::cmC b3 c sg sp::fqC b5 f q::rpNew b4::pts p (bookC b m1 m2)::MapAt m1 MF::MapAt m2 MB::BksAt xs::Hs) w:=hw.arr
   refine (qall_spec (by have:=hqok.len;omega) hw).use ?_
   clear hw
   rintro _ w ⟨t,rfl,hw⟩
   have htl:=OwnN.len hw
   rw [List.length_map] at htl
   have hw:=hw.drop
   refine .inl ⟨t,rfl,?_,?_⟩
   ·exact toS (hw.arr (Hs':=cmC b3 c sg sp::fqC b5 f q::QuAt q pl.q::Own sl 3 (intsI (rleftsF pl.r))::LoneAt f pl.r::FlsAt (A++C)::rpNew b4::pts p (bookC b m1 m2)::MapAt m1 MF::MapAt m2 MB::BksAt xs::Hs))
   rw [htl]
   have hw:Sat R (rpNew b4::Own sl 3 (intsI (rleftsF pl.r))::LoneAt f pl.r::QuAt q pl.q::pts p (bookC b m1 m2)::MapAt m1 MF::MapAt m2 MB::FlsAt (A++C)::BksAt xs::cmC b3 c sg sp::fqC b5 f q::Hs) w:=hw.arr
   refine store_rule hw (by kernel_rfl) rfl (by simp [Value.cells]) fun w hw=>?_
   have hw:=hw.re (rpC b4 ⟨0,emS,0,c.flt,0,(pl.q.length:Int),0,rleftsF pl.r,[]⟩ sl nilSl)
   refine caughtR (retK hw ?_)
   have:=hK sl nilSl w
   rw [hsh] at this
   refine this ?_
   refine hw.drop.cons fun _ hw=>Own.nil ?_
   exact (book_close hl hMF hMB hw).cons fun _ h=>h.drop.drop
  ·clear hw
   rintro _ w ⟨rfl,hno2,hw⟩
   have hw:Sat R (rpNew b4::cmC b3 c sg sp::pts p (bookC b m1 m2)::MapAt m1 (fs.map flV)::MapAt m2 (xs.map bkV)::FlsAt fs::BksAt xs::Hs) w:=hw.arr
   refine .inr ⟨_,rfl,reply_err (rpNew_c hw) fun w hw=>hKe 2 w (hshow _ ((fl_none hl).1 hno2)) (Sat.book.2 ⟨m1,m2,fs,xs,hl,hw.drop⟩)⟩
theorem apply_part {g:FuncId} {ars:Array Value} {p b3 b4:Nat} {b nb:Book} {c:Cm} {res:Rp} {sg sp:Sl} {K:Value→World→Prop}
  (h:GetsX Tryz.prog g ars w (fun ch w'=>∃ e,ch=errP e∧(nb,res)=(b,errR e)∧Sat R (BookAt p b::rpNew b4::cmC b3 c sg sp::Hs) w')
   (fun v w'=>∃ sl sb:Sl,v=.agg (rpV res sl sb).toArray∧Sat R (Own sl 3 (intsI res.left)::Own sb 9 (res.labs.map Value.string)::BookAt p nb::rpNew b4::cmC b3 c sg sp::Hs) w'))
  (hK:∀ sl sb w',Sat R (Own sl 3 (intsI res.left)::Own sb 9 (res.labs.map Value.string)::BookAt p nb::Hs) w'→K (.agg (rpV res sl sb).toArray) w'):
  Calls Tryz.prog g ars w fun e w_5=>
   (∃ t0:Int,∃ t1:ByteArray,∃ t2:Int,∃ t3:Int,∃ t4:Int,∃ t5:Int,∃ t6:Int,∃ t7:Sl,∃ t8:Sl,(e=.returned (.agg #[.int .i64 t0,.string t1,.int .i64 t2,.int .i64 t3,.int .i64 t4,.int .i64 t5,.int .i64 t6,.slice t7.a t7.len t7.cap,.slice t8.a t8.len t8.cap]))∧
    ∃ w_6:World,((Instr.storeAt 102 (.pointer ((some ⟨b4,0,none⟩))) (.agg #[.int .i64 t0,.string t1,.int .i64 t2,.int .i64 t3,.int .i64 t4,.int .i64 t5,.int .i64 t6,.slice t7.a t7.len t7.cap,.slice t8.a t8.len t8.cap])).run Tryz.prog w_5=.ok () w_6)∧
    LeaveF Tryz.prog 44 [.pointer ((some ⟨b4,0,none⟩))] .returning (fun w_7=>RetK b4 K w_7) w_6)∨
   (∃ ch:List PanicEntry,(e=.panicked ch)∧LeaveF Tryz.prog 44 [.pointer ((some ⟨b4,0,none⟩))] (.panicking ch) (fun w_8=>RetK b4 K w_8) w_5):=by
 refine h.use ?_ ?_
 ·rintro _ w ⟨sl,sb,rfl,hw⟩
  have hw:Sat R (rpNew b4::Own sl 3 (intsI res.left)::Own sb 9 (res.labs.map Value.string)::BookAt p nb::cmC b3 c sg sp::Hs) w:=hw.arr
  exact .inl (reply_ok (rpNew_c hw) fun w hw=>hK sl sb w (hw.cons fun _ h=>h.cons fun _ h=>h.cons fun _ h=>h.drop))
 ·rintro _ w ⟨e,rfl,he,hw⟩
  have h1:=congrArg Prod.fst he
  have h2:=congrArg Prod.snd he
  dsimp only at h1 h2
  subst h1 h2
  exact .inr ⟨_,rfl,reply_err (rpNew_c hw.swap) fun w hw=>hK nilSl nilSl w (Own.nil (Own.nil (hw.cons fun _ h=>h.drop)))⟩
set_option maxHeartbeats 2000000 in
theorem apply_spec {p:Nat} {b:Book} {c:Cm} {sg sp:Sl} (k:BookOk b) (hsc:c.sc<18446744073709551616) (hg:RoI R sg c.grps) (hgl:c.grps.length≤17592186043904) (hp:SlR R.m sp (flts c.parts)) (hw:Sat R (BookAt p b::Hs) w):
  Gets Tryz.prog 28 #[.pointer (some ⟨p,0,none⟩),cmA c sg sp] w
   fun v w'=>∃ sl sb:Sl,v=.agg (rpV (applyB b c).2 sl sb).toArray∧Sat R (Own sl 3 (intsI (applyB b c).2.left)::Own sb 9 ((applyB b c).2.labs.map Value.string)::BookAt p (applyB b c).1::Hs) w':=by
 have hplen:sp.len=c.parts.length:=by have:=hp.len;simpa using this
 apply call28
 suffices H:∀ K:Value→World→Prop,(∀ sl sb w',Sat R (Own sl 3 (intsI (applyB b c).2.left)::Own sb 9 ((applyB b c).2.labs.map Value.string)::BookAt p (applyB b c).1::Hs) w'→K (.agg (rpV (applyB b c).2 sl sb).toArray) w')→B28 (some ⟨p,0,none⟩) c.kind c.pnr c.flt c.cls c.many c.time c.sc c.lab c.rows sg sp K w from
  H _ (fun sl sb w' h=>⟨sl,sb,rfl,h⟩)
 intro K hK
 refine new_rule hw fun b3 w hw=>new_rule hw fun b4 w hw=>?_
 have hw:Sat R (rpNew b4::cmC b3 c sg sp::BookAt p b::Hs) w:=hw
 refine ⟨c.kind,c.pnr,c.flt,c.cls,c.many,c.time,c.sc,c.lab,c.rows,sg,sp,At.own (eqS hw) (by exact ⟨rfl,rfl,rfl,rfl,rfl,rfl,rfl,rfl,rfl,rfl,rfl,trivial⟩),?_⟩
 refine (bright_spec hg hgl hplen hw).use ?_
 clear hw
 rintro _ w ⟨rfl,hw⟩
 refine .inl ⟨_,rfl,need_c (fun h=>.inl ⟨rfl,?_⟩) (fun h=>.inr ⟨_,rfl,?_⟩)⟩
 rotate_left
 ·have hr:¬ RightC c:=of_decide_eq_false h
  have e:applyB b c=(b,errR 1):=by unfold applyB;rw [if_pos hr]
  rw [e] at hK
  exact reply_err (rpNew_c hw) fun w hw=>hK nilSl nilSl w (Own.nil (Own.nil hw.drop))
 have hr:RightC c:=of_decide_eq_true h
 have hrr:¬ ¬ RightC c:=fun h=>h hr
 have hw:Sat R (BookAt p b::rpNew b4::cmC b3 c sg sp::Hs) w:=hw.arr
 refine ⟨c.kind,At.own (eqS hw) (by exact ⟨rfl,trivial⟩),Br.e (fun h1=>?_) (fun h1=>?_)⟩
 ·refine ⟨c.kind,c.pnr,c.flt,c.cls,c.many,c.time,c.sc,c.lab,c.rows,sg,sp,At.own (eqS hw) (by exact ⟨rfl,rfl,rfl,rfl,rfl,rfl,rfl,rfl,rfl,rfl,rfl,trivial⟩),?_⟩
  have e:applyB b c=openB b c:=by unfold applyB;rw [if_neg hrr,if_pos h1]
  rw [e] at hK
  refine apply_part (b:=b) (nb:=(openB b c).1) (res:=(openB b c).2) (c:=c) (p:=p) (b3:=b3) (sg:=sg) (sp:=sp) ?_ hK
  refine (bopen_spec (by have:=k.core.few;omega) hg hp hw).use ?_ ?_
  ·rintro _ w ⟨he,sl,rfl,hw⟩
   refine .inl ⟨_,rfl,sl,nilSl,?_⟩
   rw [he]
   exact ⟨rfl,hw.cons fun _ h=>Own.nil h⟩
  ·rintro _ w ⟨e,rfl,he,hw⟩
   exact .inr ⟨_,rfl,e,rfl,he,hw⟩
 refine ⟨fun t w=>t=decide (c.kind=2∨c.kind=7)∧Sat R (BookAt p b::rpNew b4::cmC b3 c sg sp::Hs) w,?_,?_⟩
 ·refine Br.e (fun h2=>⟨?_,hw⟩) (fun h2=>⟨?_,hw⟩)
  ·rw [decide_eq_true (.inl h2),h2];rfl
  ·by_cases h7:c.kind=7
   ·rw [decide_eq_true (.inr h7),h7];rfl
   ·rw [decide_eq_false (by omega)]
    exact beq_eq_false_iff_ne.2 h7
 clear hw
 rintro _ _ w ⟨rfl,hw⟩
 refine Br.d (fun h27=>?_) (fun h27=>?_)
 ·refine ⟨c.kind,c.pnr,c.flt,c.cls,c.many,c.time,c.sc,c.lab,c.rows,sg,sp,At.own (eqS hw) (by exact ⟨rfl,rfl,rfl,rfl,rfl,rfl,rfl,rfl,rfl,rfl,rfl,trivial⟩),?_⟩
  rcases h27 with h2|h7
  ·have e:applyB b c=heldB b c:=by unfold applyB;rw [if_neg hrr,if_neg h1,if_pos h2]
   rw [e] at hK
   exact apply_part (b:=b) (nb:=(heldB b c).1) (res:=(heldB b c).2) (c:=c) (p:=p) (ask2_spec h2 k.core hr hw) hK
  ·have e:applyB b c=waitB b c:=by unfold applyB;rw [if_neg hrr,if_neg h1,if_neg (by omega),if_pos h7]
   rw [e] at hK
   exact apply_part (b:=b) (nb:=(waitB b c).1) (res:=(waitB b c).2) (c:=c) (p:=p) (ask7_spec h7 k hr hsc hw) hK
 refine Br.e (fun h8=>?_) (fun h8=>Br.e (fun h9=>?_) (fun h9=>?_))
 ·refine ⟨c.kind,c.pnr,c.flt,c.cls,c.many,c.time,c.sc,c.lab,c.rows,sg,sp,At.own (eqS hw) (by exact ⟨rfl,rfl,rfl,rfl,rfl,rfl,rfl,rfl,rfl,rfl,rfl,trivial⟩),?_⟩
  have e:applyB b c=clockB b c:=by unfold applyB;rw [if_neg hrr,if_neg h1,if_neg (by omega),if_neg (by omega),if_pos h8]
  rw [e] at hK
  exact apply_part (b:=b) (nb:=(clockB b c).1) (res:=(clockB b c).2) (c:=c) (p:=p) (clock_spec k.core hr hw) hK
 ·refine ⟨c.kind,c.pnr,c.flt,c.cls,c.many,c.time,c.sc,c.lab,c.rows,sg,sp,At.own (eqS hw) (by exact ⟨rfl,rfl,rfl,rfl,rfl,rfl,rfl,rfl,rfl,rfl,rfl,trivial⟩),?_⟩
  have e:applyB b c=(b,showB b c):=by unfold applyB;rw [if_neg hrr,if_neg h1,if_neg (by omega),if_neg (by omega),if_neg h8,if_pos h9]
  rw [e] at hK
  refine apply_part (b:=b) (nb:=b) (res:=showB b c) (c:=c) (p:=p) (b3:=b3) (sg:=sg) (sp:=sp) ?_ hK
  refine (show_spec k.core hg hgl hplen hw).use ?_
  rintro _ w ⟨sl,sb,rfl,hw⟩
  exact .inl ⟨_,rfl,sl,sb,rfl,hw⟩
 ·have hap:∀ y,namedB b c.pnr=y→applyB b c=(match y with|(none,e)=>(b,errR e)|(some x,_)=>oneB b x c):=fun y hy=>by
   unfold applyB
   rw [if_neg hrr,if_neg h1,if_neg (by omega),if_neg (by omega),if_neg h8,if_neg h9,hy]
   obtain ⟨o,e⟩:=y
   cases o<;>rfl
  have hk36:c.kind=3∨c.kind=4∨c.kind=5∨c.kind=6:=by have:=hr.kind;omega
  have toS:∀ {A:List HP} {R:Cx} {w:World},Sat R (cmC b3 c sg sp::A) w→Sat R [cmC b3 c sg sp,VC.tru] w:=fun h=>h.restTru2
  refine drw_rule' (Sat R [cmC b3 c sg sp,VC.tru]) hw (fun w hw=>?_) fun w hw=>?_
  ·exact toS (hw.arr (Hs':=cmC b3 c sg sp::BookAt p b::rpNew b4::Hs))
  refine ⟨c.pnr,At.own (fun _ h=>h) (by exact ⟨rfl,trivial⟩),c.kind,c.pnr,c.flt,c.cls,c.many,c.time,c.sc,c.lab,c.rows,sg,sp,At.own (fun _ h=>h) (by exact ⟨rfl,rfl,rfl,rfl,rfl,rfl,rfl,rfl,rfl,rfl,rfl,trivial⟩),?_⟩
  refine (named_book k.core hw).use ?_ ?_
  ·clear hw
   rintro _ w ⟨a,x,rfl,hn,hxL,hop⟩
   have e:=hap _ hn
   rw [e] at hK
   refine .inl ⟨_,rfl,?_,?_⟩
   ·exact toS (hop.close.arr (Hs':=cmC b3 c sg sp::BookAt p b::rpNew b4::Hs))
   obtain ⟨m1,m2,fs,A2,C2,hl,hbm,hw⟩:=hop
   refine (one_spec hk36 k.core (by have:=hr.lab;omega) hl hbm hw).use ?_ ?_
   ·clear hw
    rintro _ w ⟨sl,sb,rfl,hw⟩
    have hS:=toS (hw.arr (Hs':=cmC b3 c sg sp::Own sl 3 (intsI (oneB b x c).2.left)::Own sb 9 ((oneB b x c).2.labs.map Value.string)::BookAt p (oneB b x c).1::rpNew b4::Hs))
    have hw:Sat R (rpNew b4::Own sl 3 (intsI (oneB b x c).2.left)::Own sb 9 ((oneB b x c).2.labs.map Value.string)::BookAt p (oneB b x c).1::cmC b3 c sg sp::Hs) w:=hw.arr
    refine .inl ?_
    obtain ⟨t0,t1,t2,t3,t4,t5,t6,t7,t8,he,h⟩:=reply_ok (r:=(oneB b x c).2) (sl:=sl) (sb:=sb) (K:=K) (rpNew_c hw) fun w hw=>hK sl sb w (hw.cons fun _ h=>h.cons fun _ h=>h.cons fun _ h=>h.drop)
    exact ⟨t0,t1,t2,t3,t4,t5,t6,t7,t8,he,hS,h⟩
   ·clear hw
    rintro _ w ⟨e,rfl,he,hw⟩
    dsimp only at hK
    rw [he] at hK
    exact .inr ⟨_,rfl,reply_err (rpNew_c hw.swap) fun w hw=>hK nilSl nilSl w (Own.nil (Own.nil (hw.cons fun _ h=>h.drop)))⟩
  ·clear hw
   rintro _ w ⟨e,rfl,hn,hw⟩
   have e2:=hap _ hn
   rw [e2] at hK
   exact .inr ⟨_,rfl,reply_err (rpNew_c hw.swap) fun w hw=>hK nilSl nilSl w (Own.nil (Own.nil (hw.cons fun _ h=>h.drop)))⟩
end Go.Proofs.YtflgboncpbmikaaGreatDoor




/- Chapter 18: BookingBack. Condition: the sizes of what is handed. -/
namespace Go.Proofs.YtflgboncpbmikaaGreatDoor
set_option linter.unusedVariables false
set_option linter.unusedSimpArgs false
open Go Go.VC
open Classical
variable {R:Cx} {Hs Rest:List HP} {w:World}
theorem bytes_app {a b:List Int} (h1:Bytes a) (h2:Bytes b):Bytes (a++b):=fun x hx=>(List.mem_append.1 hx).elim (h1 x) (h2 x)
theorem bytes_flat {α:Type} {f:α→List Int} {l:List α} (h:∀ x∈l,Bytes (f x)):Bytes (l.map f).flatten:=fun y hy=>by
 obtain ⟨r,h1,h2⟩:=List.mem_flatten.1 hy
 obtain ⟨x,hx,rfl⟩:=List.mem_map.1 h1
 exact h x hx y h2
theorem bytes_num {x:Int} (h:0≤x∧x<18446744073709551616):Bytes (numsB [x]):=numsB_bd fun y hy=>by rw [List.mem_singleton.1 hy];exact h
theorem bytes_text {d:List Int} (h:Bytes d) (hl:d.length<1000000):Bytes (textB d):=bytes_app (numB_bd (by omega)) h
theorem bytes_str {s:ByteArray} (h:s.size<1000000):Bytes (strB s):=bytes_text (bytesL_bd s) (by rw [bytesL_len];exact h)
theorem bytes_rp {r:Rp} (h:RpIn r):Bytes (rpB r):=by
 have r1:=h.code
 have r2:=h.pnr
 have r3:=h.state
 have r4:=h.flt
 have r5:=h.cls
 have r6:=h.many
 have r7:=h.time
 have r8:=h.ll
 have r9:=h.bl
 unfold rpB
 rw [nn_id r1.1,nn_id r3.1,nn_id r4.1,nn_id r5.1,nn_id r6.1,nn_id r7.1,nn_map fun n hn=>(h.left n hn).1]
 refine bytes_app (bytes_num (by omega)) (bytes_app (bytes_str (by omega)) (bytes_app (bytes_num (by omega)) (bytes_app (bytes_num (by omega)) (bytes_app (bytes_num (by omega)) (bytes_app (bytes_num (by omega)) (bytes_app (bytes_num (by omega)) (bytes_app (bytes_num (by omega)) (bytes_app (numsB_bd fun x hx=>?_) (bytes_app (bytes_num (by omega)) (bytes_flat fun x hx=>bytes_str ?_))))))))))
 ·have:=h.left x hx
  omega
 ·have:=h.labs x hx
  omega
theorem rpin_w {r:Rp} (h:RpIn r):RpW r:=by
 refine ⟨fun x hx=>?_,by have:=h.pnr;omega,by have:=h.ll;omega,by have:=h.bl;omega,fun s hs=>by have:=h.labs s hs;omega⟩
 have r1:=h.code
 have r3:=h.state
 have r4:=h.flt
 have r5:=h.cls
 have r6:=h.many
 have r7:=h.time
 rcases List.mem_append.1 hx with hx|hx
 ·simp only [List.mem_cons,List.not_mem_nil,or_false] at hx
  omega
 ·have:=h.left x hx
  omega
end Go.Proofs.YtflgboncpbmikaaGreatDoor
/- Requests and answers of sessions as bytes, plainly. No condition. -/
namespace Go.Proofs.YtflgboncpbmikaaGreatDoor
set_option linter.unusedVariables false
set_option linter.unusedSimpArgs false
open Go Go.VC
open Classical
abbrev mI:Int:=1099511627776
structure Rq where
 kind:Int
 client:Int
 seq:Int
 token:Int
 cmd:List Int
def inI (n:Int):Prop:=0≤n∧n≤1099511627776
structure RightQ (q:Rq):Prop where
 client:inI q.client
 seq:inI q.seq
 token:inI q.token
 cmd:q.cmd.length≤4000
 kind:(q.kind=1∧q.client=0∧q.seq=0∧q.cmd.length=0)∨(q.kind=2∧q.token=0)∨(q.kind=3∧q.token=0∧q.seq=0∧q.cmd.length=0)∨(q.kind=4∧q.client=0∧q.seq=0∧q.token=0)
def rqB (q:Rq):List Int:=numsB [q.kind,q.client,q.seq,q.token]++textB q.cmd
def rqRd (m:Int) (r:Rd):Rq × Rd:=
 let k:=rdNum m r
 let c:=rdNum mI k.2
 let s:=rdNum mI c.2
 let t:=rdNum mI s.2
 let d:=rdText 4000 t.2
 (⟨k.1,c.1,s.1,t.1,d.1⟩,d.2)
def zeroQ:Rq:=⟨0,0,0,0,[]⟩
noncomputable def rqDec (m:Int) (bs:List Int):Rq × Int:=if rdWhole (rqRd m ⟨bs,false⟩).2=true∧RightQ (rqRd m ⟨bs,false⟩).1 then ((rqRd m ⟨bs,false⟩).1,0) else (zeroQ,6)
noncomputable def encQ (q:Rq):List Int × Int:=if RightQ q then (rqB q,0) else ([],1)
theorem RightQ.k4 {q:Rq} (h:RightQ q):1≤q.kind∧q.kind≤4:=by
 have:=h.kind
 omega
theorem rqB_len {q:Rq} (h:RightQ q):(rqB q).length≤5000:=by
 have h1:=h.k4
 obtain ⟨a1,a2⟩:=h.client
 obtain ⟨a3,a4⟩:=h.seq
 obtain ⟨a5,a6⟩:=h.token
 have h2:=h.cmd
 unfold rqB
 have l1:=numsB_len (l:=[q.kind,q.client,q.seq,q.token]) fun x hx=>by
  simp only [List.mem_cons,List.not_mem_nil,or_false] at hx
  rcases hx with rfl|rfl|rfl|rfl<;>omega
 have l2:=textB_len (d:=q.cmd) (by omega)
 rw [List.length_append]
 simp only [List.length_cons,List.length_nil] at l1
 omega
theorem numsB4 (a b c d:Int) (rest:List Int):numsB [a,b,c,d]++rest=numsB [a]++(numsB [b]++(numsB [c]++(numsB [d]++rest))):=by
 rw [show numsB [a,b,c,d]=numsB [a]++(numsB [b]++(numsB [c]++numsB [d])) by rw [numsB_one a,numsB_one b,numsB_one c]]
 simp only [List.append_assoc]
theorem rq_back {q:Rq} (h:RightQ q):rqRd mI ⟨rqB q,false⟩=(q,⟨[],false⟩):=by
 have h1:=h.k4
 obtain ⟨a1,a2⟩:=h.client
 obtain ⟨a3,a4⟩:=h.seq
 obtain ⟨a5,a6⟩:=h.token
 have h2:=h.cmd
 unfold rqRd rqB
 rw [numsB4]
 rw [rdNum_nums (by omega) (by show q.kind≤1099511627776;omega) (by omega)]
 dsimp only
 rw [rdNum_nums (by omega) (by show q.client≤1099511627776;omega) (by omega)]
 dsimp only
 rw [rdNum_nums (by omega) (by show q.seq≤1099511627776;omega) (by omega)]
 dsimp only
 rw [rdNum_nums (by omega) (by show q.token≤1099511627776;omega) (by omega)]
 dsimp only
 have:=rdText_code (d:=q.cmd) (rest:=[]) (most:=4000) (by omega) (by omega)
 rw [List.append_nil] at this
 rw [this]
theorem rqDec_back {q:Rq} (h:RightQ q):rqDec mI (rqB q)=(q,0):=by
 unfold rqDec
 rw [rq_back h,if_pos ⟨rfl,h⟩]
structure Told where
 code:Int
 client:Int
 seq:Int
 reply:List Int
def zeroT:Told:=⟨0,0,0,[]⟩
end Go.Proofs.YtflgboncpbmikaaGreatDoor
/- The formulas of functions of this seat's translation, printed by a program of mine off the translation; each is proved equal to 'fnF' of the function's body, so it is enough for the call. No condition. -/
namespace Go.Proofs.YtflgboncpbmikaaGreatDoor
open Go Go.VC
set_option linter.unusedVariables false
set_option maxRecDepth 10000
def B17 (C:Int) (D:Int) (E:Int) (F:Int) (m:Sl) (K:Value→World→Prop) (w:World):Prop:=
 New (.cells #[.int .i64 C,.int .i64 D,.int .i64 E,.int .i64 F,.slice m.a m.len m.cap] 24 (0,0)) (fun d j=>
 ∃ (o:World→Prop),(∃ y:Int,(At (fun b=>b=j) ⟨d,0 + 1,none⟩ [.int .i64 y])∧
 ∃ A:Int,(At (fun b=>b=j) ⟨d,0 + 2,none⟩ [.int .i64 A])∧
 ∃ p:Int,(At (fun b=>b=j) ⟨d,0 + 3,none⟩ [.int .i64 p])∧
 New (.cells #[.int .i64 y,.int .i64 A,.int .i64 p] 3 (0,0)) (fun G I=>
 Calls Tryz.prog 34 #[.slice ((some ⟨G,0,none⟩)) 3 3,.func (.func 33) #[] #[]] I fun H k=>
 ∃ q:Bool,(H=.returned (.bool q))∧
 Br q
 (K (.bool false) k)
 (∃ g:Sl,(At (fun b=>b=k) ⟨d,0 + 4,none⟩ [.slice g.a g.len g.cap])∧
 Br (decide ((↑g.len:Int)>4000))
 (K (.bool false) k)
 (o  k))) j)∧
 ∀ (J:Env)  (f:World),o  f→
 ∃ (l:Bool→World→Prop),(∃ r:Int,(At (fun b=>b=f) ⟨d,0 + 2,none⟩ [.int .i64 r])∧
 Br (r==0)
 (∃ i:Sl,(At (fun b=>b=f) ⟨d,0 + 4,none⟩ [.slice i.a i.len i.cap])∧
 l ((↑i.len:Int)==0) f)
 (l false f))∧
 ∀ (L:Env) (n:Bool) (c:World),l n c→
 ∃ e:Int,(At (fun b=>b=c) ⟨d,0,none⟩ [.int .i64 e])∧
 Br (e==1)
 (∃ s:Int,(At (fun b=>b=c) ⟨d,0 + 1,none⟩ [.int .i64 s])∧
 Br (s==0)
 (K (.bool n) c)
 (K (.bool false) c))
 (Br (e==2)
 (∃ t:Int,(At (fun b=>b=c) ⟨d,0 + 3,none⟩ [.int .i64 t])∧
 K (.bool (t==0)) c)
 (Br (e==3)
 (∃ u:Int,(At (fun b=>b=c) ⟨d,0 + 3,none⟩ [.int .i64 u])∧
 Br (u==0)
 (K (.bool n) c)
 (K (.bool false) c))
 (Br (e==4)
 (∃ v:Int,(At (fun b=>b=c) ⟨d,0 + 1,none⟩ [.int .i64 v])∧
 Br (v==0)
 (∃ x:Int,(At (fun b=>b=c) ⟨d,0 + 2,none⟩ [.int .i64 x])∧
 Br (x==0)
 (∃ z:Int,(At (fun b=>b=c) ⟨d,0 + 3,none⟩ [.int .i64 z])∧
 K (.bool (z==0)) c)
 (K (.bool false) c))
 (K (.bool false) c))
 (K (.bool false) c))))) w
def sk17:Sk:=(.seq .leaf (.seq .leaf (.cut [] [] [2,5,6,7,8,9,10,11,12,13,14,15,16,17,18,19] .leaf (.cut [4] [.bool] [4,20,21,22,23,24,25,26,27,28] .leaf .leaf))))
theorem call17 (c:Int) (d:Int) (e:Int) (f:Int) (b:Sl) (K:Value→World→Prop) (w:World) (h:B17 c d e f b K w):Gets Tryz.prog 17 #[.agg #[.int .i64 c,.int .i64 d,.int .i64 e,.int .i64 f,.slice b.a b.len b.cap]] w K:=cq (sk:=sk17) Tryz.func17 (by kernel_rfl) (by kernel_rfl) (by kernel_rfl) h
def B33 (a:Int) (K:Value→World→Prop) (w:World):Prop:=
 Br (decide (a<0))
 (K (.bool true) w)
 (K (.bool (decide (a>1099511627776))) w)
theorem call33 (a:Int) (K:Value→World→Prop) (w:World) (h:B33 a K w):Gets Tryz.prog 33 #[.int .i64 a] w K:=cq (sk:=.leaf) Tryz.func33 (by kernel_rfl) (by kernel_rfl) (by kernel_rfl) h
def B18 (i:Sl) (K:Value→World→Prop) (w:World):Prop:=
 ∃ (g:Sl→Int→World→Prop) (l:Sl→Int→World→Nat),(g ⟨none,0,0⟩ 0 w)∧∀ (q:Env) (b:Sl) (c:Int) (f:World),g b c f→
 Br (decide (c<(↑i.len:Int)))
 (Rng c i.len (NilP i.a fun m=>
 ∃ j:Int,(At (fun o=>o=f) (Addr.add m c.toNat) [.int .i64 j])∧
 Calls Tryz.prog 35 #[.int .u64 (IntKind.u64.wrap (if 0>j then 0 else j))] f fun n p=>
 ∃ d:Sl,(n=.returned (.slice d.a d.len d.cap))∧
 ∃ k:World,∃ e:Sl,((Builtin.append_ #[22,22] 22 #[.slice b.a b.len b.cap,.slice d.a d.len d.cap]).run Tryz.prog p=.ok (.slice e.a e.len e.cap) k)∧
 (g e (IntKind.i64.wrap (c + 1)) k)∧l e (IntKind.i64.wrap (c + 1)) k<l b c f))
 (K (.slice b.a b.len b.cap) f)
def sk18:Sk:=(.seq .leaf (.seq .leaf (.seq (.seq .leaf (.block (.loop [3,8] [.sl,(.int .i64)] [3,5,8,9,10,11,12,13,14,15,16,17,18] .leaf))) .leaf)))
theorem call18 (b:Sl) (K:Value→World→Prop) (w:World) (h:B18 b K w):Gets Tryz.prog 18 #[.slice b.a b.len b.cap] w K:=cq (sk:=sk18) Tryz.func18 (by kernel_rfl) (by kernel_rfl) (by kernel_rfl) h
def B7 (A:Int) (C:Int) (D:Int) (E:Int) (j:Sl) (K:Value→World→Prop) (w:World):Prop:=
 New (.cells #[.int .i64 A,.int .i64 C,.int .i64 D,.int .i64 E,.slice j.a j.len j.cap] 24 (0,0)) (fun c u=>
 ∃ o:Int,∃ p:Int,∃ q:Int,∃ r:Int,∃ i:Sl,(At (fun J=>J=u) ⟨c,0,none⟩ [.int .i64 o,.int .i64 p,.int .i64 q,.int .i64 r,.slice i.a i.len i.cap])∧
 Calls Tryz.prog 17 #[.agg #[.int .i64 o,.int .i64 p,.int .i64 q,.int .i64 r,.slice i.a i.len i.cap]] u fun G v=>
 ∃ s:Bool,(G=.returned (.bool s))∧
 Br (!s)
 (K (.tuple #[.slice none 0 0,.int .i64 1]) v)
 (Drw v fun b L=>
 ∃ t:Int,(At b ⟨c,0,none⟩ [.int .i64 t])∧
 ∃ l:Int,(At b ⟨c,0 + 1,none⟩ [.int .i64 l])∧
 ∃ m:Int,(At b ⟨c,0 + 2,none⟩ [.int .i64 m])∧
 ∃ n:Int,(At b ⟨c,0 + 3,none⟩ [.int .i64 n])∧
 ∃ e:Sl,(At b ⟨c,0 + 4,none⟩ [.slice e.a e.len e.cap])∧
 New (.cells #[.int .i64 t,.int .i64 l,.int .i64 m,.int .i64 n] 3 (0,0)) (fun F x=>
 (b x)∧
 Calls Tryz.prog 18 #[.slice ((some ⟨F,0,none⟩)) 4 4] x fun H y=>
 ∃ d:Sl,(H=.returned (.slice d.a d.len d.cap))∧
 (b y)∧
 Calls Tryz.prog 19 #[.slice e.a e.len e.cap] y fun I z=>
 ∃ f:Sl,(I=.returned (.slice f.a f.len f.cap))∧
 (b z)∧
 ∃ k:World,∃ g:Sl,((Builtin.append_ #[22,22] 22 #[.slice d.a d.len d.cap,.slice f.a f.len f.cap]).run Tryz.prog z=.ok (.slice g.a g.len g.cap) k)∧
 (b k)∧
 K (.tuple #[.slice g.a g.len g.cap,.int .i64 0]) k) L)) w
theorem call7 (c:Int) (d:Int) (e:Int) (f:Int) (b:Sl) (K:Value→World→Prop) (w:World) (h:B7 c d e f b K w):Gets Tryz.prog 7 #[.agg #[.int .i64 c,.int .i64 d,.int .i64 e,.int .i64 f,.slice b.a b.len b.cap]] w K:=cq (sk:=.leaf) Tryz.func7 (by kernel_rfl) (by kernel_rfl) (by kernel_rfl) h
def B21 (c:Option Addr) (K:Value→World→Prop) (w:World):Prop:=
 Calls Tryz.prog 36 #[.pointer c,.int .u64 1099511627776] w fun b d=>
 ∃ a:Int,(b=.returned (.int .u64 a))∧
 K (.int .i64 (IntKind.i64.wrap a)) d
theorem call21 (a:Option Addr) (K:Value→World→Prop) (w:World) (h:B21 a K w):Gets Tryz.prog 21 #[.pointer a] w K:=cq (sk:=.leaf) Tryz.func21 (by kernel_rfl) (by kernel_rfl) (by kernel_rfl) h
def B8 (m:Sl) (K:Value→World→Prop) (w:World):Prop:=
 New (.cells #[.int .i64 0,.int .i64 0,.int .i64 0,.int .i64 0,.slice none 0 0] 24 (0,0)) (fun d aj=>
 Calls Tryz.prog 20 #[.slice m.a m.len m.cap] aj fun ab ak=>
 ∃ c:Option Addr,(ab=.returned (.pointer c))∧
 Calls Tryz.prog 21 #[.pointer c] ak fun ac al=>
 ∃ Y:Int,(ac=.returned (.int .i64 Y))∧
 Calls Tryz.prog 21 #[.pointer c] al fun ad am=>
 ∃ s:Int,(ad=.returned (.int .i64 s))∧
 Calls Tryz.prog 21 #[.pointer c] am fun ae an=>
 ∃ t:Int,(ae=.returned (.int .i64 t))∧
 Calls Tryz.prog 21 #[.pointer c] an fun af ao=>
 ∃ u:Int,(af=.returned (.int .i64 u))∧
 New (.cells #[.int .i64 0,.int .i64 0,.int .i64 0,.int .i64 0,.slice none 0 0] 24 (0,0)) (fun l ap=>
 ∃ aa:World,((Instr.storeAt 24 (.pointer ((some ⟨l,0,none⟩))) (.agg #[.int .i64 Y,.int .i64 s,.int .i64 t,.int .i64 u,.slice none 0 0])).run Tryz.prog ap=.ok () aa)∧
 Calls Tryz.prog 22 #[.pointer c,.int .i64 4000] aa fun ag aq=>
 ∃ e:Sl,(ag=.returned (.slice e.a e.len e.cap))∧
 ∃ Z:World,((Instr.storeAt 22 (.pointer ((some ⟨l,0 + 4,none⟩))) (.slice e.a e.len e.cap)).run Tryz.prog aq=.ok () Z)∧
 Calls Tryz.prog 23 #[.pointer c] Z fun ah n=>
 ∃ v:Bool,(ah=.returned (.bool v))∧
 Br (!v)
 (∃ o:World,((Instr.storeAt 24 (.pointer ((some ⟨d,0,none⟩))) (.agg #[.int .i64 0,.int .i64 0,.int .i64 0,.int .i64 0,.slice none 0 0])).run Tryz.prog n=.ok () o)∧
 ∃ H:Int,∃ I:Int,∃ O:Int,∃ Q:Int,∃ j:Sl,(At (fun b=>b=o) ⟨d,0,none⟩ [.int .i64 H,.int .i64 I,.int .i64 O,.int .i64 Q,.slice j.a j.len j.cap])∧
 K (.tuple #[.agg #[.int .i64 H,.int .i64 I,.int .i64 O,.int .i64 Q,.slice j.a j.len j.cap],.int .i64 6]) o)
 (∃ x:Int,∃ y:Int,∃ z:Int,∃ A:Int,∃ f:Sl,(At (fun b=>b=n) ⟨l,0,none⟩ [.int .i64 x,.int .i64 y,.int .i64 z,.int .i64 A,.slice f.a f.len f.cap])∧
 Calls Tryz.prog 17 #[.agg #[.int .i64 x,.int .i64 y,.int .i64 z,.int .i64 A,.slice f.a f.len f.cap]] n fun ai p=>
 ∃ C:Bool,(ai=.returned (.bool C))∧
 Br (!C)
 (∃ q:World,((Instr.storeAt 24 (.pointer ((some ⟨d,0,none⟩))) (.agg #[.int .i64 0,.int .i64 0,.int .i64 0,.int .i64 0,.slice none 0 0])).run Tryz.prog p=.ok () q)∧
 ∃ T:Int,∃ U:Int,∃ V:Int,∃ X:Int,∃ k:Sl,(At (fun b=>b=q) ⟨d,0,none⟩ [.int .i64 T,.int .i64 U,.int .i64 V,.int .i64 X,.slice k.a k.len k.cap])∧
 K (.tuple #[.agg #[.int .i64 T,.int .i64 U,.int .i64 V,.int .i64 X,.slice k.a k.len k.cap],.int .i64 6]) q)
 (∃ D:Int,∃ E:Int,∃ F:Int,∃ G:Int,∃ g:Sl,(At (fun b=>b=p) ⟨l,0,none⟩ [.int .i64 D,.int .i64 E,.int .i64 F,.int .i64 G,.slice g.a g.len g.cap])∧
 ∃ r:World,((Instr.storeAt 24 (.pointer ((some ⟨d,0,none⟩))) (.agg #[.int .i64 D,.int .i64 E,.int .i64 F,.int .i64 G,.slice g.a g.len g.cap])).run Tryz.prog p=.ok () r)∧
 ∃ J:Int,∃ L:Int,∃ M:Int,∃ N:Int,∃ i:Sl,(At (fun b=>b=r) ⟨d,0,none⟩ [.int .i64 J,.int .i64 L,.int .i64 M,.int .i64 N,.slice i.a i.len i.cap])∧
 K (.tuple #[.agg #[.int .i64 J,.int .i64 L,.int .i64 M,.int .i64 N,.slice i.a i.len i.cap],.int .i64 0]) r))) ao) w
theorem call8 (b:Sl) (K:Value→World→Prop) (w:World) (h:B8 b K w):Gets Tryz.prog 8 #[.slice b.a b.len b.cap] w K:=cq (sk:=.leaf) Tryz.func8 (by kernel_rfl) (by kernel_rfl) (by kernel_rfl) h
def B10  (K:Value→World→Prop) (w:World):Prop:=
 Calls Tryz.prog 24 #[] w fun d e=>
 ∃ a:Option Addr,(d=.returned (.pointer a))∧
 New (.map #[] 0) (fun b f=>
 New (.cells #[.pointer a,.int .i64 1,.map ((some b))] 59 (0,0)) (fun c g=>
 K (.pointer ((some ⟨c,0,none⟩))) g) f) e
theorem call10  (K:Value→World→Prop) (w:World) (h:B10  K w):Gets Tryz.prog 10 #[] w K:=cq (sk:=.leaf) Tryz.func10 (by kernel_rfl) (by kernel_rfl) (by kernel_rfl) h
def B25 (i:Int) (K:Value→World→Prop) (w:World):Prop:=
 New (.cells #[.int .i64 0,.int .i64 0,.int .i64 0,.slice none 0 0] 37 (0,0)) (fun d k=>
 ∃ c:World,((Instr.storeAt 37 (.pointer ((some ⟨d,0,none⟩))) (.agg #[.int .i64 i,.int .i64 0,.int .i64 0,.slice none 0 0])).run Tryz.prog k=.ok () c)∧
 ∃ e:Int,∃ f:Int,∃ g:Int,∃ b:Sl,(At (fun j=>j=c) ⟨d,0,none⟩ [.int .i64 e,.int .i64 f,.int .i64 g,.slice b.a b.len b.cap])∧
 K (.agg #[.int .i64 e,.int .i64 f,.int .i64 g,.slice b.a b.len b.cap]) c) w
theorem call25 (a:Int) (K:Value→World→Prop) (w:World) (h:B25 a K w):Gets Tryz.prog 25 #[.int .i64 a] w K:=cq (sk:=.leaf) Tryz.func25 (by kernel_rfl) (by kernel_rfl) (by kernel_rfl) h
def B11 (J:Option Addr) (V:Sl) (K:Value→World→Prop) (w:World):Prop:=
 New (.cells #[.int .i64 0,.int .i64 0,.int .i64 0,.slice none 0 0] 37 (0,0)) (fun d dx=>
 Calls Tryz.prog 8 #[.slice V.a V.len V.cap] dx fun dl d2=>
 ∃ a7:Int,∃ ba:Int,∃ bb:Int,∃ bc:Int,∃ j:Sl,∃ X:Int,(dl=.returned (.tuple #[.agg #[.int .i64 a7,.int .i64 ba,.int .i64 bb,.int .i64 bc,.slice j.a j.len j.cap],.int .i64 X]))∧
 New (.cells #[.int .i64 0,.int .i64 0,.int .i64 0,.int .i64 0,.slice none 0 0] 24 (0,0)) (fun c d6=>
 ∃ f:World,((Instr.storeAt 24 (.pointer ((some ⟨c,0,none⟩))) (.agg #[.int .i64 a7,.int .i64 ba,.int .i64 bb,.int .i64 bc,.slice j.a j.len j.cap])).run Tryz.prog d6=.ok () f)∧
 Br (X !=0)
 (Calls Tryz.prog 25 #[.int .i64 X] f fun dm d9=>
 ∃ bh:Int,∃ bi:Int,∃ bj:Int,∃ p:Sl,(dm=.returned (.agg #[.int .i64 bh,.int .i64 bi,.int .i64 bj,.slice p.a p.len p.cap]))∧
 ∃ al:World,((Instr.storeAt 37 (.pointer ((some ⟨d,0,none⟩))) (.agg #[.int .i64 bh,.int .i64 bi,.int .i64 bj,.slice p.a p.len p.cap])).run Tryz.prog d9=.ok () al)∧
 ∃ cj:Int,∃ ck:Int,∃ cs:Int,∃ C:Sl,(At (fun b=>b=al) ⟨d,0,none⟩ [.int .i64 cj,.int .i64 ck,.int .i64 cs,.slice C.a C.len C.cap])∧
 K (.agg #[.int .i64 cj,.int .i64 ck,.int .i64 cs,.slice C.a C.len C.cap]) al)
 (∃ bk:Int,(At (fun b=>b=f) ⟨c,0,none⟩ [.int .i64 bk])∧
 Br (bk==4)
 (Calls Tryz.prog 25 #[.int .i64 1] f fun dp ea=>
 ∃ bl:Int,∃ bm:Int,∃ bn:Int,∃ q:Sl,(dp=.returned (.agg #[.int .i64 bl,.int .i64 bm,.int .i64 bn,.slice q.a q.len q.cap]))∧
 ∃ am:World,((Instr.storeAt 37 (.pointer ((some ⟨d,0,none⟩))) (.agg #[.int .i64 bl,.int .i64 bm,.int .i64 bn,.slice q.a q.len q.cap])).run Tryz.prog ea=.ok () am)∧
 ∃ c8:Int,∃ c9:Int,∃ da:Int,∃ G:Sl,(At (fun b=>b=am) ⟨d,0,none⟩ [.int .i64 c8,.int .i64 c9,.int .i64 da,.slice G.a G.len G.cap])∧
 K (.agg #[.int .i64 c8,.int .i64 c9,.int .i64 da,.slice G.a G.len G.cap]) am)
 (∃ bo:Int,(At (fun b=>b=f) ⟨c,0,none⟩ [.int .i64 bo])∧
 Br (bo==1)
 (∃ bp:Int,(At (fun b=>b=f) ⟨c,0 + 3,none⟩ [.int .i64 bp])∧
 Calls Tryz.prog 26 #[.pointer J,.int .i64 bp] f fun dq eb=>
 ∃ bq:Int,∃ br:Int,∃ bs:Int,∃ r:Sl,(dq=.returned (.agg #[.int .i64 bq,.int .i64 br,.int .i64 bs,.slice r.a r.len r.cap]))∧
 ∃ Z:World,((Instr.storeAt 37 (.pointer ((some ⟨d,0,none⟩))) (.agg #[.int .i64 bq,.int .i64 br,.int .i64 bs,.slice r.a r.len r.cap])).run Tryz.prog eb=.ok () Z)∧
 ∃ db:Int,∃ dc:Int,∃ cl:Int,∃ v:Sl,(At (fun b=>b=Z) ⟨d,0,none⟩ [.int .i64 db,.int .i64 dc,.int .i64 cl,.slice v.a v.len v.cap])∧
 K (.agg #[.int .i64 db,.int .i64 dc,.int .i64 cl,.slice v.a v.len v.cap]) Z)
 (Drw f fun Q dy=>
 NilP J fun ax=>
 ∃ bt:Option Nat,(At Q ⟨ax.block,ax.off + 2,none⟩ [.map bt])∧
 ∃ bu:Int,(At Q ⟨c,0 + 1,none⟩ [.int .i64 bu])∧
 ∃ e:Option Addr,∃ Y:Bool,(∀ b,Q b→((Instr.lookup 57 (.map bt) (.int .i64 bu) true)).run Tryz.prog b=.ok (.tuple #[.pointer e,.bool Y]) b)∧
 ∃ (L:Bool→World→Prop),(Drw dy fun T aa=>
 Br (!Y)
 (∃ bw:Int,(At T ⟨c,0 + 1,none⟩ [.int .i64 bw])∧
 Br (decide (bw ≥ 1))
 (∃ bx:Int,(At T ⟨c,0 + 1,none⟩ [.int .i64 bx])∧
 NilP J fun ay=>
 ∃ bz:Int,(At T ⟨ay.block,ay.off + 1,none⟩ [.int .i64 bz])∧
 L (decide (bx<bz)) aa)
 (L false aa))
 (L false aa))∧
 ∀ (ec:Env) (bv:Bool) (H:World),L bv H→
 Br bv
 (Calls Tryz.prog 25 #[.int .i64 10] H fun dr dz=>
 ∃ b0:Int,∃ b1:Int,∃ b2:Int,∃ s:Sl,(dr=.returned (.agg #[.int .i64 b0,.int .i64 b1,.int .i64 b2,.slice s.a s.len s.cap]))∧
 ∃ ab:World,((Instr.storeAt 37 (.pointer ((some ⟨d,0,none⟩))) (.agg #[.int .i64 b0,.int .i64 b1,.int .i64 b2,.slice s.a s.len s.cap])).run Tryz.prog dz=.ok () ab)∧
 ∃ cm:Int,∃ cn:Int,∃ co:Int,∃ x:Sl,(At (fun b=>b=ab) ⟨d,0,none⟩ [.int .i64 cm,.int .i64 cn,.int .i64 co,.slice x.a x.len x.cap])∧
 K (.agg #[.int .i64 cm,.int .i64 cn,.int .i64 co,.slice x.a x.len x.cap]) ab)
 (Br (!Y)
 (Calls Tryz.prog 25 #[.int .i64 2] H fun ds d0=>
 ∃ b3:Int,∃ b4:Int,∃ b5:Int,∃ t:Sl,(ds=.returned (.agg #[.int .i64 b3,.int .i64 b4,.int .i64 b5,.slice t.a t.len t.cap]))∧
 ∃ ac:World,((Instr.storeAt 37 (.pointer ((some ⟨d,0,none⟩))) (.agg #[.int .i64 b3,.int .i64 b4,.int .i64 b5,.slice t.a t.len t.cap])).run Tryz.prog d0=.ok () ac)∧
 ∃ cp:Int,∃ cq:Int,∃ cr:Int,∃ y:Sl,(At (fun b=>b=ac) ⟨d,0,none⟩ [.int .i64 cp,.int .i64 cq,.int .i64 cr,.slice y.a y.len y.cap])∧
 K (.agg #[.int .i64 cp,.int .i64 cq,.int .i64 cr,.slice y.a y.len y.cap]) ac)
 (∃ b6:Int,(At (fun b=>b=H) ⟨c,0,none⟩ [.int .i64 b6])∧
 Br (b6==3)
 (Drw H fun an d1=>
 NilP J fun az=>
 ∃ b7:Option Nat,(At an ⟨az.block,az.off + 2,none⟩ [.map b7])∧
 ∃ b8:Int,(At an ⟨c,0 + 1,none⟩ [.int .i64 b8])∧
 ∃ ad:World,((Builtin.delete_ #[57,3] 0 #[.map b7,.int .i64 b8]).run Tryz.prog d1=.ok (.tuple #[]) ad)∧
 ∃ b9:Int,(At (fun b=>b=ad) ⟨c,0 + 1,none⟩ [.int .i64 b9])∧
 ∃ ae:World,((Instr.storeAt 37 (.pointer ((some ⟨d,0,none⟩))) (.agg #[.int .i64 0,.int .i64 b9,.int .i64 0,.slice none 0 0])).run Tryz.prog ad=.ok () ae)∧
 ∃ ct:Int,∃ cu:Int,∃ cv:Int,∃ z:Sl,(At (fun b=>b=ae) ⟨d,0,none⟩ [.int .i64 ct,.int .i64 cu,.int .i64 cv,.slice z.a z.len z.cap])∧
 K (.agg #[.int .i64 ct,.int .i64 cu,.int .i64 cv,.slice z.a z.len z.cap]) ae)
 (Drw H fun ao dd=>
 ∃ ca:Int,(At ao ⟨c,0 + 2,none⟩ [.int .i64 ca])∧
 NilP e fun a0=>
 ∃ cb:Int,(At ao ⟨a0.block,a0.off + 1,none⟩ [.int .i64 cb])∧
 Br (decide (ca>IntKind.i64.wrap (cb + 1)))
 (Calls Tryz.prog 25 #[.int .i64 7] dd fun dt d3=>
 ∃ cc:Int,∃ cd:Int,∃ ce:Int,∃ u:Sl,(dt=.returned (.agg #[.int .i64 cc,.int .i64 cd,.int .i64 ce,.slice u.a u.len u.cap]))∧
 ∃ af:World,((Instr.storeAt 37 (.pointer ((some ⟨d,0,none⟩))) (.agg #[.int .i64 cc,.int .i64 cd,.int .i64 ce,.slice u.a u.len u.cap])).run Tryz.prog d3=.ok () af)∧
 ∃ cw:Int,∃ cx:Int,∃ cy:Int,∃ A:Sl,(At (fun b=>b=af) ⟨d,0,none⟩ [.int .i64 cw,.int .i64 cx,.int .i64 cy,.slice A.a A.len A.cap])∧
 K (.agg #[.int .i64 cw,.int .i64 cx,.int .i64 cy,.slice A.a A.len A.cap]) af)
 (∃ (O:Bool→World→Prop),(Drw dd fun U de=>
 ∃ cg:Int,(At U ⟨c,0 + 2,none⟩ [.int .i64 cg])∧
 NilP e fun a1=>
 ∃ ch:Int,(At U ⟨a1.block,a1.off + 1,none⟩ [.int .i64 ch])∧
 Br (decide (cg<ch))
 (O true de)
 (∃ ci:Int,(At U ⟨c,0 + 2,none⟩ [.int .i64 ci])∧
 O (ci==0) de))∧
 ∀ (ed:Env) (cf:Bool) (ag:World),O cf ag→
 Br cf
 (Calls Tryz.prog 25 #[.int .i64 11] ag fun du d4=>
 ∃ a2:Int,∃ a3:Int,∃ a4:Int,∃ g:Sl,(du=.returned (.agg #[.int .i64 a2,.int .i64 a3,.int .i64 a4,.slice g.a g.len g.cap]))∧
 ∃ ah:World,((Instr.storeAt 37 (.pointer ((some ⟨d,0,none⟩))) (.agg #[.int .i64 a2,.int .i64 a3,.int .i64 a4,.slice g.a g.len g.cap])).run Tryz.prog d4=.ok () ah)∧
 ∃ cz:Int,∃ c0:Int,∃ c1:Int,∃ D:Sl,(At (fun b=>b=ah) ⟨d,0,none⟩ [.int .i64 cz,.int .i64 c0,.int .i64 c1,.slice D.a D.len D.cap])∧
 K (.agg #[.int .i64 cz,.int .i64 c0,.int .i64 c1,.slice D.a D.len D.cap]) ah)
 (Drw ag fun ap df=>
 ∃ a5:Int,(At ap ⟨c,0 + 2,none⟩ [.int .i64 a5])∧
 NilP e fun aq=>
 ∃ a6:Int,(At ap ⟨aq.block,aq.off + 1,none⟩ [.int .i64 a6])∧
 Br (decide (a5>a6))
 (Drw df fun I d5=>
 ∃ a8:Int,(At I ⟨c,0 + 2,none⟩ [.int .i64 a8])∧
 ∃ i:Sl,(At I ⟨c,0 + 4,none⟩ [.slice i.a i.len i.cap])∧
 NilP J fun dk=>
 ∃ a9:Option Addr,(At I (Addr.add dk 0) [.pointer a9])∧
 Calls Tryz.prog 27 #[.slice i.a i.len i.cap,.func (.func 28) #[.pointer a9] #[]] d5 fun dv dg=>
 ∃ k:Sl,(dv=.returned (.slice k.a k.len k.cap))∧
 (I dg)∧
 NilP e fun ar=>
 ∃ ai:World,((Instr.storeAt 3 (.pointer ((some ⟨ar.block,ar.off + 1,none⟩))) (.int .i64 a8)).run Tryz.prog dg=.ok () ai)∧
 (I ai)∧
 NilP e fun au=>
 ∃ dh:World,((Instr.storeAt 22 (.pointer ((some ⟨au.block,au.off + 2,none⟩))) (.slice k.a k.len k.cap)).run Tryz.prog ai=.ok () dh)∧
 Drw dh fun M d7=>
 ∃ bd:Int,(At M ⟨c,0 + 1,none⟩ [.int .i64 bd])∧
 ∃ bf:Int,(At M ⟨c,0 + 2,none⟩ [.int .i64 bf])∧
 NilP e fun av=>
 ∃ l:Sl,(At M ⟨av.block,av.off + 2,none⟩ [.slice l.a l.len l.cap])∧
 Calls Tryz.prog 29 #[.slice l.a l.len l.cap] d7 fun dw di=>
 ∃ n:Sl,(dw=.returned (.slice n.a n.len n.cap))∧
 (M di)∧
 ∃ aj:World,((Instr.storeAt 37 (.pointer ((some ⟨d,0,none⟩))) (.agg #[.int .i64 0,.int .i64 bd,.int .i64 bf,.slice n.a n.len n.cap])).run Tryz.prog di=.ok () aj)∧
 ∃ c2:Int,∃ c3:Int,∃ c4:Int,∃ E:Sl,(At (fun b=>b=aj) ⟨d,0,none⟩ [.int .i64 c2,.int .i64 c3,.int .i64 c4,.slice E.a E.len E.cap])∧
 K (.agg #[.int .i64 c2,.int .i64 c3,.int .i64 c4,.slice E.a E.len E.cap]) aj)
 (Drw df fun N d8=>
 ∃ be:Int,(At N ⟨c,0 + 1,none⟩ [.int .i64 be])∧
 ∃ bg:Int,(At N ⟨c,0 + 2,none⟩ [.int .i64 bg])∧
 NilP e fun aw=>
 ∃ m:Sl,(At N ⟨aw.block,aw.off + 2,none⟩ [.slice m.a m.len m.cap])∧
 Calls Tryz.prog 29 #[.slice m.a m.len m.cap] d8 fun dn dj=>
 ∃ o:Sl,(dn=.returned (.slice o.a o.len o.cap))∧
 (N dj)∧
 ∃ ak:World,((Instr.storeAt 37 (.pointer ((some ⟨d,0,none⟩))) (.agg #[.int .i64 0,.int .i64 be,.int .i64 bg,.slice o.a o.len o.cap])).run Tryz.prog dj=.ok () ak)∧
 ∃ c5:Int,∃ c6:Int,∃ c7:Int,∃ F:Sl,(At (fun b=>b=ak) ⟨d,0,none⟩ [.int .i64 c5,.int .i64 c6,.int .i64 c7,.slice F.a F.len F.cap])∧
 K (.agg #[.int .i64 c5,.int .i64 c6,.int .i64 c7,.slice F.a F.len F.cap]) ak)))))))))) d2) w
def sk11:Sk:=(.seq .leaf (.seq .leaf (.seq .leaf (.seq .leaf (.seq (.block (.cut [42] [.bool] [42,43,44,45,46,47,48,49,50,51,52,53,54,55,56,57,58] .leaf (.cond .leaf (.seq .leaf (.cond .leaf (.seq .leaf (.cond .leaf (.seq .leaf (.cond .leaf (.cut [87] [.bool] [87,88,89,90,91,92,93,94,95,96,97,98,99] .leaf .leaf)))))))))) .leaf)))))
theorem call11 (c:Option Addr) (b:Sl) (K:Value→World→Prop) (w:World) (h:B11 c b K w):Gets Tryz.prog 11 #[.pointer c,.slice b.a b.len b.cap] w K:=cq (sk:=sk11) Tryz.func11 (by kernel_rfl) (by kernel_rfl) (by kernel_rfl) h
def B26 (d:Option Addr) (T:Int) (K:Value→World→Prop) (w:World):Prop:=
 New (.cells #[.int .i64 0,.int .i64 0,.int .i64 0,.slice none 0 0] 37 (0,0)) (fun e ae=>
 NilP d fun A=>
 ∃ C:Option Nat,(At (fun b=>b=ae) ⟨A.block,A.off + 2,none⟩ [.map C])∧
 ∃ af:World,∃ k:Option Addr,((Instr.range 57 (.map C)).run Tryz.prog ae=.ok (.pointer k) af)∧
 ∃ (m:World→Prop) (ah:World→Nat),(m  af)∧∀ (ap:Env)  (l:World),m  l→
 ∃ c:World,(((Instr.next (.pointer k) false 0).run Tryz.prog l=.ok (.tuple #[.bool false]) c)∧
 NilP d fun t=>
 ∃ G:Option Nat,(At (fun b=>b=c) ⟨t.block,t.off + 2,none⟩ [.map G])∧
 ∃ H:Int,(∀ b,(fun b=>b=c) b→((Builtin.len_ #[57] 3 #[.map G])).run Tryz.prog b=.ok (.int .i64 H) b)∧
 Br (decide (H ≥ 64))
 (Calls Tryz.prog 25 #[.int .i64 3] c fun ak an=>
 ∃ I:Int,∃ J:Int,∃ L:Int,∃ f:Sl,(ak=.returned (.agg #[.int .i64 I,.int .i64 J,.int .i64 L,.slice f.a f.len f.cap]))∧
 ∃ r:World,((Instr.storeAt 37 (.pointer ((some ⟨e,0,none⟩))) (.agg #[.int .i64 I,.int .i64 J,.int .i64 L,.slice f.a f.len f.cap])).run Tryz.prog an=.ok () r)∧
 ∃ U:Int,∃ V:Int,∃ aa:Int,∃ i:Sl,(At (fun b=>b=r) ⟨e,0,none⟩ [.int .i64 U,.int .i64 V,.int .i64 aa,.slice i.a i.len i.cap])∧
 K (.agg #[.int .i64 U,.int .i64 V,.int .i64 aa,.slice i.a i.len i.cap]) r)
 (Drw c fun n ao=>
 NilP d fun u=>
 ∃ M:Option Nat,(At n ⟨u.block,u.off + 2,none⟩ [.map M])∧
 NilP d fun v=>
 ∃ N:Int,(At n ⟨v.block,v.off + 1,none⟩ [.int .i64 N])∧
 New (.cells #[.int .i64 T,.int .i64 0,.slice none 0 0] 65 (0,0)) (fun aj ag=>
 (n ag)∧
 ∃ s:World,((Instr.mapUpdate 57 (.map M) (.int .i64 N) (.pointer ((some ⟨aj,0,none⟩)))).run Tryz.prog ag=.ok () s)∧
 NilP d fun x=>
 ∃ O:Int,(At (fun b=>b=s) ⟨x.block,x.off + 1,none⟩ [.int .i64 O])∧
 NilP d fun y=>
 ∃ o:World,((Instr.storeAt 3 (.pointer ((some ⟨y.block,y.off + 1,none⟩))) (.int .i64 (IntKind.i64.wrap (O + 1)))).run Tryz.prog s=.ok () o)∧
 NilP d fun z=>
 ∃ Q:Int,(At (fun b=>b=o) ⟨z.block,z.off + 1,none⟩ [.int .i64 Q])∧
 ∃ p:World,((Instr.storeAt 37 (.pointer ((some ⟨e,0,none⟩))) (.agg #[.int .i64 0,.int .i64 (IntKind.i64.wrap (Q - 1)),.int .i64 0,.slice none 0 0])).run Tryz.prog o=.ok () p)∧
 ∃ ab:Int,∃ ac:Int,∃ ad:Int,∃ j:Sl,(At (fun b=>b=p) ⟨e,0,none⟩ [.int .i64 ab,.int .i64 ac,.int .i64 ad,.slice j.a j.len j.cap])∧
 K (.agg #[.int .i64 ab,.int .i64 ac,.int .i64 ad,.slice j.a j.len j.cap]) p) ao))∨
 (∃ al:Value,∃ am:Value,((Instr.next (.pointer k) false 0).run Tryz.prog l=.ok (.tuple #[.bool true,al,am]) c)∧
 ∃ D:Int,∃ E:Option Addr,(∀ b,(fun b=>b=c) b→((Instr.entry (.pointer k))).run Tryz.prog b=.ok (.tuple #[.int .i64 D,.pointer E]) b)∧
 NilP E fun ai=>
 ∃ F:Int,(At (fun b=>b=c) (Addr.add ai 0) [.int .i64 F])∧
 Br (F==T)
 (∃ q:World,((Instr.storeAt 37 (.pointer ((some ⟨e,0,none⟩))) (.agg #[.int .i64 0,.int .i64 D,.int .i64 0,.slice none 0 0])).run Tryz.prog c=.ok () q)∧
 ∃ X:Int,∃ Y:Int,∃ Z:Int,∃ g:Sl,(At (fun b=>b=q) ⟨e,0,none⟩ [.int .i64 X,.int .i64 Y,.int .i64 Z,.slice g.a g.len g.cap])∧
 K (.agg #[.int .i64 X,.int .i64 Y,.int .i64 Z,.slice g.a g.len g.cap]) q)
 ((m  c)∧ah  c<ah  l))) w
def sk26:Sk:=(.seq .leaf (.seq (.seq .leaf (.block (.loop [] [] [5,6,12,13,14,15,16,17,18,19,20,21,22,23,24] .leaf))) .leaf))
theorem call26 (a:Option Addr) (b:Int) (K:Value→World→Prop) (w:World) (h:B26 a b K w):Gets Tryz.prog 26 #[.pointer a,.int .i64 b] w K:=cq (sk:=sk26) Tryz.func26 (by kernel_rfl) (by kernel_rfl) (by kernel_rfl) h
def B27 (l:Sl) (T:Value) (K:Value→World→Prop) (w:World):Prop:=
 Calls Tryz.prog 42 #[.slice l.a l.len l.cap] w fun U aa=>
 ∃ G:Int,∃ H:ByteArray,∃ I:Int,∃ J:Int,∃ L:Int,∃ M:Int,∃ N:Nat,∃ O:ByteArray,∃ Q:Int,∃ j:Sl,∃ i:Sl,∃ m:Int,(U=.returned (.tuple #[.agg #[.int .i64 G,.string H,.int .i64 I,.int .i64 J,.int .i64 L,.int .i64 M,.float .f64 N,.string O,.int .i64 Q,.slice j.a j.len j.cap,.slice i.a i.len i.cap],.int .i64 m]))∧
 New (.cells #[.int .i64 0,.string (ByteArray.mk #[]),.int .i64 0,.int .i64 0,.int .i64 0,.int .i64 0,.float .f64 0,.string (ByteArray.mk #[]),.int .i64 0,.slice none 0 0,.slice none 0 0] 96 (0,0)) (fun n ab=>
 ∃ k:World,((Instr.storeAt 96 (.pointer ((some ⟨n,0,none⟩))) (.agg #[.int .i64 G,.string H,.int .i64 I,.int .i64 J,.int .i64 L,.int .i64 M,.float .f64 N,.string O,.int .i64 Q,.slice j.a j.len j.cap,.slice i.a i.len i.cap])).run Tryz.prog ab=.ok () k)∧
 Br (m !=0)
 (Calls Tryz.prog 43 #[.agg #[.int .i64 m,.string (ByteArray.mk #[]),.int .i64 0,.int .i64 0,.int .i64 0,.int .i64 0,.int .i64 0,.slice none 0 0,.slice none 0 0]] k fun V ac=>
 ∃ b:Sl,(V=.returned (.slice b.a b.len b.cap))∧
 K (.slice b.a b.len b.cap) ac)
 (∃ o:Int,∃ p:ByteArray,∃ q:Int,∃ r:Int,∃ s:Int,∃ t:Int,∃ u:Nat,∃ v:ByteArray,∃ x:Int,∃ d:Sl,∃ c:Sl,(At (fun Z=>Z=k) ⟨n,0,none⟩ [.int .i64 o,.string p,.int .i64 q,.int .i64 r,.int .i64 s,.int .i64 t,.float .f64 u,.string v,.int .i64 x,.slice d.a d.len d.cap,.slice c.a c.len c.cap])∧
 CalW Tryz.prog cl T [.agg #[.int .i64 o,.string p,.int .i64 q,.int .i64 r,.int .i64 s,.int .i64 t,.float .f64 u,.string v,.int .i64 x,.slice d.a d.len d.cap,.slice c.a c.len c.cap]] k fun X ad=>
 ∃ y:Int,∃ z:ByteArray,∃ A:Int,∃ C:Int,∃ D:Int,∃ E:Int,∃ F:Int,∃ e:Sl,∃ f:Sl,(X=.returned (.agg #[.int .i64 y,.string z,.int .i64 A,.int .i64 C,.int .i64 D,.int .i64 E,.int .i64 F,.slice e.a e.len e.cap,.slice f.a f.len f.cap]))∧
 Calls Tryz.prog 43 #[.agg #[.int .i64 y,.string z,.int .i64 A,.int .i64 C,.int .i64 D,.int .i64 E,.int .i64 F,.slice e.a e.len e.cap,.slice f.a f.len f.cap]] ad fun Y ae=>
 ∃ g:Sl,(Y=.returned (.slice g.a g.len g.cap))∧
 K (.slice g.a g.len g.cap) ae)) aa
theorem call27 (b:Sl) (c:Value) (K:Value→World→Prop) (w:World) (h:B27 b c K w):Gets Tryz.prog 27 #[.slice b.a b.len b.cap,c] w K:=cq (sk:=.leaf) Tryz.func27 (by kernel_rfl) (by kernel_rfl) (by kernel_rfl) h
def B15 (k:Int) (l:Int) (m:Int) (n:Int) (d:Sl) (K:Value→World→Prop) (w:World):Prop:=
 New (.cells #[.int .i64 k,.int .i64 l,.int .i64 m,.int .i64 n,.slice d.a d.len d.cap] 24 (0,0)) (fun o j=>
 ∃ e:Int,∃ f:Int,∃ g:Int,∃ i:Int,∃ b:Sl,(At (fun r=>r=j) ⟨o,0,none⟩ [.int .i64 e,.int .i64 f,.int .i64 g,.int .i64 i,.slice b.a b.len b.cap])∧
 Calls Tryz.prog 7 #[.agg #[.int .i64 e,.int .i64 f,.int .i64 g,.int .i64 i,.slice b.a b.len b.cap]] j fun p s=>
 ∃ c:Sl,∃ q:Int,(p=.returned (.tuple #[.slice c.a c.len c.cap,.int .i64 q]))∧
 K (.slice c.a c.len c.cap) s) w
theorem call15 (c:Int) (d:Int) (e:Int) (f:Int) (b:Sl) (K:Value→World→Prop) (w:World) (h:B15 c d e f b K w):Gets Tryz.prog 15 #[.agg #[.int .i64 c,.int .i64 d,.int .i64 e,.int .i64 f,.slice b.a b.len b.cap]] w K:=cq (sk:=.leaf) Tryz.func15 (by kernel_rfl) (by kernel_rfl) (by kernel_rfl) h
def B5  (K:Value→World→Prop) (w:World):Prop:=
 Calls Tryz.prog 10 #[] w fun o n=>
 ∃ f:Option Addr,(o=.returned (.pointer f))∧
 Br f.isNone
 (K (.bool false) n)
 (Calls Tryz.prog 15 #[.agg #[.int .i64 1,.int .i64 0,.int .i64 0,.int .i64 9,.slice none 0 0]] n fun p r=>
 ∃ b:Sl,(p=.returned (.slice b.a b.len b.cap))∧
 Calls Tryz.prog 11 #[.pointer f,.slice b.a b.len b.cap] r fun q s=>
 ∃ k:Int,∃ l:Int,∃ m:Int,∃ c:Sl,(q=.returned (.agg #[.int .i64 k,.int .i64 l,.int .i64 m,.slice c.a c.len c.cap]))∧
 New (.cells #[.int .i64 0,.int .i64 0,.int .i64 0,.slice none 0 0] 37 (0,0)) (fun e t=>
 ∃ d:World,((Instr.storeAt 37 (.pointer ((some ⟨e,0,none⟩))) (.agg #[.int .i64 k,.int .i64 l,.int .i64 m,.slice c.a c.len c.cap])).run Tryz.prog t=.ok () d)∧
 ∃ i:Int,(At (fun g=>g=d) ⟨e,0,none⟩ [.int .i64 i])∧
 Br (i==0)
 (∃ j:Int,(At (fun g=>g=d) ⟨e,0 + 1,none⟩ [.int .i64 j])∧
 K (.bool (j==1)) d)
 (K (.bool false) d)) s)
theorem call5  (K:Value→World→Prop) (w:World) (h:B5  K w):Gets Tryz.prog 5 #[] w K:=cq (sk:=.leaf) Tryz.func5 (by kernel_rfl) (by kernel_rfl) (by kernel_rfl) h
def B6 (f:Sl) (K:Value→World→Prop) (w:World):Prop:=
 ∃ (e:Int→World→Prop) (g:Int→World→Nat),(e 0 w)∧∀ (k:Env) (b:Int) (c:World),e b c→
 Br (decide (b<(↑f.len:Int)))
 (Br (decide (b<200))
 (Rng b f.len (NilP f.a fun i=>
 ∃ d:Sl,(At (fun j=>j=c) (Addr.add i b.toNat) [.slice d.a d.len d.cap])∧
 Br (decide ((↑d.len:Int)>10000))
 (K (.bool true) c)
 ((e (IntKind.i64.wrap (b + 1)) c)∧g (IntKind.i64.wrap (b + 1)) c<g b c)))
 (K (.bool false) c))
 (K (.bool false) c)
def sk6:Sk:=(.seq .leaf (.seq (.seq .leaf (.block (.loop [3] [(.int .i64)] [2,3,4,5,6,7,8,9,10,11,12,13,14,15,16,17,18,19] .leaf))) .leaf))
theorem call6 (b:Sl) (K:Value→World→Prop) (w:World) (h:B6 b K w):Gets Tryz.prog 6 #[.slice b.a b.len b.cap] w K:=cq (sk:=sk6) Tryz.func6 (by kernel_rfl) (by kernel_rfl) (by kernel_rfl) h
end Go.Proofs.YtflgboncpbmikaaGreatDoor
/- Package session: requests and answers as bytes. Condition: bounds on lengths. -/
namespace Go.Proofs.YtflgboncpbmikaaGreatDoor
set_option linter.unusedVariables false
set_option linter.unusedSimpArgs false
open Go Go.VC
open Classical
variable {R:Cx} {Hs Rest:List HP} {w:World}
abbrev rqV (q:Rq) (s:Sl):List Value:=[.int .i64 q.kind,.int .i64 q.client,.int .i64 q.seq,.int .i64 q.token,.slice s.a s.len s.cap]
abbrev rqC (b:Nat) (q:Rq) (s:Sl):HP:=pts b (.cells (rqV q s).toArray 24 (0,0))
abbrev tdV (t:Told) (s:Sl):List Value:=[.int .i64 t.code,.int .i64 t.client,.int .i64 t.seq,.slice s.a s.len s.cap]
abbrev tdC (b:Nat) (t:Told) (s:Sl):HP:=pts b (.cells (tdV t s).toArray 37 (0,0))
abbrev nilS:Sl:=⟨none,0,0⟩
theorem snums_spec {s:Sl} {xs:List Int} (hxs:∀ x∈xs,x<9223372036854775808) (hl:9 * xs.length≤1099511627776) (hs:RoI R s xs) (hw:Sat R Hs w):
  Gets Tryz.prog 18 #[.slice s.a s.len s.cap] w fun v w'=>∃ t:Sl,v=.slice t.a t.len t.cap∧Sat R (Own t 5 (b8 (numsB (xs.map nn)))::Hs) w':=by
 have hlen:=hs.len
 apply call18
 refine ⟨fun out i w=>∃ k:Nat,i=k∧k≤xs.length∧Sat R (Own out 5 (b8 (numsB ((xs.take k).map nn)))::Hs) w,fun _ i _=>xs.length - i.toNat,⟨0,rfl,by omega,Own.nil hw⟩,?_⟩
 clear hw
 rintro _ out _ w ⟨k,rfl,hk,hw⟩
 refine Br.d (fun h=>?_) (fun h=>?_)
 ·have hkx:k<xs.length:=by omega
  have hx:=nn_bd (hxs xs[k] (List.getElem_mem _))
  have hxt:∀ x∈(xs.take k).map nn,0≤x∧x<18446744073709551616:=fun x hx=>by
   obtain ⟨y,hy,rfl⟩:=List.mem_map.1 hx
   have:=nn_bd (hxs y (List.mem_of_mem_take hy));omega
  have hnl:=numsB_len hxt
  rw [List.length_map,List.length_take] at hnl
  refine Ro.ix hs (eqS hw) k rfl hkx ?_
  rw [nn_if]
  obtain ⟨n,hn⟩:=Int.eq_ofNat_of_zero_le hx.1
  rw [hn,wrapU64 (by omega) (by omega)]
  refine (number_spec (by omega) hw).use ?_
  rintro _ w ⟨t,rfl,hw⟩
  refine ⟨t,rfl,?_⟩
  have hnb:=numB_len (n:=n) (by omega)
  refine app8 (by omega) hw fun s2 w hw=>?_
  rw [wrap64 (by omega) (by omega)]
  refine ⟨⟨k + 1,by omega,by omega,?_⟩,by dsimp only;omega⟩
  have e:(xs.take (k + 1)).map nn=(xs.take k).map nn++[nn xs[k]]:=by rw [List.take_add_one,List.getElem?_eq_getElem hkx,List.map_append];rfl
  rw [e,numsB_app,show numsB [nn xs[k]]=numB (nn xs[k]).toNat by simp [numsB],hn,Int.toNat_natCast]
  exact hw
 ·rw [List.take_of_length_le (l:=xs) (by omega)] at hw
  exact ⟨out,rfl,hw⟩
theorem slit_spec {b n:Nat} {xs:List Int} (hn:n=xs.length) (hxs:∀ x∈xs,x<9223372036854775808) (hl:9 * xs.length≤1099511627776) (hw:Sat R (pts b (.cells (intsI xs).toArray 3 (0,0))::Hs) w):
  Gets Tryz.prog 18 #[.slice (some ⟨b,0,none⟩) n n] w fun v w'=>∃ t:Sl,v=.slice t.a t.len t.cap∧Sat R (Own t 5 (b8 (numsB (xs.map nn)))::Hs) w':=by
 have hw:Sat R (Own ⟨some ⟨b,0,none⟩,n,n⟩ 3 (intsI xs)::Hs) w:=own_lit hw (by rw [List.length_map];exact hn)
 obtain ⟨R',hr,_,hw,back⟩:=Own.lendI hw (by omega)
 refine (snums_spec hxs hl hr hw).use ?_
 rintro _ w ⟨t,rfl,hw⟩
 exact ⟨_,rfl,t,rfl,(back hw).swap.cons fun _ h=>h.drop⟩
theorem sodd_spec {n:Int} (hw:Sat R Hs w):Gets Tryz.prog 33 #[.int .i64 n] w fun v w'=>v=.bool (!decide (inI n))∧Sat R Hs w':=by
 apply call33
 refine Br.d (fun h=>⟨?_,hw⟩) (fun h=>⟨?_,hw⟩)
 ·rw [decide_eq_false (p:=inI n) (fun h2=>by unfold inI at h2;omega)];rfl
 ·by_cases h2:n>1099511627776
  ·rw [decide_eq_true h2,decide_eq_false (p:=inI n) (fun h3=>by unfold inI at h3;omega)];rfl
  ·rw [decide_eq_false h2,decide_eq_true (p:=inI n) ⟨by omega,by omega⟩];rfl
theorem srightQ_spec {q:Rq} {s:Sl} (hs:s.len=q.cmd.length) (hw:Sat R Hs w):
  Gets Tryz.prog 17 #[.agg #[.int .i64 q.kind,.int .i64 q.client,.int .i64 q.seq,.int .i64 q.token,.slice s.a s.len s.cap]] w fun v w'=>v=.bool (decide (RightQ q))∧Sat R Hs w':=by
 apply call17
 refine new_rule hw fun b w hw=>?_
 have hw:Sat R (rqC b q s::Hs) w:=hw
 have no:¬ RightQ q→∀ {w},Sat R (rqC b q s::Hs) w→(Value.bool false=.bool (decide (RightQ q))∧Sat R Hs w):=fun h w hw=>⟨by rw [decide_eq_false h],hw.drop⟩
 refine ⟨fun w=>((inI q.client∧inI q.seq∧inI q.token)∧q.cmd.length≤4000)∧Sat R (rqC b q s::Hs) w,?_,?_⟩
 ·refine ⟨q.client,At.own (eqS hw) (by exact ⟨rfl,trivial⟩),q.seq,At.own (eqS hw) (by exact ⟨rfl,trivial⟩),q.token,At.own (eqS hw) (by exact ⟨rfl,trivial⟩),?_⟩
  refine new_rule hw fun b2 w hw=>?_
  have hw:Sat R (Own ⟨some ⟨b2,0,none⟩,3,3⟩ 3 (intsI [q.client,q.seq,q.token])::rqC b q s::Hs) w:=own_lit hw
  obtain ⟨R',hr,_,hw,back⟩:=Own.lendI hw (by simp)
  refine (contF_spec (p:=fun n=>!decide (inI n)) (s:=⟨some ⟨b2,0,none⟩,3,3⟩) hr (fun x w hw=>CalW.mk (by kernel_rfl) ((sodd_spec hw).use fun v w h=>⟨by rw [h.1],h.2⟩)) hw).use ?_
  clear hw
  rintro _ w ⟨rfl,hw⟩
  have hw:=(back hw).drop
  refine ⟨_,rfl,Br.mk (fun h=>no (fun hq=>?_) hw) (fun h=>?_)⟩
  ·have h1:=hq.client
   have h2:=hq.seq
   have h3:=hq.token
   simp [h1,h2,h3] at h
  ·have hI:inI q.client∧inI q.seq∧inI q.token:=by simpa using h
   refine ⟨s,At.own (eqS hw) (by exact ⟨rfl,trivial⟩),Br.d (fun h2=>no (fun hq=>by have:=hq.cmd;omega) hw) (fun h2=>⟨⟨hI,by omega⟩,hw⟩)⟩
 clear hw
 rintro _ w ⟨⟨⟨h1,h2,h3⟩,h4⟩,hw⟩
 refine ⟨fun t w=>t=decide (q.seq=0∧q.cmd.length=0)∧Sat R (rqC b q s::Hs) w,?_,?_⟩
 ·refine ⟨q.seq,At.own (eqS hw) (by exact ⟨rfl,trivial⟩),Br.e (fun h5=>?_) (fun h5=>⟨by rw [decide_eq_false (by omega)],hw⟩)⟩
  refine ⟨s,At.own (eqS hw) (by exact ⟨rfl,trivial⟩),?_,hw⟩
  show decide ((s.len:Int)=0)=_
  exact decide_eq_decide.2 (by omega)
 clear hw
 rintro _ _ w ⟨rfl,hw⟩
 have fin:∀ {p:Prop} {i:Decidable p},(p↔RightQ q)→(Value.bool (@decide p i)=.bool (decide (RightQ q))∧Sat R Hs w):=fun h=>⟨by congr 1;exact decide_eq_decide.2 h,hw.drop⟩
 have mk:∀ (hk:(q.kind=1∧q.client=0∧q.seq=0∧q.cmd.length=0)∨(q.kind=2∧q.token=0)∨(q.kind=3∧q.token=0∧q.seq=0∧q.cmd.length=0)∨(q.kind=4∧q.client=0∧q.seq=0∧q.token=0)),RightQ q:=fun hk=>⟨h1,h2,h3,h4,hk⟩
 refine ⟨q.kind,At.own (eqS hw) (by exact ⟨rfl,trivial⟩),Br.e (fun k=>?_) (fun k1=>?_)⟩
 ·refine ⟨q.client,At.own (eqS hw) (by exact ⟨rfl,trivial⟩),Br.e (fun h5=>fin ?_) (fun h5=>no (fun hq=>by have:=hq.kind;omega) hw)⟩
  exact ⟨fun h6=>mk (by omega),fun hq=>by have:=hq.kind;omega⟩
 refine Br.e (fun k=>?_) (fun k2=>?_)
 ·refine ⟨q.token,At.own (eqS hw) (by exact ⟨rfl,trivial⟩),fin (p:=q.token=0) ?_⟩
  exact ⟨fun h6=>mk (by omega),fun hq=>by have:=hq.kind;omega⟩
 refine Br.e (fun k=>?_) (fun k3=>?_)
 ·refine ⟨q.token,At.own (eqS hw) (by exact ⟨rfl,trivial⟩),Br.e (fun h5=>fin ?_) (fun h5=>no (fun hq=>by have:=hq.kind;omega) hw)⟩
  exact ⟨fun h6=>mk (by omega),fun hq=>by have:=hq.kind;omega⟩
 refine Br.e (fun k=>?_) (fun k4=>no (fun hq=>by have:=hq.kind;omega) hw)
 refine ⟨q.client,At.own (eqS hw) (by exact ⟨rfl,trivial⟩),Br.e (fun h5=>?_) (fun h5=>no (fun hq=>by have:=hq.kind;omega) hw)⟩
 refine ⟨q.seq,At.own (eqS hw) (by exact ⟨rfl,trivial⟩),Br.e (fun h6=>?_) (fun h6=>no (fun hq=>by have:=hq.kind;omega) hw)⟩
 refine ⟨q.token,At.own (eqS hw) (by exact ⟨rfl,trivial⟩),fin (p:=q.token=0) ?_⟩
 exact ⟨fun h7=>mk (by omega),fun hq=>by have:=hq.kind;omega⟩
theorem nnq {q:Rq} (h:RightQ q):[q.kind,q.client,q.seq,q.token].map nn=[q.kind,q.client,q.seq,q.token]:=by
 have h1:=h.k4
 obtain ⟨a1,a2⟩:=h.client
 obtain ⟨a3,a4⟩:=h.seq
 obtain ⟨a5,a6⟩:=h.token
 show [nn q.kind,nn q.client,nn q.seq,nn q.token]=_
 rw [nn_id (by omega),nn_id a1,nn_id a3,nn_id a5]
theorem senc_spec {q:Rq} {s:Sl} (hs:Ro R s (b8 q.cmd)) (hw:Sat R Hs w):
  Gets Tryz.prog 7 #[.agg #[.int .i64 q.kind,.int .i64 q.client,.int .i64 q.seq,.int .i64 q.token,.slice s.a s.len s.cap]] w fun v w'=>
   ∃ t:Sl,v=.tuple #[.slice t.a t.len t.cap,.int .i64 (encQ q).2]∧Sat R (Own t 5 (b8 (encQ q).1)::Hs) w':=by
 have hslen:s.len=q.cmd.length:=by have:=hs.len;simpa using this
 apply call7
 refine new_rule hw fun b w hw=>?_
 have hw:Sat R (rqC b q s::Hs) w:=hw
 refine ⟨q.kind,q.client,q.seq,q.token,s,At.own (eqS hw) (by exact ⟨rfl,rfl,rfl,rfl,rfl,trivial⟩),?_⟩
 refine (srightQ_spec hslen hw).use ?_
 clear hw
 rintro _ w ⟨rfl,hw⟩
 refine ⟨_,rfl,Br.nd (fun h=>?_) (fun h=>?_)⟩
 ·unfold encQ
  rw [if_neg h]
  exact ⟨nilS,rfl,Own.nil hw.drop⟩
 have h1:=h.k4
 obtain ⟨a1,a2⟩:=h.client
 obtain ⟨a3,a4⟩:=h.seq
 obtain ⟨a5,a6⟩:=h.token
 have h2:=h.cmd
 refine drw_rule' (Sat R [rqC b q s,VC.tru]) hw (fun w hw=>hw.restTru2) fun w hw=>?_
 refine ⟨q.kind,At.own (fun _ h=>h) (by exact ⟨rfl,trivial⟩),q.client,At.own (fun _ h=>h) (by exact ⟨rfl,trivial⟩),q.seq,At.own (fun _ h=>h) (by exact ⟨rfl,trivial⟩),q.token,At.own (fun _ h=>h) (by exact ⟨rfl,trivial⟩),s,At.own (fun _ h=>h) (by exact ⟨rfl,trivial⟩),?_⟩
 refine new_rule hw fun b2 w hw=>⟨hw.swap.restTru2,?_⟩
 refine (slit_spec (xs:=[q.kind,q.client,q.seq,q.token]) rfl (fun x hx=>by
  simp only [List.mem_cons,List.not_mem_nil,or_false] at hx
  omega) (by simp) hw).use ?_
 clear hw
 rintro _ w ⟨t1,rfl,hw⟩
 rw [nnq h] at hw
 refine ⟨t1,rfl,hw.swap.restTru2,?_⟩
 refine (ftext_spec hs (by omega) hw).use ?_
 clear hw
 rintro _ w ⟨t2,rfl,hw⟩
 refine ⟨t2,rfl,(hw.arr (Hs':=rqC b q s::Own t2 5 (b8 (textB q.cmd))::Own t1 5 (b8 (numsB [q.kind,q.client,q.seq,q.token]))::Hs)).restTru2,?_⟩
 have l1:=numsB_len (l:=[q.kind,q.client,q.seq,q.token]) fun x hx=>by
  simp only [List.mem_cons,List.not_mem_nil,or_false] at hx
  rcases hx with rfl|rfl|rfl|rfl<;>omega
 have l2:=textB_len (d:=q.cmd) (by omega)
 simp only [List.length_cons,List.length_nil] at l1
 refine app8 (by omega) hw fun t w hw=>⟨hw.swap.restTru2,t,?_,?_⟩
 ·unfold encQ;rw [if_pos h]
 ·unfold encQ;rw [if_pos h]
  exact hw.cons fun _ h=>h.drop
end Go.Proofs.YtflgboncpbmikaaGreatDoor
/- Package session: Decode, Read. Condition: bounds on lengths. -/
namespace Go.Proofs.YtflgboncpbmikaaGreatDoor
set_option linter.unusedVariables false
set_option linter.unusedSimpArgs false
open Go Go.VC
open Classical
variable {R:Cx} {Hs Rest:List HP} {w:World}
theorem snum_spec {r:Nat} {rd:Rd} (hb:Bytes rd.bs) (hw:Sat R (RdAt r rd::Hs) w):
  Gets Tryz.prog 21 #[.pointer (some ⟨r,0,none⟩)] w fun v w'=>v=.int .i64 (rdNum mI rd).1∧Sat R (RdAt r (rdNum mI rd).2::Hs) w':=by
 have hv:=rdNum_val (most:=mI) hb (by decide)
 apply call21
 refine (rnum_spec (most:=mI) hb hw).use ?_
 rintro _ w ⟨rfl,hw⟩
 refine ⟨_,rfl,?_,hw⟩
 have:(rdNum mI rd).1≤1099511627776:=hv.2
 rw [wrap64 (by omega) (by omega)]
abbrev rqNew (b:Nat):HP:=rqC b zeroQ nilS
set_option maxHeartbeats 1000000 in
theorem sdec_spec {s:Sl} {bs:List Int} (hb:Bytes bs) (hl:bs.length≤1099511627776) (hs:Ro R s (b8 bs)) (hw:Sat R Hs w):
  Gets Tryz.prog 8 #[.slice s.a s.len s.cap] w fun v w'=>∃ t:Sl,v=.tuple #[.agg (rqV (rqDec mI bs).1 t).toArray,.int .i64 (rqDec mI bs).2]∧Sat R (Own t 5 (b8 (rqDec mI bs).1.cmd)::Hs) w':=by
 apply call8
 have b0:Bytes (⟨bs,false⟩:Rd).bs:=hb
 have l0:(⟨bs,false⟩:Rd).bs.length≤1099511627776:=hl
 obtain ⟨rd0,e0⟩:∃ rd:Rd,rd=⟨bs,false⟩:=⟨_,rfl⟩
 rw [←e0] at b0 l0
 refine new_rule hw fun b2 w hw=>?_
 have hw:Sat R (rqNew b2::Hs) w:=hw
 refine (fnew_spec hs hl hw).use ?_
 clear hw
 rintro _ w ⟨r,rfl,hw⟩
 refine ⟨_,rfl,?_⟩
 rw [←e0] at hw
 have b1:=rdNum_bd (most:=mI) b0
 have l1:(rdNum mI rd0).2.bs.length≤1099511627776:=Nat.le_trans rdNum_len l0
 obtain ⟨k,rd1,e1⟩:∃ y rd,rdNum mI rd0=(y,rd):=⟨_,_,rfl⟩
 refine (snum_spec b0 hw).use ?_
 clear hw
 rintro _ w ⟨rfl,hw⟩
 rw [e1] at b1 l1 hw ⊢
 dsimp only at b1 l1 hw ⊢
 refine ⟨_,rfl,?_⟩
 have b2':=rdNum_bd (most:=mI) b1
 have l2:(rdNum mI rd1).2.bs.length≤1099511627776:=Nat.le_trans rdNum_len l1
 obtain ⟨c,rd2,e2⟩:∃ y rd,rdNum mI rd1=(y,rd):=⟨_,_,rfl⟩
 refine (snum_spec b1 hw).use ?_
 clear hw
 rintro _ w ⟨rfl,hw⟩
 rw [e2] at b2' l2 hw ⊢
 dsimp only at b2' l2 hw ⊢
 refine ⟨_,rfl,?_⟩
 have b3:=rdNum_bd (most:=mI) b2'
 have l3:(rdNum mI rd2).2.bs.length≤1099511627776:=Nat.le_trans rdNum_len l2
 obtain ⟨q,rd3,e3⟩:∃ y rd,rdNum mI rd2=(y,rd):=⟨_,_,rfl⟩
 refine (snum_spec b2' hw).use ?_
 clear hw
 rintro _ w ⟨rfl,hw⟩
 rw [e3] at b3 l3 hw ⊢
 dsimp only at b3 l3 hw ⊢
 refine ⟨_,rfl,?_⟩
 have b4:=rdNum_bd (most:=mI) b3
 have l4:(rdNum mI rd3).2.bs.length≤1099511627776:=Nat.le_trans rdNum_len l3
 obtain ⟨t,rd4,e4⟩:∃ y rd,rdNum mI rd3=(y,rd):=⟨_,_,rfl⟩
 refine (snum_spec b3 hw).use ?_
 clear hw
 rintro _ w ⟨rfl,hw⟩
 rw [e4] at b4 l4 hw ⊢
 dsimp only at b4 l4 hw ⊢
 refine ⟨_,rfl,?_⟩
 refine new_rule hw fun b w hw=>?_
 refine store_rule hw (by kernel_rfl) rfl (by simp [Value.cells]) fun w hw=>?_
 have hw:Sat R (RdAt r rd4::rqC b ⟨k,c,q,t,[]⟩ nilS::rqNew b2::Hs) w:=(hw.re (rqC b ⟨k,c,q,t,[]⟩ nilS)).swap
 have htl:=rdText_len (most:=4000) (rd:=rd4)
 obtain ⟨d,rd5,e5⟩:∃ y rd,rdText 4000 rd4=(y,rd):=⟨_,_,rfl⟩
 refine (rtext_spec (most:=4000) (by omega) l4 b4 hw).use ?_
 clear hw
 rintro _ w ⟨sd,rfl,hw⟩
 rw [e5] at hw htl
 dsimp only at hw htl
 refine ⟨sd,rfl,?_⟩
 refine store_rule hw (by kernel_rfl) rfl (by simp [Value.cells]) fun w hw=>?_
 have hC:rqRd mI ⟨bs,false⟩=(⟨k,c,q,t,d⟩,rd5):=by
  rw [←e0]
  unfold rqRd
  simp only [e1,e2,e3,e4,e5]
 obtain ⟨C,eC⟩:∃ C:Rq,C=⟨k,c,q,t,d⟩:=⟨_,rfl⟩
 have hw:Sat R (rqC b C sd::Own sd 5 (b8 C.cmd)::RdAt r rd5::rqNew b2::Hs) w:=by rw [eC];exact hw.re (rqC b ⟨k,c,q,t,d⟩ sd)
 rw [←eC] at hC
 have hdec:rqDec mI bs=if rdWhole rd5=true∧RightQ C then (C,0) else (zeroQ,6):=by unfold rqDec;rw [hC]
 clear hC eC e0 e1 e2 e3 e4 e5 b0 b1 b2' b3 b4 l0 l1 l2 l3
 have hw:Sat R (RdAt r rd5::rqC b C sd::Own sd 5 (b8 C.cmd)::rqNew b2::Hs) w:=hw.arr
 refine (whole_spec hw).use ?_
 clear hw
 rintro _ w ⟨rfl,hw⟩
 have no:rqDec mI bs=(zeroQ,6)→∀ {w},Sat R (rqNew b2::Hs) w→∃ t:Sl,Value.tuple #[.agg (rqV zeroQ nilS).toArray,.int .i64 6]=.tuple #[.agg (rqV (rqDec mI bs).1 t).toArray,.int .i64 (rqDec mI bs).2]∧Sat R (Own t 5 (b8 (rqDec mI bs).1.cmd)::Hs) w:=fun e {w} hw=>by
  rw [e]
  exact ⟨nilS,rfl,Own.nil hw.drop⟩
 refine ⟨_,rfl,Br.nb (fun h=>?_) (fun h=>?_)⟩
 ·have hw:Sat R (rqNew b2::Hs) w:=hw.drop.drop.drop
  refine store_rule hw (by kernel_rfl) rfl (by simp [Value.cells]) fun w hw=>?_
  have hw:=hw.re (rqNew b2)
  refine ⟨_,_,_,_,nilS,At.own (eqS hw) (by exact ⟨rfl,rfl,rfl,rfl,rfl,trivial⟩),no ?_ hw⟩
  rw [hdec,if_neg (by rintro ⟨h1,_⟩;rw [h1] at h;cases h)]
 refine ⟨C.kind,C.client,C.seq,C.token,sd,At.own (eqS hw) (by exact ⟨rfl,rfl,rfl,rfl,rfl,trivial⟩),?_⟩
 have hsl:sd.len=C.cmd.length:=by
  have:=Own.len (hw.arr (Hs':=Own sd 5 (b8 C.cmd)::RdAt r rd5::rqC b C sd::rqNew b2::Hs))
  simpa using this
 refine (srightQ_spec hsl hw).use ?_
 clear hw
 rintro _ w ⟨rfl,hw⟩
 refine ⟨_,rfl,Br.nb (fun h2=>?_) (fun h2=>?_)⟩
 ·have hw:Sat R (rqNew b2::Hs) w:=hw.drop.drop.drop
  refine store_rule hw (by kernel_rfl) rfl (by simp [Value.cells]) fun w hw=>?_
  have hw:=hw.re (rqNew b2)
  refine ⟨_,_,_,_,nilS,At.own (eqS hw) (by exact ⟨rfl,rfl,rfl,rfl,rfl,trivial⟩),no ?_ hw⟩
  rw [hdec,if_neg (by rintro ⟨_,h1⟩;rw [decide_eq_true h1] at h2;cases h2)]
 refine ⟨C.kind,C.client,C.seq,C.token,sd,At.own (eqS hw) (by exact ⟨rfl,rfl,rfl,rfl,rfl,trivial⟩),?_⟩
 have hw:Sat R (rqNew b2::Own sd 5 (b8 C.cmd)::RdAt r rd5::rqC b C sd::Hs) w:=hw.arr
 refine store_rule hw (by kernel_rfl) rfl (by simp [Value.cells]) fun w hw=>?_
 have hw:=hw.re (rqC b2 C sd)
 refine ⟨C.kind,C.client,C.seq,C.token,sd,At.own (eqS hw) (by exact ⟨rfl,rfl,rfl,rfl,rfl,trivial⟩),?_⟩
 rw [hdec,if_pos ⟨h,of_decide_eq_true h2⟩]
 exact ⟨sd,rfl,hw.drop.cons fun _ h=>h.drop.drop⟩
abbrev tdNew (b:Nat):HP:=tdC b zeroT nilS
end Go.Proofs.YtflgboncpbmikaaGreatDoor
