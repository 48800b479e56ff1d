/- SL, part 3: rules for stores, for a slice that one owns, for append. Condition of the last: a bound on the new length. -/
import Derived.Test.YthpmfnffkjjlnaaGreatB1
import Derived.Deep.AppendSrc
import Derived.Deep.DeepAppendWide
import Derived.Laws.AppendOwn
import Derived.Laws.IdiomCopy
import Derived.Sort.Grow
import Derived.Lib.SliceRun
import GoSem.Instr.MapUpdate
import GoSem.Builtin.Delete
import Derived.MapKept
import Derived.Lib.ConvBytes
import Derived.Laws.BytesArg
import Derived.Laws.Strings
import Derived.Below
import Derived.Sort.KeysCollected
import Derived.Maps.Own
import Derived.Laws.BitsAllLaws
import Derived.Lib.AppendZeros
import Derived.Laws.MakeOwn
import Derived.Maps.RangeRun
import Derived.Shelf.Small.Bits
import Derived.Shelf.Small.Wraps
import Derived.Shelf.Strconv.Itoa0
import Derived.Shelf.Sort.Plain
import Derived.Ground.Names2Prog
import Derived.Shelf.Slices.Clone
import Derived.Shelf.Slices.SearchI
import Derived.Shelf.Slices.In.SortNone
import Derived.Ground.SlgnProg
import Derived.Shelf.SlicesE.Clone
import Derived.Test.YthpmfnffkjjlnaaGreatProg
import Derived.Lib.BitFns
import Derived.KernelRfl
set_option linter.unusedVariables false
set_option linter.unusedSimpArgs false
namespace Go.VC
def ZdS:List Value->Nat->List Value->List Value
 |l,_,[]=>l
 |l,o,v::vs=>ZdS (l.set o v) (o + 1) vs
theorem Zc:∀ (vs l:List Value) (o:Nat),(ZdS l o vs).length=l.length
 |[],_,_=>rfl
 |_::vs,l,o=>by rw [ZdS,Zc vs,List.length_set]
theorem Zgk:∀ (vs l:List Value) (o:Nat),o + vs.length<=l.length->ZdS l o vs=l.take o++vs++l.drop (o + vs.length)
 |[],l,o,_=>by simp [ZdS]
 |v::vs,l,o,h=>by
  simp only [List.length_cons] at h;rw [ZdS,Zgk vs (l.set o v) (o + 1) (by simp;omega)];have e1:(l.set o v).take (o + 1)=l.take o++[v]:=by
   rw [List.take_succ_eq_append_getElem (by simp;omega)];simp [List.take_set_of_le]
  have e2:(l.set o v).drop (o + 1 + vs.length)=l.drop (o + (vs.length + 1)):=by
   rw [List.drop_set_of_lt (by omega)];congr 1;omega
  rw [e1,e2];simp
theorem Zf9 {w:World} {b o:Nat} {l:List Value} {T:TypeId} {fr:Nat × Nat} (h:w.heap[b]? =some (.cells l.toArray T fr)) (v:Value):
  w.setCell ⟨b,o,none⟩ v=w.setBlock b (.cells (l.set o v).toArray T fr):=by
 unfold World.setCell World.setBlock
 congr 1
 apply Array.ext_getElem?;intro i;rw [Array.getElem?_modify,Array.getElem?_setIfInBounds];by_cases hi:b=i
 ·subst hi
  obtain ⟨hlt,hg⟩:=Array.getElem?_eq_some_iff.1 h;simp [hlt,hg]
 ·simp [hi]
theorem ZaY {R:Cx} {Hs:List HP} {b:Nat} {T:TypeId} {fr:Nat × Nat}:∀ (vs l:List Value) (o:Nat) (w:World),Sat R (pts b (.cells l.toArray T fr)::Hs) w->
  Sat R (pts b (.cells (ZdS l o vs).toArray T fr)::Hs) (w.setCells b o vs)
 |[],_,_,_,h=>h
 |v::vs,l,o,w,h=>by
  rw [World.setCells,Zf9 h.at,ZdS];exact ZaY vs (l.set o v) (o + 1) _ (h.setPts _)
def Zkl (n:Nat) (fr:Nat × Nat):Prop:=fr.2=0\/n<=fr.1
theorem Zkl.le {n m:Nat} {fr:Nat × Nat} (h:Zkl n fr) (hm:m<=n):Zkl m fr:=h.imp id λ h=>Nat.le_trans hm h
theorem Zch {w:World} {b:Nat} {l:Array Value} {T:TypeId} {fr:Nat × Nat} {n:Nat} (h:w.heap[b]? =some (.cells l T fr)) (hf:Zkl n fr) {i:Nat} (hi:i<n):w.frozen? ⟨b,i,none⟩=false:=by
 obtain ⟨lo,hi'⟩:=fr;simp only [World.frozen?,h];rcases hf with hf|hf<;>simp only at hf<;>simp<;>omega
def Zah (vs:List Value):Bool:=vs.all (·.oneCell')
theorem Za {P:Program} {R:Cx} {Hs Rest:List HP} {w:World} {b o:Nat} {l:List Value} {T t:TypeId} {fr:Nat × Nat} {v:Value} {K:World->Prop}
  (hw:Sat R Hs w) [tk:Zbk b Hs (.cells l.toArray T fr) Rest] (hsz:(P.info? t).map (·.size)=some v.cells.toList.length) (h1:Zah v.cells.toList=true) (hb:o + v.cells.toList.length<=l.length)
  (k:∀ w',Sat R (pts b (.cells (ZdS l o v.cells.toList).toArray T fr)::Rest) w'->K w') (hfr:Zkl l.length fr:=by first|assumption|exact Or.inl rfl):
  ∃ w',(Instr.storeAt t (.pointer (some ⟨b,o,none⟩)) v).run P w=.ok () w'/\K w':=by
 have hp:=hw.takeP tk;have hat:=hp.at;obtain ⟨i,hi,hsz⟩:=Option.map_eq_some_iff.1 hsz;refine ⟨w.setCells b o v.cells.toList,?_,k _ (ZaY _ _ _ _ hp)⟩;have hst:=run_storeCells_cells (P:=P) b o v.cells.toList 0 w (λ j hj=>by
   simp only [Nat.add_zero];rw [Za1 hat];simp;omega) (λ j hj=>Zch hat hfr (by omega)) (λ u hu=>List.all_eq_true.1 h1 u hu)
 simp only [Nat.add_zero] at hst;simp [Instr.storeAt,Instr.sureAddr,storeVar,sizeOf,typeInfo,hi,hsz,hst]
def Own (s:Sl) (T:TypeId) (xs:List Value):HP:=λ h=>
 (s=⟨none,0,0⟩/\xs=[]/\h=ZK.none)\/∃ b rest fr,s=⟨some ⟨b,0,none⟩,xs.length,(xs++rest).length⟩/\Zkl (xs++rest).length fr/\h=ZK.one b (.cells (xs++rest).toArray T fr)
theorem Own.nil {R:Cx} {Hs:List HP} {w:World} {T:TypeId} (h:Sat R Hs w):Sat R (Own ⟨none,0,0⟩ T []::Hs) w:=
 ⟨ZK.none,.inl ⟨rfl,rfl,rfl⟩,λ i hi=>absurd rfl hi,by rw [Cx.add_none];exact h⟩
theorem Own.of_pts {R:Cx} {Hs:List HP} {w:World} {T:TypeId} {b:Nat} {fr:Nat × Nat} {xs rest:List Value} (h:Sat R (pts b (.cells (xs++rest).toArray T fr)::Hs) w) (hf:Zkl (xs++rest).length fr:=by first|assumption|exact Or.inl rfl):
  Sat R (Own ⟨some ⟨b,0,none⟩,xs.length,(xs++rest).length⟩ T xs::Hs) w:=
 let ⟨a,ha,hd,hs⟩:=h;⟨a,.inr ⟨b,rest,fr,rfl,hf,ha⟩,hd,hs⟩
theorem Own.cases {R:Cx} {Hs:List HP} {w:World} {T:TypeId} {s:Sl} {xs:List Value} (h:Sat R (Own s T xs::Hs) w):
  (s=⟨none,0,0⟩/\xs=[]/\Sat R Hs w)\/∃ b rest fr,s=⟨some ⟨b,0,none⟩,xs.length,(xs++rest).length⟩/\Zkl (xs++rest).length fr/\Sat R (pts b (.cells (xs++rest).toArray T fr)::Hs) w:=by
 obtain ⟨a,ha,hd,hs⟩:=h;rcases ha with ⟨h1,h2,rfl⟩|⟨b,rest,fr,h1,hf,rfl⟩
 ·rw [Cx.add_none] at hs;exact .inl ⟨h1,h2,hs⟩
 ·exact .inr ⟨b,rest,fr,h1,hf,_,rfl,hd,hs⟩
theorem Own.len {R:Cx} {Hs:List HP} {w:World} {T:TypeId} {s:Sl} {xs:List Value} (h:Sat R (Own s T xs::Hs) w):s.len=xs.length:=by
 rcases Own.cases h with ⟨rfl,rfl,_⟩|⟨b,rest,fr,rfl,_,_⟩<;>rfl
theorem Own.lend {R:Cx} {Hs:List HP} {w:World} {T:TypeId} {s:Sl} {xs:List Value} (h:Sat R (Own s T xs::Hs) w) (hb:xs.length<=9223372036854775807):
  ∃ R':Cx,Ro R' s xs/\(∀ s' xs',Ro R s' xs'->Ro R' s' xs')/\Sat R' Hs w/\∀ {Hs' w'},Sat R' Hs' w'->Sat R (Own s T xs::Hs') w':=by
 rcases Own.cases h with ⟨rfl,rfl,h2⟩|⟨b,rest,fr,rfl,hf,h2⟩
 ·exact ⟨R,⟨rfl,by simp,λ h=>absurd rfl h⟩,λ _ _ h=>h,h2,λ h=>Own.nil h⟩
 ·obtain ⟨hn,h3⟩:=Sat.lend.1 h2
  refine ⟨_,⟨rfl,hb,λ _=>⟨b,0,_,T,fr,rfl,Cx.lent hn,λ i v hv=>?_⟩⟩,λ _ _ h=>h.add,h3,λ h=>Own.of_pts (Sat.lend.2 ⟨hn,h⟩)⟩;obtain ⟨hi,rfl⟩:=List.getElem?_eq_some_iff.1 hv;simp [List.getElem?_append_left hi]
def elB (P:Program) (T:TypeId) (bytes:Nat):Bool:=
 match P.info? T with
 |some i=>match i.zero with
  |some z=>i.size==1 && i.bytes==bytes && z.cells.size==1
  |none=>false
 |none=>false
theorem Zlz {P:Program} {T:TypeId} {bytes:Nat} (h:elB P T bytes=true):∃ i z,P.info? T=some i/\i.zero=some z/\i.size=1/\i.bytes=bytes/\z.cells.size=1:=by
 unfold elB at h;split at h
 ·rename_i i hi
  split at h
  ·rename_i z hz
   simp only [Bool.and_eq_true,beq_iff_eq] at h;exact ⟨i,z,hi,hz,h.1.1,h.1.2,h.2⟩
  ·cases h
 ·cases h
structure El (P:Program) (t1 t2 T:TypeId) (bytes:Nat):Prop where
 ht:P.underlying t1=some (.slice T)
 hk:∃ e',P.underlying t2=some (.slice e')
 hi:elB P T bytes=true
theorem Zbj {P:Program} {t1 t2 ty T:TypeId} {bytes:Nat} (E:El P t1 t2 T bytes) {R:Cx} {Hs:List HP} {w:World} {s:Sl} {xs ys:List Value} {src:Value} {n:Nat} {K:Sl->World->Prop}
  (hw:Sat R (Own s T xs::Hs) w) (hs:Src P 1 t2 src n ys w) (h1:Zah xs=true) (hb:2 * (xs.length + n) * bytes<=281474976710656) (hb':xs.length + n<=9223372036854775807)
  (k:∀ s' w',Sat R (Own s' T (xs++ys)::Hs) w'->K s' w'):
  ∃ w',∃ t:Sl,(Builtin.append_ #[t1,t2] ty #[.slice s.a s.len s.cap,src]).run P w=.ok (.slice t.a t.len t.cap) w'/\K t w':=by
 obtain ⟨i,z,hi,hz,hsize,hbytes,hzc⟩:=Zlz E.hi;have hyn:ys.length=n:=by have:=hs.newsLen;simpa using this
 have hs':Src P i.size t2 src n ys w:=by rw [hsize];exact hs
 have hlen:=Own.len hw;have fit:∀ cap,cap<xs.length + n->Builtin.nextslicecap (xs.length + n) cap * i.bytes<=281474976710656:=λ cap hc=>by
  have h2:Builtin.nextslicecap (xs.length + n) cap<=2 * (xs.length + n):=by
   unfold Builtin.nextslicecap;split
   ·omega
   ·split
    ·omega
    ·have:=nextslicecap_le_wide hc
     unfold Builtin.nextslicecap at this;rw [if_neg (by assumption),if_neg (by assumption)] at this;omega
  rw [hbytes];exact Nat.le_trans (Nat.mul_le_mul_right _ h2) hb
 -- a new row
 have grow:∀ (base:Option Addr) (cap:Nat) (olds:List Value),olds=xs->cap<xs.length + n->(Builtin.firstCells i.size xs.length (.slice base xs.length cap)).run P w.drew=.ok olds.toArray w.drew->Sat R Hs w->
   ∃ w',∃ t:Sl,(Builtin.append_ #[t1,t2] ty #[.slice base xs.length cap,src]).run P w=.ok (.slice t.a t.len t.cap) w'/\K t w':=λ base cap olds ho hc hold hw=>by
  have hr:=run_append_grow_src w t1 t2 ty T i z E.ht hi hz base xs.length cap olds hold src n ys hs' hc (by omega) (fit cap hc);refine ⟨_,⟨some ⟨w.heap.size,0,none⟩,xs.length + n,grownCap w (xs.length + n) cap T⟩,hr,k _ _ ?_⟩;have hz0:(Builtin.zeroCells z.cells (grownCap w (xs.length + n) cap T - (xs.length + n))).size=grownCap w (xs.length + n) cap T - (xs.length + n):=by
   simp [Builtin.zeroCells,hzc]
  have hg:=grownCap_ge w (xs.length + n) cap T;have ho':Obj.cells ((olds++ys).toArray++Builtin.zeroCells z.cells (grownCap w (xs.length + n) cap T - (xs.length + n))) T=.cells ((xs++ys)++(Builtin.zeroCells z.cells (grownCap w (xs.length + n) cap T - (xs.length + n))).toList).toArray T (0,0):=by
   rw [ho]
   congr 1
   apply Array.ext';simp
  have:=Sat.alloc (Obj.cells ((olds++ys).toArray++Builtin.zeroCells z.cells (grownCap w (xs.length + n) cap T - (xs.length + n))) T) (Sat.drew hw);rw [ho'] at this ⊢;have h3:=Own.of_pts this;have e:(⟨some ⟨w.drew.heap.size,0,none⟩,(xs++ys).length,(xs++ys++(Builtin.zeroCells z.cells (grownCap w (xs.length + n) cap T - (xs.length + n))).toList).length⟩:Sl)=⟨some ⟨w.heap.size,0,none⟩,xs.length + n,grownCap w (xs.length + n) cap T⟩:=by
   simp only [List.length_append,Array.length_toList,hz0,World.size_drew,hyn]
   congr 1
   omega
  rw [e] at h3;exact h3
 rcases Own.cases hw with ⟨rfl,rfl,hz2⟩|⟨b,rest,fr,rfl,hfr,hp⟩
 ·by_cases hn0:n=0
  ·subst hn0
   have hy:ys=[]:=List.length_eq_zero_iff.1 hyn;subst hy;obtain ⟨e',he'⟩:=E.hk;refine ⟨w,⟨none,0,0⟩,?_,k _ _ (by simpa using Own.nil hz2)⟩;have hcz:=hs'.cells;simp [Builtin.append_,run_underlying E.ht,run_underlying he',sizeOf,typeInfo,hi,hs'.len,hcz]
  ·exact grow none 0 [] rfl (by simp;omega) (run_firstCells_none w.drew i.size 0 0 0) hz2
 ·by_cases hroom:xs.length + n<=(xs++rest).length
  ·have hat:=hp.at
   have hr:=run_append_room_src w t1 t2 ty T i E.ht hi b 0 xs.length (xs++rest).length src n ys hs' hroom
    (λ j hj=>by rw [Za1 hat,hsize];simp at hroom ⊢;omega) (λ j hj=>Zch hat hfr (by rw [hsize,Nat.mul_one];simp only [List.length_append] at hroom ⊢;omega))
   refine ⟨_,⟨some ⟨b,0,none⟩,xs.length + n,(xs++rest).length⟩,hr,k _ _ ?_⟩;have h2:=ZaY ys (xs++rest) xs.length w hp;have e1:ZdS (xs++rest) xs.length ys=(xs++ys)++rest.drop n:=by
    rw [Zgk _ _ _ (by rw [hyn];exact hroom),List.take_left',List.drop_append]
    ·simp [hyn]
    ·rfl
   rw [e1] at h2;rw [hsize,Nat.zero_add,Nat.mul_one];have h3:=Own.of_pts h2 (hfr.le (by simp only [List.length_append,List.length_drop] at hroom ⊢;omega));have e:(⟨some ⟨b,0,none⟩,(xs++ys).length,(xs++ys++rest.drop n).length⟩:Sl)=⟨some ⟨b,0,none⟩,xs.length + n,(xs++rest).length⟩:=by
    simp only [List.length_append,List.length_drop,hyn] at hroom ⊢
    congr 1
    omega
   rw [e] at h3;exact h3
  ·have hat:=hp.at
   refine grow (some ⟨b,0,none⟩) (xs++rest).length xs rfl (by omega) ?_ hp.drop;refine run_firstCells_some w.drew i.size xs.length ⟨b,0,none⟩ xs.length _ xs (by rw [hsize];simp) ?_;intro j u hj;rw [World.cell?_drew,ZG,Za1 hat,Nat.zero_add];obtain ⟨hlt,rfl⟩:=List.getElem?_eq_some_iff.1 hj;simp [List.getElem?_append_left hlt]
theorem Ziw {P:Program} {t2:TypeId} (hk:∃ e',P.underlying t2=some (.slice e')) {R:Cx} {Hs Rest:List HP} {w:World} {b:Nat} {x:Value} {T:TypeId} {fr:Nat × Nat} (c:Nat)
  (hw:Sat R Hs w) [t:Zbk b Hs (.cells [x].toArray T fr) Rest] (h1:x.oneCell'=true):Src P 1 t2 (.slice (some ⟨b,0,none⟩) 1 c) 1 [x] w:=by
 obtain ⟨e',he'⟩:=hk;refine Go.Src.ofSlice w he' _ 1 c [x] rfl ?_ ?_
 ·intro j u hj
  have:=hw.look b;rw [ZG,Za1 this];simpa using hj
 ·intro u hu;simp at hu;subst hu;exact h1
theorem Zes {P:Program} {t1 t2 ty T T':TypeId} {bytes:Nat} (E:El P t1 t2 T bytes) {R:Cx} {Hs:List HP} {w:World} {s:Sl} {xs:List Value} {x:Value} {K:Sl->World->Prop}
  (hw:Sat R (Own s T xs::Hs) w) (h1:Zah xs=true) (hx:x.oneCell'=true) (hb:2 * (xs.length + 1) * bytes<=281474976710656) (hb':xs.length + 1<=9223372036854775807)
  (k:∀ s' w',Sat R (Own s' T (xs++[x])::Hs) w'->K s' w'):
  New (.cells #[x] T' (0,0)) (λ b w=>∃ w',∃ t:Sl,(Builtin.append_ #[t1,t2] ty #[.slice s.a s.len s.cap,.slice (some ⟨b,0,none⟩) 1 1]).run P w=.ok (.slice t.a t.len t.cap) w'/\K t w') w:=by
 refine Zd hw λ b w hw=>?_;have hw:Sat R (pts b (.cells [x].toArray T' (0,0))::Own s T xs::Hs) w:=hw;exact Zbj E hw.swap (Ziw E.hk 1 hw hx) h1 hb hb' λ s' w' h=>k s' w' h.swap.drop
theorem Zcv {P:Program} {t1 t2 ty T T':TypeId} (E:El P t1 t2 T 8) {R:Cx} {Hs:List HP} {w:World} {s:Sl} {xs:List Int} {x:Int} {K:Sl->World->Prop}
  (hw:Sat R (Own s T (xs.map (Value.int .i64))::Hs) w) (hb:xs.length<1000000000000)
  (k:∀ s' w',Sat R (Own s' T ((xs++[x]).map (Value.int .i64))::Hs) w'->K s' w'):
  New (.cells #[.int .i64 x] T' (0,0)) (λ b w=>∃ w',∃ t:Sl,(Builtin.append_ #[t1,t2] ty #[.slice s.a s.len s.cap,.slice (some ⟨b,0,none⟩) 1 1]).run P w=.ok (.slice t.a t.len t.cap) w'/\K t w') w:=
 Zes E hw (by unfold Zah;simp [Value.oneCell']) rfl (by rw [List.length_map];omega) (by rw [List.length_map];omega) λ s' w' h=>k s' w' (by simpa using h)
theorem Sat.grows {R:Cx} {Hs:List HP}:∀ (os:List Obj) {w:World},Sat R Hs w->Sat R Hs (Go.Sort.grow w os.toArray)
 |[],w,h=>by simpa using h
 |o::os,w,h=>by
  have h1:=Sat.grows os (Sat.alloc o h).drop;rw [Go.Sort.alloc_eq_grow,Go.Sort.grow_grow] at h1;have e:(#[o]++os.toArray:Array Obj)=(o::os).toArray:=by simp
  rw [e] at h1;exact h1
theorem Zh8 {w:World} {b:Nat} {l:Array Value} {T:TypeId} {fr:Nat × Nat} (h:w.heap[b]? =some (.cells l T fr)) (f:Array Value->Array Value):
  Go.Sort.mapBlock w b f=w.setBlock b (.cells (f l) T fr):=by
 unfold Go.Sort.mapBlock World.setBlock
 congr 1
 apply Array.ext_getElem?;intro i;rw [Array.getElem?_modify,Array.getElem?_setIfInBounds];by_cases hi:b=i
 ·subst hi
  obtain ⟨hlt,hg⟩:=Array.getElem?_eq_some_iff.1 h;simp [hlt,hg,Go.Sort.onCells]
 ·simp [hi]
theorem ZjA {R:Cx} {Hs:List HP} {w:World} {b:Nat} {T:TypeId} {fr:Nat × Nat} {α:Type} [Inhabited α] (enc:α->Value) {xs ys:List α} {rest:List Value} (hl:ys.length=xs.length)
  (hw:Sat R (pts b (.cells (xs.map enc++rest).toArray T fr)::Hs) w) (n:Nat) (os:Array Obj):
  Sat R (pts b (.cells (ys.map enc++rest).toArray T fr)::Hs) (Go.Sort.grow (Go.Sort.putRow enc (Go.Sort.ahead w n) b 0 ys.toArray) os):=by
 have h0:Sat R (pts b (.cells (xs.map enc++rest).toArray T fr)::Hs) (Go.Sort.ahead w n):=hw.alk ⟨rfl,rfl,rfl,rfl⟩;have h1:=h0.setPts (.cells (ys.map enc++rest).toArray T fr);have e:Go.Sort.putRow enc (Go.Sort.ahead w n) b 0 ys.toArray=(Go.Sort.ahead w n).setBlock b (.cells (ys.map enc++rest).toArray T fr):=by
  unfold Go.Sort.putRow;rw [Zh8 h0.at]
  congr 2
  apply Array.ext';apply List.ext_getElem?;intro i;simp only [Go.Sort.putCells,Array.toList_mapIdx,List.getElem?_mapIdx];by_cases hi:i<ys.length
  ·have hx:i<xs.length:=by omega
   rw [List.getElem?_append_left (by simpa using hx),List.getElem?_append_left (by simpa using hi)];simp [hi,hx]
  ·have hx:¬ i<xs.length:=by omega
   rw [List.getElem?_append_right (by simp;omega),List.getElem?_append_right (by simp;omega)];simp [hl,hx]
 rw [e];have:=Sat.grows os.toList h1;simpa using this
theorem At.ints {S:World->Prop} {R:Cx} {Hs Rest:List HP} {b:Nat} {xs:List Int} {T:TypeId} {fr:Nat × Nat} (hS:∀ w,S w->Sat R Hs w)
  [t:Zbk b Hs (.cells (xs.map (Value.int .i64)).toArray T fr) Rest] {i:Nat} (hi:i<xs.length):At S (Addr.add ⟨b,0,none⟩ i) [.int .i64 xs[i]]:=by
 rw [ZG];refine At.own hS ?_;rw [Nat.zero_add,List.drop_eq_getElem_cons (by simpa using hi)];exact ⟨by simp,trivial⟩
theorem Pre.refl:∀ l:List Value,Pre l l
 |[]=>trivial
 |_::l=>⟨rfl,Pre.refl l⟩
theorem Zh4 (xs:List Int):Zah (xs.map (Value.int .i64))=true:=by
 unfold Zah;simp [Value.oneCell']
theorem Own.lendI {R:Cx} {Hs:List HP} {w:World} {T:TypeId} {s:Sl} {xs:List Int} (h:Sat R (Own s T (xs.map (Value.int .i64))::Hs) w) (hb:xs.length<=9223372036854775807):
  ∃ R':Cx,RoI R' s xs/\(∀ s' xs',Ro R s' xs'->Ro R' s' xs')/\Sat R' Hs w/\∀ {Hs' w'},Sat R' Hs' w'->Sat R (Own s T (xs.map (Value.int .i64))::Hs') w':=
 Own.lend h (by simpa using hb)
theorem Zei {P:Program} {R:Cx} {Hs Rest:List HP} {w:World} {b i:Nat} {l:List Int} {T t:TypeId} {kd:IntKind} {x:Int} {K:World->Prop}
  (hsz:(P.info? t).map (·.size)=some 1) (hw:Sat R Hs w) [tk:Zbk b Hs (.cells (l.map (Value.int kd)).toArray T (0,0)) Rest] (hi:i<l.length)
  (k:∀ w',Sat R (pts b (.cells ((l.set i x).map (Value.int kd)).toArray T (0,0))::Rest) w'->K w'):
  ∃ w',(Instr.storeAt t (.pointer (some (Addr.add ⟨b,0,none⟩ i))) (.int kd x)).run P w=.ok () w'/\K w':=by
 rw [ZG];refine Za hw (tk:=tk) (by rw [hsz];rfl) rfl (by simp [Value.cells];omega) λ w' h=>k w' ?_;have e:ZdS (l.map (Value.int kd)) (0 + i) (Value.int kd x).cells.toList=(l.set i x).map (Value.int kd):=by
  simp [ZdS,Value.cells,List.map_set]
 rw [e] at h;exact h
section
variable {P:Program} {R:Cx} {Hs Rest:List HP} {w:World} {s:Sl} {T:TypeId}
theorem Own.addr {xs:List Value} (hw:Sat R (Own s T xs::Hs) w) {k:Nat} (hk:k<xs.length):∃ b,s.a=some ⟨b,0,none⟩/\
  ∀ {S:World->Prop} {Hs'},(∀ w,S w->Sat R (Own s T xs::Hs') w)->At S (Addr.add ⟨b,0,none⟩ k) [xs[k]]:=by
 rcases Own.cases hw with ⟨_,rfl,_⟩|⟨b,rest,fr,rfl,_,_⟩
 ·simp at hk
 ·refine ⟨b,rfl,λ hS w hs i v hv=>?_⟩
  have hi:i=0:=by
   cases i with
   |zero=>rfl
   |succ i=>simp at hv
  subst hi;simp only [List.getElem?_cons_zero,Option.some.injEq] at hv;subst hv;rcases Own.cases (hS w hs) with ⟨h0,_,_⟩|⟨b',rest',fr',he,_,h⟩
  ·cases h0
  ·simp only [Sl.mk.injEq,Option.some.injEq,Addr.mk.injEq,and_true] at he
   obtain ⟨rfl,_⟩:=he;rw [ZG,ZG,Za1 h.at];simp [List.getElem?_append_left hk]
theorem Own.cap {xs:List Value} (hw:Sat R (Own s T xs::Hs) w):s.len<=s.cap:=by
 rcases Own.cases hw with ⟨rfl,_,_⟩|⟨b,rest,fr,rfl,_,_⟩
 ·exact Nat.le_refl _
 ·simp
theorem Own.idx {kd:IntKind} {xs:List Int} {S:World->Prop} {Hs':List HP} (hw:Sat R (Own s T (xs.map (Value.int kd))::Hs) w) (hS:∀ w,S w->Sat R (Own s T (xs.map (Value.int kd))::Hs') w) {k:Nat} (hk:k<xs.length) {F:Int->Prop} (h:F xs[k]):
  Rng (k:Int) s.len (Zb s.a λ a=>∃ t:Int,(At S (a.add (k:Int).toNat) [.int kd t])/\F t):=by
 obtain ⟨b,ha,hat⟩:=Own.addr hw (k:=k) (by simpa using hk);have hl:=Own.len hw;rw [List.length_map] at hl;refine Rng.mk (by omega) (by omega) (Zb.mk ha ⟨xs[k],?_,h⟩);have:=hat hS;simpa using this
theorem Own.store {t:TypeId} {kd:IntKind} {xs:List Int} (hsz:(P.info? t).map (·.size)=some 1) (hw:Sat R (Own s T (xs.map (Value.int kd))::Hs) w) {k:Nat} (hk:k<xs.length) {x:Int} {K:World->Prop}
  (h:∀ w',Sat R (Own s T ((xs.set k x).map (Value.int kd))::Hs) w'->K w'):
  Rng (k:Int) s.len (Zb s.a λ a=>∃ w',(Instr.storeAt t (.pointer (some (Addr.add a (k:Int).toNat))) (.int kd x)).run P w=.ok () w'/\K w'):=by
 have hl:=Own.len hw;rw [List.length_map] at hl;rcases Own.cases hw with ⟨_,h0,_⟩|⟨b,rest,fr,rfl,hfr,hp⟩
 ·simp at h0;subst h0;simp at hk
 ·refine Rng.mk (by omega) (by simp only at hl ⊢;omega) (Zb.mk rfl ?_)
  rw [ZG];refine Za hp (by rw [hsz];rfl) rfl (by simp [Value.cells];omega) λ w' h2=>h w' ?_;have e:ZdS (xs.map (Value.int kd)++rest) (0 + (k:Int).toNat) (Value.int kd x).cells.toList=(xs.set k x).map (Value.int kd)++rest:=by
   simp only [ZdS,Value.cells,Nat.zero_add,Int.toNat_natCast];rw [List.set_append_left _ _ (by simpa using hk),List.map_set]
  rw [e] at h2;have h3:=Own.of_pts h2 (hfr.le (by simp));simpa using h3
theorem Own.clearTail {t ty:TypeId} {kd:IntKind} {xs:List Int} (ht:P.underlying t=some (.slice T)) (hv:∀ w,(zeroValue T).run P w=.ok (.int kd 0) w)
  (hw:Sat R (Own s T (xs.map (Value.int kd))::Hs) w) {k:Nat} (hk:k<=xs.length) {K:World->Prop}
  (h:∀ w',Sat R (Own ⟨s.a,k,s.cap⟩ T ((xs.take k).map (Value.int kd))::Hs) w'->K w'):
  ∃ w',(Builtin.clear_ #[t] ty #[.slice (ZbB s.a k s.cap 1) (s.len - k) (s.cap - k)]).run P w=.ok (.tuple #[]) w'/\K w':=by
 have hl:=Own.len hw;rw [List.length_map] at hl;rcases Own.cases hw with ⟨rfl,h0,hn⟩|⟨b,rest,fr,rfl,hfr,hp⟩
 ·simp at h0;subst h0
  obtain rfl:k=0:=by simpa using hk
  refine ⟨w,?_,h w (by simpa using Own.nil hn)⟩;simp [ZbB,Builtin.clear_,run_underlying ht]
 ·simp only at hl
  simp only [List.length_map] at hl ⊢;by_cases hk2:k=xs.length
  ·subst hk2
   refine ⟨w,?_,h w ?_⟩
   ·cases hc:ZbB (some ⟨b,0,none⟩) xs.length (xs.length + rest.length) 1<;>simp [Builtin.clear_,run_underlying ht,hc]
   ·rw [List.take_length];simpa using Own.of_pts hp
  ·have hne:¬ (xs.map (Value.int kd)++rest).length=k:=by simp;omega
   have ha:ZbB (some ⟨b,0,none⟩) k (xs.map (Value.int kd)++rest).length 1=some ⟨b,k,none⟩:=by
    simp only [ZbB,if_neg hne,Option.map_some,ZG];simp
   rw [ha];refine ⟨_,Lib.run_clear_slice w t T ty (.int kd 0) ht hv rfl rfl b k (xs.length - k) _ (by omega) (λ j hj=>by rw [Za1 hp.at];simp;omega) (λ j hj=>Zch hp.at hfr (by simp;omega)),h _ ?_⟩;have h2:=ZaY (List.replicate (xs.length - k) (Value.int kd 0)) _ k w hp;rw [Zgk _ _ _ (by simp;omega)] at h2;have e:(xs.map (Value.int kd)++rest).take k++List.replicate (xs.length - k) (Value.int kd 0)++(xs.map (Value.int kd)++rest).drop (k + (List.replicate (xs.length - k) (Value.int kd 0)).length)=(xs.take k).map (Value.int kd)++(List.replicate (xs.length - k) (Value.int kd 0)++rest):=by
    rw [List.length_replicate,List.take_append_of_le_length (by simpa using hk),show k + (xs.length - k)=(xs.map (Value.int kd)).length by simp;omega,List.drop_left,List.map_take,List.append_assoc]
   rw [e] at h2;have h3:=Own.of_pts h2 (hfr.le (by simp;omega));have e2:(⟨some ⟨b,0,none⟩,((xs.take k).map (Value.int kd)).length,((xs.take k).map (Value.int kd)++(List.replicate (xs.length - k) (Value.int kd 0)++rest)).length⟩:Sl)=⟨some ⟨b,0,none⟩,k,(xs.map (Value.int kd)++rest).length⟩:=by
    simp only [List.length_map,List.length_append,List.length_take,List.length_replicate,Sl.mk.injEq,true_and];omega
   rw [e2] at h3;exact h3
end
section
class ZaU (α:Type) [BEq α] where
 enc:α->Value
 desc:TypeDesc
 same:∀ a b,Instr.sameNow desc (enc a) (enc b)=some (a==b)
 bits:∀ a,Instr.sameBits 10000 (enc a) (enc a)=true
 eq:∀ a b:α,(a==b)=true->a=b
 check:∀ (P:Program) (em:Bool) (K:TypeId) (a:α) (w:World),P.underlying K=some desc->(Instr.checkKey em 10000 K (enc a)).run P w=.ok () w
instance:ZaU ByteArray where
 enc:=Value.string
 desc:=.string
 same a b:=rfl
 bits a:=by
  have:∀ n,Instr.sameBits n (.string a) (.string a)=(a==a):=λ n=>by cases n<;>rfl
  rw [this];exact (MapKept.bytes_beq a a).2 rfl
 eq a b h:=(MapKept.bytes_beq a b).1 h
 check P em K a w h:=by
  show (Instr.checkKey em (9999 + 1) K (.string a)).run P w=_;unfold Instr.checkKey;simp [run_underlying h]
variable {α:Type} [BEq α] [ZaU α]
abbrev En (α:Type):=α × Value × Nat
def mkE (e:En α):MapEntry:={ key:=ZaU.enc e.1,val:=e.2.1,born:=e.2.2 }
def ZmV (k:α):List (En α)->Option Value
 |[]=>none
 |e::es=>if k==e.1 then some e.2.1 else ZmV k es
def ZlX (k:α) (v:Value):List (En α)->List (En α)
 |[]=>[]
 |e::es=>if k==e.1 then (e.1,v,e.2.2)::es else e::ZlX k v es
def Zkm (k:α) (es:List (En α)):Bool:=(ZmV k es).isSome
def ZmQ (k:α) (v:Value) (es:List (En α)) (clock:Nat):List (En α):=if Zkm k es then ZlX k v es else es++[(k,v,clock)]
def ZgQ (k:α):List (En α)->Nat->Option (Nat × Value)
 |[],_=>none
 |e::es,i=>if k==e.1 then some (i,e.2.1) else ZgQ k es (i + 1)
theorem ZfJ (k:α):∀ (es:List (En α)) (i:Nat),Instr.findNow (ZaU.desc α) (ZaU.enc k) (es.map mkE) i=some (ZgQ k es i)
 |[],_=>rfl
 |e::es,i=>by
  rw [List.map_cons,Instr.findNow,mkE,ZaU.same,ZgQ];cases h:(k==e.1)
  ·simpa using ZfJ k es (i + 1)
  ·rfl
omit [ZaU α] in
theorem Zgy (k:α):∀ (es:List (En α)) (i:Nat),(ZgQ k es i).map (·.2)=ZmV k es
 |[],_=>rfl
 |e::es,i=>by
  rw [ZgQ,ZmV];cases h:(k==e.1)
  ·exact Zgy k es (i + 1)
  ·rfl
theorem ZcP {P:Program} {K:TypeId} (hK:P.underlying K=some (ZaU.desc α)) (k:α) (es:List (En α)) (w:World):
  (Instr.findKey K (ZaU.enc k) (es.map mkE)).run P w=.ok (ZgQ k es 0) w:=by
 unfold Instr.findKey;simp [run_underlying hK,ZfJ]
theorem Zd4 {P:Program} (k:α) (w:World):(Instr.keyThatStays (ZaU.enc k) (ZaU.enc k)).run P w=.ok (ZaU.enc k) w:=by
 unfold Instr.keyThatStays;rw [if_pos (ZaU.bits k)];rfl
theorem ZjK {P:Program} {T K E:TypeId} (hT:P.underlying T=some (.map K E)) (hK:P.underlying K=some (ZaU.desc α)) {z:Value} (hz:∀ w,(zeroValue E).run P w=.ok z w)
  {w:World} {m clock:Nat} {es:List (En α)} (hm:w.heap[m]? =some (.map (es.map mkE).toArray clock)) (k:α) (c:Bool):
  (Instr.lookup T (.map (some m)) (ZaU.enc k) c).run P w=.ok (if c then .tuple #[(ZmV k es).getD z,.bool (Zkm k es)] else (ZmV k es).getD z) w:=by
 have hv:=Zgy k es 0;have hck:=ZaU.check P (es.map mkE).toArray.isEmpty K k w hK;have hfk:=ZcP hK k es w;unfold Instr.lookup;cases hi:ZgQ k es 0 with
 |none=>
  rw [hi] at hv hfk;simp only [Option.map_none] at hv;simp only [Sem.run_bind,run_underlying hT,Result.andThen,MapKept.run_getObj_map hm,Sem.run_pure,hck,hfk,hz,Zkm,<-hv];rfl
 |some p=>
  rw [hi] at hv hfk;simp only [Option.map_some] at hv;simp only [Sem.run_bind,run_underlying hT,Result.andThen,MapKept.run_getObj_map hm,Sem.run_pure,hck,hfk,Zkm,<-hv];rfl
omit [ZaU α] in
theorem Zeb (k:α):∀ (es:List (En α)) (i:Nat),(∀ p,ZgQ k es i=some p->i<=p.1)
 |[],i,p,h=>by cases h
 |e::es,i,p,h=>by
  rw [ZgQ] at h;cases hk:(k==e.1)
  ·rw [hk] at h;have:=Zeb k es (i + 1) p (by simpa using h);omega
  ·rw [hk] at h;simp at h;subst h;exact Nat.le_refl _
theorem Zhk (k:α) (v:Value):∀ (es:List (En α)) (i:Nat) (p:Nat × Value),ZgQ k es i=some p->
  (es.map mkE).modify (p.1 - i) (λ e=>{ e with key:=ZaU.enc k,val:=v })=(ZlX k v es).map mkE
 |[],_,_,h=>by cases h
 |e::es,i,p,h=>by
  have hle:=Zeb k (e::es) i p h;rw [ZgQ] at h;cases hk:(k==e.1)
  ·rw [hk] at h
   have h':ZgQ k es (i + 1)=some p:=by simpa using h
   have hle2:=Zeb k es (i + 1) p h';obtain ⟨j,hj⟩:∃ j,p.1 - i=j + 1:=⟨p.1 - (i + 1),by omega⟩;have ih:=Zhk k v es (i + 1) p h';rw [show p.1 - (i + 1)=j by omega] at ih;rw [hj,ZlX,hk];simp only [List.map_cons,List.modify_succ_cons,Bool.false_eq_true,if_false,List.cons.injEq,true_and];exact ih
  ·rw [hk] at h
   simp at h;subst h;have:=ZaU.eq _ _ hk;subst this;rw [ZlX,hk];simp [mkE]
omit [ZaU α] in
theorem Zht (k:α) (es:List (En α)) (i:Nat):ZgQ k es i=none↔Zkm k es=false:=by
 unfold Zkm;rw [<-Zgy k es i];cases ZgQ k es i<;>simp
theorem Zlk (k:α):∀ (es:List (En α)) (i:Nat) (p:Nat × Value),ZgQ k es i=some p->p.1<i + es.length/\∃ e,(es.map mkE)[p.1 - i]? =some e/\e.key=ZaU.enc k
 |[],_,_,h=>by cases h
 |e::es,i,p,h=>by
  rw [ZgQ] at h;cases hk:(k==e.1)
  ·rw [hk] at h
   have h':ZgQ k es (i + 1)=some p:=by simpa using h
   have hle2:=Zeb k es (i + 1) p h';obtain ⟨h1,e',h2,h3⟩:=Zlk k es (i + 1) p h';refine ⟨by simp only [List.length_cons];omega,e',?_,h3⟩;obtain ⟨j,hj⟩:∃ j,p.1 - i=j + 1:=⟨p.1 - (i + 1),by omega⟩;rw [hj,List.map_cons,List.getElem?_cons_succ,show j=p.1 - (i + 1) by omega];exact h2
  ·rw [hk] at h
   simp at h;subst h;refine ⟨by simp,mkE e,by simp,?_⟩;rw [ZaU.eq _ _ hk];rfl
theorem Zjo {P:Program} {T K E:TypeId} (hT:P.underlying T=some (.map K E)) (hK:P.underlying K=some (ZaU.desc α))
  {w:World} {m clock:Nat} {es:List (En α)} (hm:w.heap[m]? =some (.map (es.map mkE).toArray clock)) (k:α) (v:Value):
  (Instr.mapUpdate T (.map (some m)) (ZaU.enc k) v).run P w=.ok () (w.setBlock m (.map ((ZmQ k v es clock).map mkE).toArray (if Zkm k es then clock else clock + 1))):=by
 have hck:=ZaU.check P false K k w hK;have hfk:=ZcP hK k es w;unfold Instr.mapUpdate;cases hi:ZgQ k es 0 with
 |none=>
  have hn:=(Zht k es 0).1 hi;rw [hi] at hfk;simp only [Sem.run_bind,run_underlying hT,Result.andThen,MapKept.run_getObj_map hm,hck,hfk,MapKept.run_setObj_map _ hm,ZmQ,hn,World.setBlock,Bool.false_eq_true,if_false];simp [mkE]
 |some p=>
  have hh:Zkm k es=true:=by
   cases h:Zkm k es
   ·rw [(Zht k es 0).2 h] at hi;cases hi
   ·rfl
  obtain ⟨_,e,he,hek⟩:=Zlk k es 0 p hi;have hmod:=Zhk k v es 0 p hi;rw [Nat.sub_zero] at he hmod;rw [hi] at hfk;have hkey:(((es.map mkE).toArray[p.1]?).map (·.key)).getD (ZaU.enc k)=ZaU.enc k:=by
   have:(es.map mkE).toArray[p.1]? =some e:=by simpa using he
   rw [this];exact hek
  simp only [Sem.run_bind,run_underlying hT,Result.andThen,MapKept.run_getObj_map hm,hck,hfk,hkey,Zd4,MapKept.run_setObj_map _ hm,ZmQ,hh,World.setBlock,if_true]
  congr 4
  apply Array.ext';rw [<-hmod];simp
end
section
variable {α:Type} [BEq α] [ZaU α]
def ZB {β:Type} (k:α):List (α × β)->Option β
 |[]=>none
 |e::es=>if k==e.1 then some e.2 else ZB k es
def Zbq {β:Type} (k:α) (v:β):List (α × β)->List (α × β)
 |[]=>[]
 |e::es=>if k==e.1 then (e.1,v)::es else e::Zbq k v es
def ZcG {β:Type} (k:α) (v:β) (es:List (α × β)):List (α × β):=if (ZB k es).isSome then Zbq k v es else es++[(k,v)]
abbrev Zbm (es:List (En α)):List (α × Value):=es.map λ e=>(e.1,e.2.1)
omit [ZaU α] in
theorem ZdI (k:α):∀ es:List (En α),ZmV k es=ZB k (Zbm es)
 |[]=>rfl
 |e::es=>by rw [ZmV,Zbm,List.map_cons,ZB,ZdI k es]
omit [ZaU α] in
theorem ZfD (k:α) (es:List (En α)):Zkm k es=(ZB k (Zbm es)).isSome:=by unfold Zkm;rw [ZdI]
omit [ZaU α] in
theorem Zfq (k:α) (v:Value):∀ es:List (En α),Zbm (ZlX k v es)=Zbq k v (Zbm es)
 |[]=>rfl
 |e::es=>by
  have ih:=Zfq k v es;unfold Zbm at *;rw [List.map_cons,ZlX,Zbq];split
  ·simp
  ·simp [ih]
omit [ZaU α] in
theorem ZjB (k:α) (v:Value) (es:List (En α)) (c:Nat):Zbm (ZmQ k v es c)=ZcG k v (Zbm es):=by
 unfold ZmQ ZcG;rw [ZfD];split
 ·exact Zfq k v es
 ·simp [Zbm]
def Zb1 (l:List (En α)) (c:Nat):Prop:=(∀ e∈l,e.2.2<c)/\(l.map (·.2.2)).Nodup
omit [ZaU α] in
theorem ZcO (k:α) (v:Value):∀ l:List (En α),(ZlX k v l).map (·.2.2)=l.map (·.2.2)
 |[]=>rfl
 |e::es=>by
  rw [ZlX];split
  ·rfl
  ·rw [List.map_cons,List.map_cons,ZcO k v es]
omit [ZaU α] in
theorem Zjs {l:List (En α)} {c:Nat} (h:Zb1 l c) (k:α) (v:Value):Zb1 (ZmQ k v l c) (if Zkm k l then c else c + 1):=by
 unfold ZmQ;split
 ·refine ⟨λ e he=>?_,by rw [ZcO];exact h.2⟩
  have:e.2.2∈(ZlX k v l).map (·.2.2):=List.mem_map_of_mem he;rw [ZcO] at this;obtain ⟨x,hx,hxe⟩:=List.mem_map.1 this;rw [<-hxe];exact h.1 x hx
 ·refine ⟨λ e he=>?_,?_⟩
  ·rcases List.mem_append.1 he with he|he
   ·have:=h.1 e he;omega
   ·simp at he;subst he;simp
  ·rw [List.map_append,List.nodup_append]
   refine ⟨h.2,by simp,λ x hx y hy=>?_⟩;simp at hy;obtain ⟨e,he,rfl⟩:=List.mem_map.1 hx;have:=h.1 e he;omega
def Zg (m:Nat) (es:List (α × Value)):HP:=λ h=>∃ (l:List (En α)) (c:Nat),Zbm l=es/\Zb1 l c/\h=ZK.one m (.map (l.map mkE).toArray c)
theorem Zg.iff {R:Cx} {Hs:List HP} {w:World} {m:Nat} {es:List (α × Value)}:Sat R (Zg m es::Hs) w↔∃ l c,Zbm l=es/\Zb1 l c/\Sat R (pts m (.map (l.map (mkE (α:=α))).toArray c)::Hs) w:=by
 constructor
 ·rintro ⟨a,⟨l,c,h1,h3,h2⟩,hd,hs⟩;exact ⟨l,c,h1,h3,a,h2,hd,hs⟩
 ·rintro ⟨l,c,h1,h3,a,h2,hd,hs⟩;exact ⟨a,⟨l,c,h1,h3,h2⟩,hd,hs⟩
structure ZoP (P:Program) (T:TypeId) (α:Type) [BEq α] [ZaU α] (K E:TypeId) (z:Value):Prop where
 hT:P.underlying T=some (.map K E)
 hK:P.underlying K=some (ZaU.desc α)
 hz:∀ w,(zeroValue E).run P w=.ok z w
variable {P:Program} {R:Cx} {Hs:List HP} {w:World} {m:Nat} {es:List (α × Value)} {T K E:TypeId} {z:Value}
theorem Zg.look (M:ZoP P T α K E z) (hw:Sat R (Zg m es::Hs) w) (k:α) (c:Bool):
  (Instr.lookup T (.map (some m)) (ZaU.enc k) c).run P w=.ok (if c then .tuple #[(ZB k es).getD z,.bool (ZB k es).isSome] else (ZB k es).getD z) w:=by
 obtain ⟨l,clk,rfl,_,hp⟩:=Zg.iff.1 hw;rw [ZjK M.hT M.hK M.hz hp.at k c,ZdI,ZfD]
theorem Zg.put (M:ZoP P T α K E z) (hw:Sat R (Zg m es::Hs) w) (k:α) (v:Value) {Q:World->Prop} (h:∀ w',Sat R (Zg m (ZcG k v es)::Hs) w'->Q w'):
  ∃ w',(Instr.mapUpdate T (.map (some m)) (ZaU.enc k) v).run P w=.ok () w'/\Q w':=by
 obtain ⟨l,clk,rfl,hst,hp⟩:=Zg.iff.1 hw;refine ⟨_,Zjo M.hT M.hK hp.at k v,h _ (Zg.iff.2 ⟨ZmQ k v l clk,_,ZjB k v l clk,Zjs hst k v,hp.setPts _⟩)⟩
theorem Zg.new {o:Obj} (ho:o=.map #[] 0) (hw:Sat R (pts m o::Hs) w):Sat R (Zg (α:=α) m []::Hs) w:=by
 subst ho;exact Zg.iff.2 ⟨[],0,rfl,⟨λ _ h=>(by cases h),List.nodup_nil⟩,hw⟩
section
variable {β:Type}
omit [ZaU α] in
theorem Zi5 {k:α} {v:β}:∀ {a b:List (α × β)},ZB k a=none->(k==k)=true->ZB k (a++(k,v)::b)=some v
 |[],b,_,hk=>by simp [ZB,hk]
 |e::a,b,h,hk=>by
  rw [ZB] at h;split at h
  ·cases h
  ·rename_i hne
   rw [List.cons_append,ZB,if_neg hne];exact Zi5 h hk
omit [ZaU α] in
theorem Zf8 {k:α} {v v':β}:∀ {a b:List (α × β)},ZB k a=none->(k==k)=true->Zbq k v' (a++(k,v)::b)=a++(k,v')::b
 |[],b,_,hk=>by simp [Zbq,hk]
 |e::a,b,h,hk=>by
  rw [ZB] at h;split at h
  ·cases h
  ·rename_i hne
   rw [List.cons_append,Zbq,if_neg hne,Zf8 h hk];rfl
theorem Zcz {k:α} {v:β}:∀ {l:List (α × β)},ZB k l=some v->∃ a b,l=a++(k,v)::b/\ZB k a=none
 |[],h=>by cases h
 |e::l,h=>by
  rw [ZB] at h;split at h
  ·rename_i hk
   cases h;have:=ZaU.eq _ _ hk;subst this;exact ⟨[],l,rfl,rfl⟩
  ·rename_i hne
   obtain ⟨a,b,rfl,ha⟩:=Zcz h;exact ⟨e::a,b,rfl,by rw [ZB,if_neg hne];exact ha⟩
omit [ZaU α] in
theorem Zbv {γ:Type} (f:β->γ) (k:α):∀ l:List (α × β),ZB k (l.map λ e=>(e.1,f e.2))=(ZB k l).map f
 |[]=>rfl
 |e::l=>by
  rw [List.map_cons,ZB,ZB,Zbv f k l];split<;>rfl
end
end
section
variable {P:Program} {R:Cx} {Hs:List HP} {w:World} {s:Sl} {T:TypeId}
theorem Ro.idxK {kd:IntKind} {xs:List Int} {S:World->Prop} (hr:Ro R s (xs.map (Value.int kd))) (hS:∀ w,S w->Sat R Hs w) {k:Nat} (hk:k<xs.length) {F:Int->Prop} (h:F xs[k]):
  Rng (k:Int) s.len (Zb s.a λ a=>∃ t:Int,(At S (a.add (k:Int).toNat) [.int kd t])/\F t):=by
 obtain ⟨a,ha,hat⟩:=hr.addr (k:=k) (by simpa using hk);have hl:s.len=xs.length:=by have:=hr.len;simpa using this
 refine Rng.mk (by omega) (by omega) (Zb.mk ha ⟨xs[k],?_,h⟩);have:=hat hS;simpa using this
theorem Zo0 {t2 e':TypeId} (ht:P.underlying t2=some (.slice e')) {xs:List Value} (hw:Sat R Hs w) (hs:Ro R s xs) (h1:Zah xs=true):Src P 1 t2 (.slice s.a s.len s.cap) xs.length xs w:=by
 have hl:s.len=xs.length:=hs.len;by_cases hx:xs=[]
 ·subst hx
  obtain ⟨a,n,c⟩:=s;simp only [List.length_nil] at hl;subst hl;cases a with
  |none=>exact Go.Src.ofNil _ ht _
  |some a=>exact Go.Src.ofSlice w ht _ 0 _ [] rfl (λ j u hj=>by simp at hj) (λ u hu=>by cases hu)
 ·obtain ⟨b,off,l,T,fr,ha,hb,hel⟩:=hs.mem hx
  obtain ⟨a,n,c⟩:=s;simp only at ha hl;subst ha hl;refine Go.Src.ofSlice w ht _ _ _ _ (by simp) (λ j u hj=>?_) (λ u hu=>List.all_eq_true.1 h1 u hu);rw [ZG];have:=hw.of_ro hb;simp only [World.cell?,this,Option.isSome_none,Bool.false_eq_true,if_false];exact hel j u hj
def Zm0 (s:ByteArray):List Int:=s.data.toList.map λ b=>(b.toNat:Int)
def strOf (xs:List Int):ByteArray:=⟨(xs.map λ n=>UInt8.ofNat n.toNat).toArray⟩
theorem Zec {src dst:TypeId} (hs:P.underlying src=some (.slice T)) (he:P.underlying T=some (.int .u8)) (hd:P.underlying dst=some .string) {xs:List Int}
  (hw:Sat R Hs w) (hr:Ro R s (xs.map (Value.int .u8))):(convert src dst (.slice s.a s.len s.cap)).run P w=.ok (.string (strOf xs)) w:=by
 have hl:s.len=xs.length:=by have:=hr.len;simpa using this
 by_cases hx:xs=[]
 ·subst hx
  obtain ⟨a,n,c⟩:=s;simp only [List.length_nil] at hl;subst hl;cases a with
  |none=>exact run_convert_bytes_nil w src T hs he _ _ dst hd
  |some a=>
   rw [run_convert_bytes_string w src dst T _ _ _ hs he hd,run_bytesToString w a 0 c [] (by simpa using run_loadCells_list (P:=P) w a [] (λ j v hj=>by simp at hj))];rfl
 ·obtain ⟨b,off,l,T',fr,ha,hb,hel⟩:=hr.mem (by simpa using hx)
  obtain ⟨a,n,c⟩:=s;simp only at ha hl;subst ha hl;refine (run_convert_bytes_arg w src T hs he b off _ c xs rfl (λ i hi=>?_) dst hd).trans rfl;have:=hw.of_ro hb;simp only [World.cell?,this,Option.isSome_none,Bool.false_eq_true,if_false];refine hel i _ ?_;simp [hi,List.getD]
theorem Zd0 {xs:List Int} (h:∀ n∈xs,0<=n/\n<256):Zm0 (strOf xs)=xs:=by
 unfold strOf Zm0;simp only [List.map_map]
 conv=>rhs;rw [<-List.map_id xs]
 apply List.map_congr_left;intro x hx;have:=h x hx;simp;omega
end
section
open Go Go.RowKit
structure ZlW (w w':World):Prop where
 os:w'.os=w.os
 tape:w'.tape=w.tape
 output:w'.output=w.output
 block:∀ k,k<w.heap.size->w'.heap[k]? =w.heap[k]?
theorem ZlW.of_below {w w':World} (h:Below w.heap.size w w'):ZlW w w':=⟨h.os,h.tape,h.output,h.block⟩
theorem Sat.keeps:∀ {Hs:List HP} {R:Cx} {w w':World},Sat R Hs w->ZlW w w'->Sat R Hs w'
 |[],_,w,_,h,e=>⟨λ b o hb=>by
   have:=h.1 b o hb;rw [e.block b (Array.getElem?_eq_some_iff.1 this).1];exact this,e.os.trans h.2.1,e.tape.trans h.2.2.1,e.output.trans h.2.2.2⟩
 |_::_,_,_,_,h,e=>let ⟨h',hH,hd,hs⟩:=h;⟨h',hH,hd,hs.keeps e⟩
theorem Sat.grewTo:∀ {Hs:List HP} {R:Cx} {w w':World} {b:Nat} {o:Obj},Sat R Hs w->ZlW w w'->w.heap.size<=b->w'.heap[b]? =some o->Sat (R.add (ZK.one b o)) Hs w'
 |[],R,w,w',b,o,h,e,hb,ho=>by
  refine ⟨λ i x hx=>?_,e.os.trans h.2.1,e.tape.trans h.2.2.1,e.output.trans h.2.2.2⟩;simp only [Cx.m_add,ZK.add,ZK.one] at hx;cases hr:R.m i with
  |some y=>
   rw [hr] at hx;have:=h.1 i y hr;rw [e.block i (Array.getElem?_eq_some_iff.1 this).1,this];exact hx
  |none=>
   rw [hr] at hx;simp only at hx;split at hx
   ·rename_i hi;subst hi;rw [ho];exact hx
   ·cases hx
 |H::Hs,R,w,w',b,o,h,e,hb,ho=>by
  have hR:R.m b=.none:=Sat.ro_lt h hb;obtain ⟨a,hA,hd,hs⟩:=h;have hadd:(R.add a).m b=.none:=Sat.ro_lt hs hb;have ha:a b=.none:=by simpa [Cx.m_add,ZK.add,hR] using hadd
  have:=Sat.grewTo hs e hb ho;have hdis:(ZK.one b o).dis a:=by
   intro i hi;simp only [ZK.one];split
   ·rename_i h;subst h;exact absurd ha hi
   ·rfl
  refine ⟨a,hA,Cx.add_dis hd hdis,?_⟩;rw [Cx.add_assoc,ZK.add_comm hdis,<-Cx.add_assoc];exact this
theorem Sat.fresh {R:Cx} {Hs:List HP} {w w':World} {b:Nat} {o:Obj} (h:Sat R Hs w) (e:ZlW w w') (hb:w.heap.size<=b) (ho:w'.heap[b]? =some o):Sat R (pts b o::Hs) w':=
 Sat.lend.2 ⟨Sat.ro_lt h hb,Sat.grewTo h e hb ho⟩
theorem Sat.ownsRow {R:Cx} {Hs:List HP} {w w':World} {T:TypeId} {v:Value} {n:Nat} {xs:List Value} (h:Sat R Hs w) (e:Below w.heap.size w w') (hr:w'.ownsRow w.heap.size T 1 v n xs):
  ∃ s:Sl,v=.slice s.a s.len s.cap/\Sat R (Own s T xs::Hs) w':=by
 obtain ⟨hl,h1|⟨g,cap,cur,rfl,hg,hb,hn,hc,hcs,ht⟩⟩:=hr
 ·obtain ⟨rfl,rfl⟩:=h1
  have:xs=[]:=by simpa using hl
  subst this;exact ⟨⟨none,0,0⟩,rfl,Own.nil (h.keeps (.of_below e))⟩
 ·rw [Nat.mul_one] at *
  have h2:=h.fresh (.of_below e) hg hb;have e1:cur=(xs++cur.toList.drop n).toArray:=by
   apply Array.ext';rw [<-ht];simp
  rw [e1] at h2;have h3:=Own.of_pts h2;refine ⟨_,?_,h3⟩;have:(xs++cur.toList.drop n).length=cap:=by
   have e2:cur.toList.length=cap:=by rw [Array.length_toList];exact hcs
   rw [List.length_append,List.length_drop,e2,hl];omega
  simp only [this,hl]
end
section
open Go Go.RowKit
variable {P:Program} {R:Cx} {Hs Rest:List HP} {w:World} {s:Sl} {T:TypeId} {n:Nat}
def Wid (n:Nat) (rows:List (List Value)):Prop:=∀ x∈rows,x.length=n
theorem Wid.nil {n:Nat}:Wid n []:=λ _ h=>by cases h
theorem Wid.app {n:Nat} {a b:List (List Value)} (ha:Wid n a) (hb:Wid n b):Wid n (a++b):=λ x hx=>(List.mem_append.1 hx).elim (ha x) (hb x)
theorem Wid.one {n:Nat} {x:List Value} (h:x.length=n):Wid n [x]:=λ y hy=>by simp at hy;rw [hy];exact h
theorem Wid.len {n:Nat}:∀ {rows:List (List Value)},Wid n rows->rows.flatten.length=rows.length * n
 |[],_=>by simp
 |x::rows,h=>by
  rw [List.flatten_cons,List.length_append,h x List.mem_cons_self,Wid.len (rows:=rows) (λ y hy=>h y (List.mem_cons_of_mem _ hy)),List.length_cons,Nat.add_mul];omega
theorem Wid.drop_flat {n:Nat}:∀ {rows:List (List Value)} (k:Nat),Wid n rows->rows.flatten.drop (k * n)=(rows.drop k).flatten
 |rows,0,_=>by simp
 |[],k + 1,_=>by simp
 |x::rows,k + 1,h=>by
  have hx:=h x List.mem_cons_self;rw [List.flatten_cons,List.drop_succ_cons,<-Wid.drop_flat (rows:=rows) k (λ y hy=>h y (List.mem_cons_of_mem _ hy)),List.drop_append];have e1:x.drop ((k + 1) * n)=[]:=List.drop_eq_nil_of_le (by rw [hx,Nat.add_mul];omega);have e2:(k + 1) * n - x.length=k * n:=by rw [hx,Nat.add_mul];omega
  rw [e1,e2,List.nil_append]
theorem Wid.take_flat {n:Nat} {rows:List (List Value)} (k:Nat) (h:Wid n rows):rows.flatten.take (k * n)=(rows.take k).flatten:=by
 by_cases hk:k<=rows.length
 ·have e:rows.flatten=(rows.take k).flatten++(rows.drop k).flatten:=by rw [<-List.flatten_append,List.take_append_drop]
  rw [e,List.take_left'];rw [Wid.len (λ x hx=>h x (List.mem_of_mem_take hx)),List.length_take,Nat.min_eq_left hk]
 ·rw [List.take_of_length_le (by rw [h.len];exact Nat.mul_le_mul_right _ (by omega)),List.take_of_length_le (by omega)]
theorem Wid.take {n k:Nat} {rows:List (List Value)} (h:Wid n rows):Wid n (rows.take k):=λ x hx=>h x (List.mem_of_mem_take hx)
theorem Wid.drop {n k:Nat} {rows:List (List Value)} (h:Wid n rows):Wid n (rows.drop k):=λ x hx=>h x (List.mem_of_mem_drop hx)
theorem Wid.set {n k:Nat} {rows:List (List Value)} {x:List Value} (h:Wid n rows) (hx:x.length=n):Wid n (rows.set k x):=λ y hy=>by
 rcases List.mem_or_eq_of_mem_set hy with hy|rfl
 ·exact h y hy
 ·exact hx
theorem Pre.app:∀ {vs a:List Value} (b:List Value),Pre vs a->Pre vs (a++b)
 |[],_,_,_=>trivial
 |_::_,_::_,b,h=>⟨h.1,Pre.app b h.2⟩
 |_::_,[],_,h=>h.elim
theorem Pre.len:∀ {vs a:List Value},Pre vs a->vs.length<=a.length
 |[],_,_=>Nat.zero_le _
 |_::_,_::_,h=>by simp only [List.length_cons];exact Nat.succ_le_succ (Pre.len h.2)
 |_::_,[],h=>h.elim
theorem Wid.pre {n k j:Nat} {rows:List (List Value)} (rest:List Value) (h:Wid n rows) (hk:k<rows.length) {vs:List Value} (hp:Pre vs (rows[k].drop j)):Pre vs ((rows.flatten++rest).drop (k * n + j)):=by
 cases vs with
 |nil=>trivial
 |cons v vs=>
  have hj:j<rows[k].length:=by
   have:=Pre.len hp;simp only [List.length_cons,List.length_drop] at this;omega
  have hx:rows[k].length=n:=h _ (List.getElem_mem _);have hle:k * n + j<=rows.flatten.length:=by
   rw [h.len];have:(k + 1) * n<=rows.length * n:=Nat.mul_le_mul_right _ (by omega);rw [Nat.add_mul] at this;omega
  rw [List.drop_append_of_le_length hle,Nat.add_comm (k * n) j,<-List.drop_drop];rw [Nat.add_comm] at hle;rw [List.drop_drop,Nat.add_comm j,<-List.drop_drop,h.drop_flat,List.drop_eq_getElem_cons hk,List.flatten_cons,List.drop_append_of_le_length (by omega),List.append_assoc];exact hp.app _
theorem ZiI {n:Nat}:∀ {rows:List (List Value)} {k j:Nat} (v:Value),Wid n rows->(hk:k<rows.length)->j<n->rows.flatten.set (k * n + j) v=(rows.set k (rows[k].set j v)).flatten
 |[],k,j,v,_,hk,_=>by simp at hk
 |x::rows,0,j,v,h,_,hj=>by
  have hx:=h x List.mem_cons_self;simp only [Nat.zero_mul,Nat.zero_add,List.flatten_cons,List.getElem_cons_zero,List.set_cons_zero];rw [List.set_append_left _ _ (by omega)]
 |x::rows,k + 1,j,v,h,hk,hj=>by
  have hx:=h x List.mem_cons_self;have hk':k<rows.length:=by simpa using hk
  simp only [List.flatten_cons,List.getElem_cons_succ,List.set_cons_succ];rw [List.set_append_right _ _ (by rw [hx,Nat.add_mul];omega)];have e:(k + 1) * n + j - x.length=k * n + j:=by rw [hx,Nat.add_mul];omega
  rw [e,ZiI v (λ y hy=>h y (List.mem_cons_of_mem _ hy)) hk' hj]
theorem Zhc {n:Nat} {rest:List Value}:∀ (vs:List Value) {rows:List (List Value)} {k j:Nat},Wid n rows->(hk:k<rows.length)->j + vs.length<=n->
  ZdS (rows.flatten++rest) (k * n + j) vs=(rows.set k (ZdS rows[k] j vs)).flatten++rest
 |[],rows,k,j,_,hk,_=>by simp [ZdS]
 |v::vs,rows,k,j,h,hk,hj=>by
  simp only [List.length_cons] at hj;have hb:k * n + j<rows.flatten.length:=by
   rw [h.len];have:(k + 1) * n<=rows.length * n:=Nat.mul_le_mul_right _ (by omega);rw [Nat.add_mul] at this;omega
  rw [ZdS,List.set_append_left _ _ hb,ZiI v h hk (by omega),Nat.add_assoc,Zhc vs (h.set (by rw [List.length_set];exact h _ (List.getElem_mem _))) (by simpa using hk) (by omega)];simp [ZdS]
def OwnN (n:Nat) (s:Sl) (T:TypeId) (rows:List (List Value)):HP:=λ h=>
 Wid n rows/\((s=⟨none,0,0⟩/\rows=[]/\h=ZK.none)\/
  ∃ b rest fr cap,s=⟨some ⟨b,0,none⟩,rows.length,cap⟩/\(rows.flatten++rest).length=cap * n/\Zkl (cap * n) fr/\h=ZK.one b (.cells (rows.flatten++rest).toArray T fr))
theorem OwnN.nil (h:Sat R Hs w):Sat R (OwnN n ⟨none,0,0⟩ T []::Hs) w:=
 ⟨ZK.none,⟨Wid.nil,.inl ⟨rfl,rfl,rfl⟩⟩,λ i hi=>absurd rfl hi,by rw [Cx.add_none];exact h⟩
theorem OwnN.of_pts {b cap:Nat} {fr:Nat × Nat} {rows:List (List Value)} {rest:List Value} (hwid:Wid n rows) (hl:(rows.flatten++rest).length=cap * n) (h:Sat R (pts b (.cells (rows.flatten++rest).toArray T fr)::Hs) w)
  (hf:Zkl (cap * n) fr:=by first|assumption|exact Or.inl rfl):Sat R (OwnN n ⟨some ⟨b,0,none⟩,rows.length,cap⟩ T rows::Hs) w:=
 let ⟨a,ha,hd,hs⟩:=h;⟨a,⟨hwid,.inr ⟨b,rest,fr,cap,rfl,hl,hf,ha⟩⟩,hd,hs⟩
theorem OwnN.cases {rows:List (List Value)} (h:Sat R (OwnN n s T rows::Hs) w):Wid n rows/\
  ((s=⟨none,0,0⟩/\rows=[]/\Sat R Hs w)\/∃ b rest fr cap,s=⟨some ⟨b,0,none⟩,rows.length,cap⟩/\(rows.flatten++rest).length=cap * n/\Zkl (cap * n) fr/\Sat R (pts b (.cells (rows.flatten++rest).toArray T fr)::Hs) w):=by
 obtain ⟨a,⟨hwid,ha⟩,hd,hs⟩:=h;refine ⟨hwid,?_⟩;rcases ha with ⟨h1,h2,rfl⟩|⟨b,rest,fr,cap,h1,h3,hf,rfl⟩
 ·rw [Cx.add_none] at hs;exact .inl ⟨h1,h2,hs⟩
 ·exact .inr ⟨b,rest,fr,cap,h1,h3,hf,_,rfl,hd,hs⟩
theorem OwnN.wid {rows:List (List Value)} (h:Sat R (OwnN n s T rows::Hs) w):Wid n rows:=(OwnN.cases h).1
theorem OwnN.len {rows:List (List Value)} (h:Sat R (OwnN n s T rows::Hs) w):s.len=rows.length:=by
 rcases (OwnN.cases h).2 with ⟨rfl,rfl,_⟩|⟨b,rest,fr,cap,rfl,_,_⟩<;>rfl
theorem OwnN.cap {rows:List (List Value)} (hn:0<n) (h:Sat R (OwnN n s T rows::Hs) w):s.len<=s.cap:=by
 have hwid:=(OwnN.cases h).1;rcases (OwnN.cases h).2 with ⟨rfl,rfl,_⟩|⟨b,rest,fr,cap,rfl,hl,_⟩
 ·exact Nat.le_refl _
 ·rw [List.length_append,hwid.len] at hl
  simp only;have:rows.length * n<=cap * n:=by omega
  exact Nat.le_of_mul_le_mul_right this hn
def ReadsN (n:Nat) (s:Sl) (rows:List (List Value)) (S:World->Prop):Prop:=
 s.len=rows.length/\∀ k (hk:k<rows.length),∃ b off,s.a=some ⟨b,off,none⟩/\∀ j vs,Pre vs (rows[k].drop j)->At S ⟨b,off + (k * n + j),none⟩ vs
theorem OwnN.reads {rows:List (List Value)} (hw:Sat R (OwnN n s T rows::Hs) w) {S:World->Prop} {Hs'} (hS:∀ w,S w->Sat R (OwnN n s T rows::Hs') w):ReadsN n s rows S:=by
 refine ⟨OwnN.len hw,λ k hk=>?_⟩;obtain ⟨hwid,⟨_,rfl,_⟩|⟨b,rest,fr,cap,rfl,hl,_,_⟩⟩:=OwnN.cases hw
 ·simp at hk
 ·refine ⟨b,0,rfl,λ j vs hp w hw i v hv=>?_⟩
  obtain ⟨_,⟨h0,_,_⟩|⟨b',rest',fr',cap',he,_,_,h⟩⟩:=OwnN.cases (hS w hw)
  ·cases h0
  ·simp only [Sl.mk.injEq,Option.some.injEq,Addr.mk.injEq,and_true] at he
   obtain ⟨rfl,_⟩:=he;have:=(Wid.pre rest' hwid hk hp).get i v hv;rw [List.getElem?_drop] at this;rw [ZG,Nat.zero_add,Za1 h.at,this]
theorem ReadsN.rng {S:World->Prop} {rows:List (List Value)} (h:ReadsN n s rows S) {k:Nat} (hk:k<rows.length) {F:Addr->Prop} (f:∀ b off,s.a=some ⟨b,off,none⟩->(∀ j vs,Pre vs (rows[k].drop j)->At S ⟨b,off + (k * n + j),none⟩ vs)->F ⟨b,off,none⟩):
  Rng (k:Int) s.len (Zb s.a F):=by
 obtain ⟨b,off,ha,hat⟩:=h.2 k hk;have:=h.1;exact Rng.mk (by omega) (by omega) (Zb.mk ha (f b off ha hat))
theorem Zi9 (b off k n j:Nat):(⟨(Addr.add ⟨b,off,none⟩ (Zaf k n)).block,(Addr.add ⟨b,off,none⟩ (Zaf k n)).off + j,none⟩:Addr)=⟨b,off + (k * n + j),none⟩:=by
 rw [ZG,ZdF];simp only [Addr.mk.injEq,and_true,true_and];omega
theorem ZhC (b off k n:Nat):Addr.add ⟨b,off,none⟩ (Zaf k n)=⟨b,off + (k * n + 0),none⟩:=by
 rw [ZG,ZdF];rfl
theorem OwnN.store {rows:List (List Value)} {t:TypeId} {v:Value} {k j:Nat} {b off:Nat} {K:World->Prop} (hw:Sat R (OwnN n s T rows::Hs) w) (ha:s.a=some ⟨b,off,none⟩) (hsz:(P.info? t).map (·.size)=some v.cells.toList.length) (h1:Zah v.cells.toList=true)
  (hk:k<rows.length) (hj:j + v.cells.toList.length<=n) (h:∀ w',Sat R (OwnN n s T (rows.set k (ZdS rows[k] j v.cells.toList))::Hs) w'->K w'):
  ∃ w',(Instr.storeAt t (.pointer (some ⟨b,off + (k * n + j),none⟩)) v).run P w=.ok () w'/\K w':=by
 obtain ⟨hwid,⟨rfl,_,_⟩|⟨b',rest,fr,cap,rfl,hl,hf,hp⟩⟩:=OwnN.cases hw
 ·cases ha
 ·simp only [Option.some.injEq,Addr.mk.injEq,and_true] at ha
  obtain ⟨rfl,rfl⟩:=ha;have hlt:(k + 1) * n<=rows.length * n:=Nat.mul_le_mul_right _ (by omega);rw [Nat.add_mul] at hlt;have hll:=hl;rw [List.length_append,hwid.len] at hll;rw [Nat.zero_add];refine Za hp hsz h1 (by rw [List.length_append,hwid.len];omega) (λ w' h2=>h w' ?_) (by rw [hl];exact hf);rw [Zhc _ hwid hk hj] at h2;have hl2:(ZdS rows[k] j v.cells.toList).length=n:=by rw [Zc];exact hwid _ (List.getElem_mem _)
  have:=OwnN.of_pts (cap:=cap) (hwid.set hl2) (by rw [<-hl,List.length_append,List.length_append,(hwid.set hl2).len,List.length_set,hwid.len]) h2;rw [List.length_set] at this;exact this
structure RoN (n:Nat) (R:Cx) (s:Sl) (rows:List (List Value)):Prop where
 wid:Wid n rows
 len:s.len=rows.length
 mem:rows≠[]->∃ b off l T fr,s.a=some ⟨b,off,none⟩/\R.m b=some (.cells l T fr)/\∀ (i:Nat) v,rows.flatten[i]? =some v->l[off + i]? =some v
theorem RoN.add {h:ZK} {rows:List (List Value)} (hr:RoN n R s rows):RoN n (R.add h) s rows:=
 ⟨hr.wid,hr.len,λ hx=>let ⟨b,off,l,T,fr,ha,hb,hl⟩:=hr.mem hx;⟨b,off,l,T,fr,ha,Cx.kept hb,hl⟩⟩
theorem RoN.reads {rows:List (List Value)} (hr:RoN n R s rows) {S:World->Prop} {Hs'} (hS:∀ w,S w->Sat R Hs' w):ReadsN n s rows S:=by
 refine ⟨hr.len,λ k hk=>?_⟩;obtain ⟨b,off,l,T,fr,ha,hb,hl⟩:=hr.mem (λ h=>by rw [h] at hk;simp at hk);refine ⟨b,off,ha,λ j vs hp w hw i v hv=>?_⟩;have h1:=(Wid.pre [] hr.wid hk hp).get i v hv;rw [List.append_nil,List.getElem?_drop] at h1;have:=(hS w hw).of_ro hb;rw [ZG];simp only [World.cell?,this,Option.isSome_none,Bool.false_eq_true,if_false];rw [Nat.add_assoc];exact hl _ _ h1
theorem OwnN.lend {rows:List (List Value)} (h:Sat R (OwnN n s T rows::Hs) w):
  ∃ R':Cx,RoN n R' s rows/\(∃ x,R'=R.add x)/\Sat R' Hs w/\∀ {Hs' w'},Sat R' Hs' w'->Sat R (OwnN n s T rows::Hs') w':=by
 obtain ⟨hwid,⟨rfl,rfl,h2⟩|⟨b,rest,fr,cap,rfl,hl,hf,h2⟩⟩:=OwnN.cases h
 ·exact ⟨R,⟨hwid,rfl,λ h=>absurd rfl h⟩,⟨ZK.none,(Cx.add_none R).symm⟩,h2,λ h=>OwnN.nil h⟩
 ·obtain ⟨hn,h3⟩:=Sat.lend.1 h2
  refine ⟨_,⟨hwid,rfl,λ _=>⟨b,0,_,T,fr,rfl,Cx.lent hn,λ i v hv=>?_⟩⟩,⟨_,rfl⟩,h3,λ h=>OwnN.of_pts hwid hl (Sat.lend.2 ⟨hn,h⟩)⟩;obtain ⟨hi,rfl⟩:=List.getElem?_eq_some_iff.1 hv;simp [List.getElem?_append_left hi]
theorem RoN.sub {rows:List (List Value)} (hr:RoN n R s rows) {l h m:Nat} (hlh:l<=h) (hh:h<=rows.length) (hm:m=l->h=l):RoN n R ⟨ZbB s.a l m n,h - l,m - l⟩ ((rows.take h).drop l):=by
 have hwid:Wid n ((rows.take h).drop l):=hr.wid.take.drop;refine ⟨hwid,by simp;omega,λ hne=>?_⟩;have hlt:l<h:=by
  have:0<((rows.take h).drop l).length:=List.length_pos_iff.2 hne;simp at this;omega
 obtain ⟨b,off,ls,T,fr,ha,hb,hl⟩:=hr.mem (λ h0=>by rw [h0] at hh;simp at hh;omega);refine ⟨b,off + l * n,ls,T,fr,?_,hb,λ i v hv=>?_⟩
 ·unfold ZbB
  rw [if_neg (λ e=>by have:=hm e;omega),ha];simp [ZG]
 ·rw [Nat.add_assoc]
  refine hl _ _ ?_;have e1:((rows.take h).drop l).flatten=(rows.flatten.take (h * n)).drop (l * n):=by
   rw [hr.wid.take_flat,hr.wid.take.drop_flat]
  rw [e1,List.getElem?_drop] at hv;rw [List.getElem?_take] at hv;split at hv
  ·exact hv
  ·cases hv
theorem RoN.take {rows:List (List Value)} (hr:RoN n R s rows) {h:Nat} (hh:h<=rows.length) (c:Nat):RoN n R ⟨s.a,h,c⟩ (rows.take h):=
 ⟨hr.wid.take,by simp;omega,λ hne=>by
  obtain ⟨b,off,ls,T,fr,ha,hb,hl⟩:=hr.mem (λ h0=>hne (by rw [h0];simp));refine ⟨b,off,ls,T,fr,ha,hb,λ i v hv=>hl _ _ ?_⟩;rw [<-hr.wid.take_flat,List.getElem?_take] at hv;split at hv
  ·exact hv
  ·cases hv⟩
def Zro (P:Program) (T:TypeId) (n bytes:Nat):Bool:=
 match P.info? T with
 |some i=>match i.zero with
  |some z=>i.size==n && i.bytes==bytes && z.cells.size==n
  |none=>false
 |none=>false
structure ElN (P:Program) (t1 t2 T:TypeId) (n bytes:Nat):Prop where
 ht:P.underlying t1=some (.slice T)
 hk:∃ e',P.underlying t2=some (.slice e')
 hi:Zro P T n bytes=true
theorem Zmw {P:Program} {T:TypeId} {n bytes:Nat} (h:Zro P T n bytes=true):∃ i z,P.info? T=some i/\i.zero=some z/\i.size=n/\i.bytes=bytes/\z.cells.size=n:=by
 unfold Zro at h;split at h
 ·rename_i i hi
  split at h
  ·rename_i z hz
   simp only [Bool.and_eq_true,beq_iff_eq] at h;exact ⟨i,z,hi,hz,h.1.1,h.1.2,h.2⟩
  ·cases h
 ·cases h
theorem ZaZ {t1 t2 ty:TypeId} {bytes:Nat} (E:ElN P t1 t2 T n bytes) {rows ys:List (List Value)} {src:Value} {K:Sl->World->Prop}
  (hw:Sat R (OwnN n s T rows::Hs) w) (hs:Src P n t2 src ys.length ys.flatten w) (hy:Wid n ys) (hb:2 * (rows.length + ys.length) * bytes<=281474976710656) (hb':rows.length + ys.length<=9223372036854775807)
  (k:∀ s' w',Sat R (OwnN n s' T (rows++ys)::Hs) w'->K s' w'):
  ∃ w',∃ t:Sl,(Builtin.append_ #[t1,t2] ty #[.slice s.a s.len s.cap,src]).run P w=.ok (.slice t.a t.len t.cap) w'/\K t w':=by
 obtain ⟨i,z,hi,hz,hsize,hbytes,hzc⟩:=Zmw E.hi;have hs':Src P i.size t2 src ys.length ys.flatten w:=by rw [hsize];exact hs
 have hlen:=OwnN.len hw;have hwid:=OwnN.wid hw;have hwid2:=hwid.app hy;generalize hcn:ys.length=c at *;have fit:∀ cap,cap<rows.length + c->Builtin.nextslicecap (rows.length + c) cap * i.bytes<=281474976710656:=λ cap hc=>by
  have h2:Builtin.nextslicecap (rows.length + c) cap<=2 * (rows.length + c):=by
   unfold Builtin.nextslicecap;split
   ·omega
   ·split
    ·omega
    ·have:=nextslicecap_le_wide hc
     unfold Builtin.nextslicecap at this;rw [if_neg (by assumption),if_neg (by assumption)] at this;omega
  rw [hbytes];exact Nat.le_trans (Nat.mul_le_mul_right _ h2) hb
 -- a new row
 have grow:∀ (base:Option Addr) (cap:Nat),cap<rows.length + c->(Builtin.firstCells i.size rows.length (.slice base rows.length cap)).run P w.drew=.ok rows.flatten.toArray w.drew->Sat R Hs w->
   ∃ w',∃ t:Sl,(Builtin.append_ #[t1,t2] ty #[.slice base rows.length cap,src]).run P w=.ok (.slice t.a t.len t.cap) w'/\K t w':=λ base cap hc hold hw=>by
  have hr:=run_append_grow_src w t1 t2 ty T i z E.ht hi hz base rows.length cap rows.flatten hold src c ys.flatten hs' hc (by omega) (fit cap hc);refine ⟨_,⟨some ⟨w.heap.size,0,none⟩,rows.length + c,grownCap w (rows.length + c) cap T⟩,hr,k _ _ ?_⟩;have hz0:(Builtin.zeroCells z.cells (grownCap w (rows.length + c) cap T - (rows.length + c))).size=(grownCap w (rows.length + c) cap T - (rows.length + c)) * n:=by
   simp [Builtin.zeroCells,hzc]
  have hg:=grownCap_ge w (rows.length + c) cap T;generalize hG:grownCap w (rows.length + c) cap T=G at *;have ho':Obj.cells ((rows.flatten++ys.flatten).toArray++Builtin.zeroCells z.cells (G - (rows.length + c))) T=.cells ((rows++ys).flatten++(Builtin.zeroCells z.cells (G - (rows.length + c))).toList).toArray T (0,0):=by
   congr 1
   apply Array.ext';simp
  have:=Sat.alloc (Obj.cells ((rows.flatten++ys.flatten).toArray++Builtin.zeroCells z.cells (G - (rows.length + c))) T) (Sat.drew hw);rw [ho'] at this ⊢;have hlenG:((rows++ys).flatten++(Builtin.zeroCells z.cells (G - (rows.length + c))).toList).length=G * n:=by
   have hz1:(Builtin.zeroCells z.cells (G - (rows.length + c))).toList.length=(G - (rows.length + c)) * n:=by rw [Array.length_toList];exact hz0
   rw [List.length_append,hz1,hwid2.len,List.length_append,hcn,<-Nat.add_mul]
   congr 1;omega
  have h3:=OwnN.of_pts (cap:=G) hwid2 hlenG this;have e:(⟨some ⟨w.drew.heap.size,0,none⟩,(rows++ys).length,G⟩:Sl)=⟨some ⟨w.heap.size,0,none⟩,rows.length + c,G⟩:=by
   simp only [List.length_append,World.size_drew,hcn]
  rw [e] at h3;exact h3
 obtain ⟨_,⟨rfl,rfl,hz2⟩|⟨b,rest,fr,cap,rfl,hl,hfr,hp⟩⟩:=OwnN.cases hw
 ·by_cases hn0:c=0
  ·subst hn0
   have hy0:ys=[]:=List.length_eq_zero_iff.1 hcn;subst hy0;obtain ⟨e',he'⟩:=E.hk;refine ⟨w,⟨none,0,0⟩,?_,k _ _ (by simpa using OwnN.nil hz2)⟩;have hcz:=hs'.cells;simp [Builtin.append_,run_underlying E.ht,run_underlying he',sizeOf,typeInfo,hi,hs'.len,hcz]
  ·exact grow none 0 (by simp;omega) (run_firstCells_none w.drew i.size 0 0 0) hz2
 ·have hl0:=hl
  rw [List.length_append,hwid.len] at hl;by_cases hroom:rows.length + c<=cap
  ·have hat:=hp.at
   have hcapn:(rows.length + c) * n<=cap * n:=Nat.mul_le_mul_right _ hroom;rw [Nat.add_mul] at hcapn;have hyl:ys.flatten.length=c * n:=by rw [hy.len,hcn]
   have hr:=run_append_room_src w t1 t2 ty T i E.ht hi b 0 rows.length cap src c ys.flatten hs' hroom
    (λ j hj=>by
     rw [Za1 hat,hsize,List.getElem?_eq_getElem (by rw [hl0];omega)];rfl) (λ j hj=>Zch hat hfr (by rw [hsize];omega))
   refine ⟨_,⟨some ⟨b,0,none⟩,rows.length + c,cap⟩,hr,k _ _ ?_⟩;have h2:=ZaY ys.flatten (rows.flatten++rest) (rows.length * n) w hp;have e1:ZdS (rows.flatten++rest) (rows.length * n) ys.flatten=(rows++ys).flatten++rest.drop (c * n):=by
    rw [Zgk _ _ _ (by rw [hyl,hl0];omega),List.take_left' hwid.len,hyl,<-List.drop_drop,List.drop_left' hwid.len];simp
   rw [e1] at h2;rw [hsize,Nat.zero_add];have h3:=OwnN.of_pts (cap:=cap) hwid2 (by rw [List.length_append,hwid2.len,List.length_append,hcn,List.length_drop,Nat.add_mul];omega) h2;rw [List.length_append,hcn] at h3;exact h3
  ·have hat:=hp.at
   refine grow (some ⟨b,0,none⟩) cap (by omega) ?_ hp.drop;refine run_firstCells_some w.drew i.size rows.length ⟨b,0,none⟩ rows.length _ rows.flatten (by rw [hsize,hwid.len]) ?_;intro j u hj;rw [World.cell?_drew,ZG,Za1 hat,Nat.zero_add];obtain ⟨hlt,rfl⟩:=List.getElem?_eq_some_iff.1 hj;simp [List.getElem?_append_left hlt]
theorem Zjg {t2:TypeId} (hk:∃ e',P.underlying t2=some (.slice e')) {b:Nat} {x:List Value} {fr:Nat × Nat} (c:Nat)
  (hw:Sat R Hs w) [t:Zbk b Hs (.cells x.toArray T fr) Rest] (hx:x.length=n) (h1:Zah x=true):Src P n t2 (.slice (some ⟨b,0,none⟩) 1 c) [x].length [x].flatten w:=by
 obtain ⟨e',he'⟩:=hk;refine Go.Src.ofSlice w he' _ 1 c _ (by simp [hx]) ?_ ?_
 ·intro j u hj
  have:=hw.look b;rw [ZG,Za1 this];simpa using hj
 ·intro u hu;simp at hu;exact List.all_eq_true.1 h1 u hu
theorem ZiH {t2:TypeId} (ht:∃ e',P.underlying t2=some (.slice e')) {rows:List (List Value)} (hw:Sat R Hs w) (hs:RoN n R s rows) (h1:Zah rows.flatten=true):Src P n t2 (.slice s.a s.len s.cap) rows.length rows.flatten w:=by
 obtain ⟨e',ht⟩:=ht;have hl:s.len=rows.length:=hs.len;by_cases hx:rows=[]
 ·subst hx
  obtain ⟨a,n,c⟩:=s;simp only [List.length_nil] at hl;subst hl;cases a with
  |none=>exact Go.Src.ofNil _ ht _
  |some a=>exact Go.Src.ofSlice w ht _ 0 _ [] (by simp) (λ j u hj=>by simp at hj) (λ u hu=>by cases hu)
 ·obtain ⟨b,off,l,T,fr,ha,hb,hel⟩:=hs.mem hx
  obtain ⟨a,n,c⟩:=s;simp only at ha hl;subst ha hl;refine Go.Src.ofSlice w ht _ _ _ _ (by rw [hs.wid.len]) (λ j u hj=>?_) (λ u hu=>List.all_eq_true.1 h1 u hu);rw [ZG];have:=hw.of_ro hb;simp only [World.cell?,this,Option.isSome_none,Bool.false_eq_true,if_false];exact hel j u hj
theorem ZjC {t1 t2 ty T':TypeId} {bytes:Nat} (E:ElN P t1 t2 T n bytes) {rows:List (List Value)} {x:List Value} {K:Sl->World->Prop}
  (hw:Sat R (OwnN n s T rows::Hs) w) (hx:x.length=n) (h1:Zah x=true) (hb:2 * (rows.length + 1) * bytes<=281474976710656) (hb':rows.length + 1<=9223372036854775807)
  (k:∀ s' w',Sat R (OwnN n s' T (rows++[x])::Hs) w'->K s' w'):
  New (.cells x.toArray T' (0,0)) (λ b w=>∃ w',∃ t:Sl,(Builtin.append_ #[t1,t2] ty #[.slice s.a s.len s.cap,.slice (some ⟨b,0,none⟩) 1 1]).run P w=.ok (.slice t.a t.len t.cap) w'/\K t w') w:=by
 refine Zd hw λ b w hw=>?_;have hw:Sat R (pts b (.cells x.toArray T' (0,0))::OwnN n s T rows::Hs) w:=hw;exact ZaZ E hw.swap (Zjg E.hk 1 hw hx h1) (Wid.one hx) hb hb' λ s' w' h=>k s' w' h.swap.drop
theorem OwnN.empty {b:Nat} {fr:Nat × Nat} (h:Sat R (pts b (.cells #[] T fr)::Hs) w):Sat R (OwnN n ⟨some ⟨b,0,none⟩,0,0⟩ T []::Hs) w:=
 OwnN.of_pts (rows:=[]) (rest:=[]) (cap:=0) Wid.nil (by simp) h (.inr (by simp))
theorem Zdq {t1 t2 ty:TypeId} {bytes b:Nat} {fr:Nat × Nat} (E:ElN P t1 t2 T n bytes) {ys:List (List Value)} {src:Value} {K:Sl->World->Prop}
  (hw:Sat R Hs w) [tk:Zbk b Hs (.cells ([]:List Value).toArray T fr) Rest] (hs:Src P n t2 src ys.length ys.flatten w) (hy:Wid n ys) (hb:2 * ys.length * bytes<=281474976710656) (hb':ys.length<=9223372036854775807)
  (k:∀ s' w',Sat R (OwnN n s' T ys::Rest) w'->K s' w'):
  ∃ w',∃ t:Sl,(Builtin.append_ #[t1,t2] ty #[.slice (some ⟨b,0,none⟩) 0 0,src]).run P w=.ok (.slice t.a t.len t.cap) w'/\K t w':=by
 have h2:=ZaZ (ty:=ty) (s:=⟨some ⟨b,0,none⟩,0,0⟩) (K:=K) E (OwnN.empty (hw.takeP tk)) hs hy (by simpa using hb) (by simpa using hb') (by simpa using k);exact h2
structure Elt (n:Nat) (S:World->Prop) (a:Addr) (k:Nat) (row:List Value):Prop where
 f:∀ (j:Nat) {vs:List Value},Pre vs (row.drop j)->At S ⟨(Addr.add a (Zaf (k:Int).toNat n)).block,(Addr.add a (Zaf (k:Int).toNat n)).off + j,none⟩ vs
 z:∀ {vs:List Value},Pre vs row->At S (Addr.add a (Zaf (k:Int).toNat n)) vs
 zz:∀ {vs:List Value},Pre vs row->At S (Addr.add (Addr.add a (Zaf (k:Int).toNat n)) 0) vs
theorem ZfN (b off k n:Nat):Addr.add (Addr.add ⟨b,off,none⟩ (Zaf k n)) 0=⟨b,off + (k * n + 0),none⟩:=by
 rw [ZhC,ZG];rfl
theorem ReadsN.rngM {α:Type} {E:List α} {g:α->List Value} {S:World->Prop} (h:ReadsN n s (E.map g) S) {k:Nat} (hk:k<E.length) {F:Addr->Prop} (f:∀ a,s.a=some a->Elt n S a k (g E[k])->F a):Rng (k:Int) s.len (Zb s.a F):=by
 have hg:(E.map g)[k]'(by simpa using hk)=g E[k]:=by simp
 refine h.rng (k:=k) (by simpa using hk) λ b off ha hat=>f _ ha ⟨λ j vs hp=>?_,λ hp=>?_,λ hp=>?_⟩
 ·rw [Int.toNat_natCast,Zi9];exact hat j _ (by rw [hg];exact hp)
 ·rw [Int.toNat_natCast,ZhC];exact hat 0 _ (by rw [hg];exact hp)
 ·rw [Int.toNat_natCast,ZfN];exact hat 0 _ (by rw [hg];exact hp)
theorem OwnN.readsM {rows:List (List Value)} (hw:Sat R Hs w) [t:Zfj (OwnN n s T rows) Hs Rest] {S:World->Prop} (hS:∀ w,S w->Sat R Hs w):ReadsN n s rows S:=
 OwnN.reads (hw.perm t.perm) λ w h=>(hS w h).perm t.perm
theorem OwnN.storeM {α:Type} {E:List α} {g:α->List Value} {t:TypeId} {v:Value} {k:Nat} {a:Addr} {K:World->Prop} (j:Nat) (e':α) (hw:Sat R Hs w) [tk:Zfj (OwnN n s T (E.map g)) Hs Rest] (ha:s.a=some a) (hk:k<E.length)
  (hsz:(P.info? t).map (·.size)=some v.cells.toList.length) (h1:Zah v.cells.toList=true) (hj:j + v.cells.toList.length<=n) (he:ZdS (g E[k]) j v.cells.toList=g e')
  (h:∀ w',Sat R (OwnN n s T ((E.set k e').map g)::Rest) w'->K w'):
  ∃ w',(Instr.storeAt t (.pointer (some ⟨(Addr.add a (Zaf (k:Int).toNat n)).block,(Addr.add a (Zaf (k:Int).toNat n)).off + j,none⟩)) v).run P w=.ok () w'/\K w':=by
 have hw:=hw.perm tk.perm;have hg:(E.map g)[k]'(by simpa using hk)=g E[k]:=by simp
 have hb:∃ b off,a=⟨b,off,none⟩:=by
  obtain ⟨_,⟨rfl,_,_⟩|⟨b',rest,fr,cap,rfl,hl,hf,hp⟩⟩:=OwnN.cases hw
  ·cases ha
  ·simp only [Option.some.injEq] at ha;exact ⟨b',0,ha.symm⟩
 obtain ⟨b,off,rfl⟩:=hb;rw [Int.toNat_natCast,Zi9];refine OwnN.store hw ha hsz h1 (by simpa using hk) hj λ w' h2=>h w' ?_;rw [hg,he] at h2;rw [List.map_set];exact h2
class Arr (Hs Hs':List HP):Prop where
 perm:Hs.Perm Hs'
instance (priority:=2000) Arr.refl {Hs:List HP}:Arr Hs Hs:=⟨List.Perm.refl _⟩
instance Arr.cons {A:HP} {Hs Rest Hs':List HP} [t:Zfj A Hs Rest] [r:Arr Rest Hs']:Arr Hs (A::Hs'):=⟨t.perm.trans (r.perm.cons A)⟩
theorem Sat.arr {Hs':List HP} (h:Sat R Hs w) [a:Arr Hs Hs']:Sat R Hs' w:=h.perm a.perm
theorem Br.d {p:Prop} {inst:Decidable p} {A B:Prop} (h:p->A) (h':¬ p->B):Br (@decide p inst) A B:=Br.mk (λ e=>h (of_decide_eq_true e)) (λ e=>h' (of_decide_eq_false e))
theorem Br.nd {p:Prop} {inst:Decidable p} {A B:Prop} (h:¬ p->A) (h':p->B):Br (!@decide p inst) A B:=Br.mk (λ e=>h (by simpa using e)) (λ e=>h' (by simpa using e))
theorem Br.e {x y:Int} {A B:Prop} (h:x=y->A) (h':¬ x=y->B):Br (x==y) A B:=Br.mk (λ e=>h (by simpa using e)) (λ e=>h' (by simpa using e))
theorem Br.ne {x y:Int} {A B:Prop} (h:¬ x=y->A) (h':x=y->B):Br (x !=y) A B:=Br.mk (λ e=>h (by simpa using e)) (λ e=>h' (by simpa using e))
theorem Br.nb {b:Bool} {A B:Prop} (h:b=false->A) (h':b=true->B):Br (!b) A B:=Br.mk (λ e=>h (by simpa using e)) (λ e=>h' (by simpa using e))
theorem Znd (a b:ByteArray):(a.toList==b.toList)=decide (a=b):=by
 rw [ByteArray.toList_eq,ByteArray.toList_eq];by_cases h:a=b
 ·simp [h]
 ·have:a.data≠b.data:=λ h2=>h (by cases a;cases b;simp_all)
  simp [h,this]
theorem Br.sne {x y:ByteArray} {A B:Prop} (h:¬ x=y->A) (h':x=y->B):Br (!(x.toList==y.toList)) A B:=by rw [Znd];exact Br.nd h h'
end
theorem Zkq {x:Int} (h0:0<=x) (h1:x<256):IntKind.u8.wrap x=x:=by rw [IntKind.wrap_u8'];omega
theorem ZhU (x:Int):IntKind.u8.wrap x=x % 256:=IntKind.wrap_u8' x
theorem ZhV {x:Int} (h0:0<=x) (h1:x<18446744073709551616):IntKind.u64.wrap x=x:=by rw [IntKind.wrap_u64];omega
theorem Zjc (n x:Nat) (h:x<2 ^ n):(BitVec.ofInt n (x:Int)).toNat=x:=by
 rw [BitVec.toNat_ofInt];have:((x:Int) % (2 ^ n:Nat))=x:=Int.emod_eq_of_lt (by omega) (by exact_mod_cast h);rw [this];rfl
theorem Zrg {x y:Nat} (hx:x<18446744073709551616) (hy:y<18446744073709551616):ZfU .or .u64 x y=((x|||y:Nat):Int):=by
 have e:(BitVec.ofInt 64 (x:Int)|||BitVec.ofInt 64 (y:Int)).toNat=x|||y:=by rw [BitVec.toNat_or,Zjc 64 x hx,Zjc 64 y hy]
 show IntKind.u64.wrap (((BitVec.ofInt 64 (x:Int)|||BitVec.ofInt 64 (y:Int)).toNat:Nat):Int)=_;rw [e];have:x|||y<18446744073709551616:=Nat.or_lt_two_pow (n:=64) hx hy
 exact ZhV (by omega) (by omega)
theorem Znn (x y:Nat) (hy:y<256):x * 256|||y=x * 256 + y:=by
 have:=Nat.two_pow_add_eq_or_of_lt (i:=8) (b:=y) (by omega) x;rw [Nat.mul_comm] at this;exact this.symm
section
variable {P:Program} {R:Cx} {Hs Rest:List HP} {w:World} {s:Sl}
structure SlR (h:ZK) (s:Sl) (xs:List Value):Prop where
 len:s.len=xs.length
 cap:s.len<=s.cap
 mem:xs≠[]->∃ b off l T fr,s.a=some ⟨b,off,none⟩/\h b=some (.cells l T fr)/\∀ (i:Nat) v,xs[i]? =some v->l[off + i]? =some v
def Zat (s:Sl) (xs:List Value):HP:=λ h=>SlR h s xs
theorem SlR.addR {h h':ZK} {xs:List Value} (hd:h'.dis h) (a:SlR h s xs):SlR (h'.add h) s xs:=
 ⟨a.len,a.cap,λ hx=>let ⟨b,off,l,T,fr,ha,hb,hl⟩:=a.mem hx;⟨b,off,l,T,fr,ha,by
  simp only [ZK.add,hd b (by rw [hb];simp)];exact hb,hl⟩⟩
theorem SlR.ro {xs:List Value} (a:SlR R.m s xs) (hb:xs.length<=9223372036854775807):Ro R s xs:=
 ⟨a.len,hb,a.mem⟩
theorem SlR.take {h:ZK} {xs:List Value} (a:SlR h s xs) {k:Nat} (hk:k<=xs.length):SlR h ⟨s.a,k,s.cap⟩ (xs.take k):=
 ⟨by simp;omega,by have:=a.len;have:=a.cap;simp only;omega,λ hx=>by
  obtain ⟨b,off,l,T,fr,ha,hb,hl⟩:=a.mem (λ h0=>hx (by rw [h0];simp));refine ⟨b,off,l,T,fr,ha,hb,λ i v hv=>hl i v ?_⟩;rw [List.getElem?_take] at hv;split at hv
  ·exact hv
  ·cases hv⟩
theorem SlR.drop {h:ZK} {xs:List Value} (a:SlR h s xs) {k:Nat} (hk:k<=xs.length):SlR h ⟨ZbB s.a k s.cap 1,s.len - k,s.cap - k⟩ (xs.drop k):=by
 have hlen:=a.len;have hcap:=a.cap;refine ⟨by simp;omega,by simp only;omega,λ hx=>?_⟩;obtain ⟨b,off,l,T,fr,ha,hb,hl⟩:=a.mem (λ h0=>hx (by rw [h0];simp));have hlt:0<(xs.drop k).length:=List.length_pos_iff.2 hx;rw [List.length_drop] at hlt;refine ⟨b,off + k,l,T,fr,?_,hb,λ i v hv=>?_⟩
 ·unfold ZbB
  rw [if_neg (by omega),ha];simp [ZG]
 ·rw [List.getElem?_drop] at hv
  rw [Nat.add_assoc];exact hl _ _ hv
theorem Zat.lend {xs:List Value} (h:Sat R (Zat s xs::Hs) w):∃ x:ZK,R.dis x/\SlR (R.add x).m s xs/\Sat (R.add x) Hs w/\SlR x s xs:=by
 obtain ⟨x,hx,hd,hs⟩:=h;exact ⟨x,hd,SlR.addR hd hx,hs,hx⟩
theorem Zat.back {xs:List Value} {x:ZK} (hd:R.dis x) (hx:SlR x s xs) (h:Sat (R.add x) Hs w):Sat R (Zat s xs::Hs) w:=⟨x,hx,hd,h⟩
theorem Own.reads {T:TypeId} {xs:List Value} (h:Sat R (Own s T xs::Hs) w):Sat R (Zat s xs::Hs) w:=by
 rcases Own.cases h with ⟨rfl,rfl,h2⟩|⟨b,rest,fr,rfl,hf,h2⟩
 ·exact ⟨ZK.none,⟨rfl,Nat.le_refl _,λ h=>absurd rfl h⟩,λ i hi=>absurd rfl hi,by rw [Cx.add_none];exact h2⟩
 ·obtain ⟨a,ha,hd,hs⟩:=h2
  refine ⟨a,⟨rfl,by simp,λ _=>⟨b,0,(xs++rest).toArray,T,fr,rfl,by rw [ha];simp [ZK.one],λ i v hv=>?_⟩⟩,hd,hs⟩;obtain ⟨hi,rfl⟩:=List.getElem?_eq_some_iff.1 hv;simp [List.getElem?_append_left hi]
theorem SlR.idxK {kd:IntKind} {xs:List Int} {S:World->Prop} (hr:SlR R.m s (xs.map (Value.int kd))) (hS:∀ w,S w->Sat R Hs w) {k:Nat} (hk:k<xs.length) {F:Int->Prop} (h:F xs[k]):
  Rng (k:Int) s.len (Zb s.a λ a=>∃ t:Int,(At S (a.add (k:Int).toNat) [.int kd t])/\F t):=by
 have hl:s.len=xs.length:=by have:=hr.len;simpa using this
 obtain ⟨b,off,l,T,fr,ha,hb,hel⟩:=hr.mem (by intro h0;rw [List.map_eq_nil_iff] at h0;rw [h0] at hk;simp at hk);refine Rng.mk (by omega) (by omega) (Zb.mk ha ⟨xs[k],λ w hw i v hv=>?_,h⟩);have hi:i=0:=by
  cases i with
  |zero=>rfl
  |succ i=>simp at hv
 subst hi;simp only [List.getElem?_cons_zero,Option.some.injEq] at hv;subst hv;rw [Int.toNat_natCast,ZG,ZG];have:=(hS w hw).of_ro hb;simp only [World.cell?,this,Option.isSome_none,Bool.false_eq_true,if_false];exact hel k _ (by simp [hk])
end
end Go.VC

namespace Go.VC
section
variable {P:Program} {R:Cx} {Hs Rest:List HP} {w:World} {s t:Sl} {T T2:TypeId}
theorem ZiT (k:IntKind) (xs:List Int):Zah (xs.map (Value.int k))=true:=by
 induction xs with
 |nil=>rfl
 |cons x xs ih=>simp only [List.map_cons,Zah,List.all_cons,Bool.and_eq_true];exact ⟨rfl,ih⟩
theorem ZbR {b n:Nat} {l:List Value} {fr:Nat × Nat} (hw:Sat R (pts b (.cells l.toArray T fr)::Hs) w) (hn:n=l.length:=by rfl) (hf:Zkl l.length fr:=by first|assumption|exact Or.inl rfl):Sat R (Own ⟨some ⟨b,0,none⟩,n,n⟩ T l::Hs) w:=by
 subst hn;have:=Own.of_pts (xs:=l) (rest:=[]) (by simpa using hw) (by simpa using hf);simpa using this
theorem ZmF {t1 t2 ty e':TypeId} {bytes n:Nat} {k:IntKind} (E:El P t1 t2 T bytes) {xs ys:List Int} {K:Sl->World->Prop} (h2:P.underlying t2=some (.slice e'))
  (hw:Sat R (Own s T (xs.map (Value.int k))::Hs) w) (hy:Ro R t (ys.map (Value.int k))) (hn:xs.length + ys.length<=n) (hb:2 * n * bytes<=281474976710656) (hb':n<=9223372036854775807)
  (kk:∀ s' w',Sat R (Own s' T ((xs++ys).map (Value.int k))::Hs) w'->K s' w'):
  ∃ w',∃ t':Sl,(Builtin.append_ #[t1,t2] ty #[.slice s.a s.len s.cap,.slice t.a t.len t.cap]).run P w=.ok (.slice t'.a t'.len t'.cap) w'/\K t' w':=by
 have hsrc:Src P 1 t2 (.slice t.a t.len t.cap) ys.length (ys.map (Value.int k)) w:=by
  have:=Zo0 h2 hw hy (ZiT _ _);simpa using this
 refine Zbj E (s:=s) hw hsrc (ZiT _ _) ?_ (by rw [List.length_map];omega) λ s2 w hw=>kk s2 w (by simpa using hw);rw [List.length_map];have:2 * (xs.length + ys.length) * bytes<=2 * n * bytes:=Nat.mul_le_mul_right _ (by omega);omega
theorem Zee {t1 t2 ty e':TypeId} {bytes n:Nat} {k:IntKind} (E:El P t1 t2 T bytes) {xs ys:List Int} {K:Sl->World->Prop} (h2:P.underlying t2=some (.slice e'))
  (hw:Sat R (Own s T (xs.map (Value.int k))::Own t T2 (ys.map (Value.int k))::Hs) w) (hn:xs.length + ys.length<=n) (hb:2 * n * bytes<=281474976710656) (hb':n<=9223372036854775807)
  (kk:∀ s' w',Sat R (Own s' T ((xs++ys).map (Value.int k))::Own t T2 (ys.map (Value.int k))::Hs) w'->K s' w'):
  ∃ w',∃ t':Sl,(Builtin.append_ #[t1,t2] ty #[.slice s.a s.len s.cap,.slice t.a t.len t.cap]).run P w=.ok (.slice t'.a t'.len t'.cap) w'/\K t' w':=by
 obtain ⟨R',hr,_,hw,back⟩:=Own.lend hw.swap (by rw [List.length_map];omega);exact ZmF E h2 hw hr hn hb hb' λ s' w' hw=>kk s' w' (back hw).swap
theorem Ro.ix {k:IntKind} {xs:List Int} {S:World->Prop} {i:Int} (hr:Ro R s (xs.map (Value.int k))) (hS:∀ w,S w->Sat R Hs w) (j:Nat) (hi:i=j) (hj:j<xs.length) {F:Int->Prop} (h:F xs[j]):
  Rng i s.len (Zb s.a λ a=>∃ t:Int,(At S (a.add i.toNat) [.int k t])/\F t):=by
 subst hi;exact hr.idxK hS hj h
theorem SlR.ix {k:IntKind} {xs:List Int} {S:World->Prop} {i:Int} (hr:SlR R.m s (xs.map (Value.int k))) (hS:∀ w,S w->Sat R Hs w) (j:Nat) (hi:i=j) (hj:j<xs.length) {F:Int->Prop} (h:F xs[j]):
  Rng i s.len (Zb s.a λ a=>∃ t:Int,(At S (a.add i.toNat) [.int k t])/\F t):=by
 subst hi;exact hr.idxK hS hj h
end
section
variable {P:Program} {R R' R'':Cx} {Hs Rest:List HP} {w:World} {s:Sl} {T:TypeId}
structure Cx.Ext (R R':Cx):Prop where
 m:∀ b o,R.m b=some o->R'.m b=some o
 like:R'.like R
theorem Cx.Ext.refl:R.Ext R:=⟨λ _ _ h=>h,rfl,rfl,rfl⟩
theorem Cx.Ext.trans (h:R.Ext R') (h':R'.Ext R''):R.Ext R'':=
 ⟨λ b o hb=>h'.m b o (h.m b o hb),h.like.1.trans h'.like.1,h.like.2.1.trans h'.like.2.1,h.like.2.2.trans h'.like.2.2⟩
theorem Cx.Ext.add {h:ZK}:R.Ext (R.add h):=⟨λ b o hb=>by simp only [Cx.add,ZK.add,hb],rfl,rfl,rfl⟩
theorem Cx.Ext.back (h:R.Ext R') (hw:Sat R' Hs w):Sat R Hs w:=Sat.ro_of h.m h.like hw
theorem Cx.Ext.ro {xs:List Value} (h:R.Ext R') (a:Ro R s xs):Ro R' s xs:=
 ⟨a.len,a.bound,λ hx=>let ⟨b,off,l,T,fr,h1,h2,h3⟩:=a.mem hx;⟨b,off,l,T,fr,h1,h.m _ _ h2,h3⟩⟩
theorem Cx.Ext.roN {n:Nat} {xs:List (List Value)} (h:R.Ext R') (a:RoN n R s xs):RoN n R' s xs:=
 ⟨a.wid,a.len,λ hx=>let ⟨b,off,l,T,fr,h1,h2,h3⟩:=a.mem hx;⟨b,off,l,T,fr,h1,h.m _ _ h2,h3⟩⟩
theorem Cx.Ext.slR {xs:List Value} (h:R.Ext R') (a:SlR R.m s xs):SlR R'.m s xs:=
 ⟨a.len,a.cap,λ hx=>let ⟨b,off,l,T,fr,h1,h2,h3⟩:=a.mem hx;⟨b,off,l,T,fr,h1,h.m _ _ h2,h3⟩⟩
theorem Zat.leak {xs:List Value} (h:Sat R (Zat s xs::Hs) w):∃ R':Cx,R.Ext R'/\SlR R'.m s xs/\Sat R' Hs w:=by
 obtain ⟨x,_,h1,h2,_⟩:=Zat.lend h;exact ⟨_,.add,h1,h2⟩
theorem Own.leak {xs:List Value} (h:Sat R (Own s T xs::Hs) w):∃ R':Cx,R.Ext R'/\SlR R'.m s xs/\Sat R' Hs w:=Zat.leak (Own.reads h)
theorem OwnN.leak {n:Nat} {rows:List (List Value)} (h:Sat R (OwnN n s T rows::Hs) w):∃ R':Cx,R.Ext R'/\RoN n R' s rows/\Sat R' Hs w:=by
 obtain ⟨R',h1,⟨x,rfl⟩,h2,_⟩:=OwnN.lend h;exact ⟨_,.add,h1,h2⟩
end
section
variable {P:Program} {R:Cx} {Hs Rest:List HP} {w:World} {s:Sl} {T:TypeId}
theorem Own.storeV {t:TypeId} {xs:List Value} {v:Value} {i:Int} (hsz:(P.info? t).map (·.size)=some 1) (hv:v.cells=#[v]) (h1:v.oneCell'=true) (hw:Sat R (Own s T xs::Hs) w) (k:Nat) (hi:i=k) (hk:k<xs.length) {K:World->Prop}
  (h:∀ w',Sat R (Own s T (xs.set k v)::Hs) w'->K w'):
  Rng i s.len (Zb s.a λ a=>∃ w',(Instr.storeAt t (.pointer (some (Addr.add a i.toNat))) v).run P w=.ok () w'/\K w'):=by
 subst hi;have hl:=Own.len hw;rcases Own.cases hw with ⟨_,h0,_⟩|⟨b,rest,fr,rfl,hfr,hp⟩
 ·subst h0;simp at hk
 ·refine Rng.mk (by omega) (by simp only at hl ⊢;omega) (Zb.mk rfl ?_)
  rw [ZG];refine Za hp (by rw [hsz,hv];rfl) (by rw [hv];simp [Zah,h1]) (by rw [hv];simp;omega) λ w' h2=>h w' ?_;have e:ZdS (xs++rest) (0 + (k:Int).toNat) v.cells.toList=xs.set k v++rest:=by
   rw [hv];simp only [ZdS,Nat.zero_add,Int.toNat_natCast];rw [List.set_append_left _ _ hk]
  rw [e] at h2;have h3:=Own.of_pts h2 (hfr.le (by simp));simpa using h3
end
end Go.VC

namespace Go.VC
section
variable {P:Program} {R R' R'':Cx} {Hs Rest:List HP} {w:World} {s:Sl} {T:TypeId}
instance:ZaU Int where
 enc:=Value.int .i64
 desc:=.int .i64
 same a b:=by
  show (if IntKind.i64=IntKind.i64 then some (a==b) else none)=some (a==b)
  rw [if_pos rfl]
 bits a:=by
  have:∀ n,Instr.sameBits n (.int .i64 a) (.int .i64 a)=(IntKind.i64==IntKind.i64 && a==a):=λ n=>by cases n<;>rfl
  rw [this];simp
 eq a b h:=beq_iff_eq.1 h
 check P em K a w h:=by
  show (Instr.checkKey em (9999 + 1) K (.int .i64 a)).run P w=_;unfold Instr.checkKey;simp [run_underlying h]
theorem Zat.out {xs:List Value} (h:Sat R (Zat s xs::Hs) w):∃ R',R.Ext R'/\SlR R'.m s xs/\Sat R' Hs w/\∀ Hs' w',Sat R' Hs' w'->Sat R (Zat s xs::Hs') w':=by
 obtain ⟨x,hd,hs,hw,hx⟩:=Zat.lend h;exact ⟨R.add x,Cx.Ext.add,hs,hw,λ Hs' w' h=>Zat.back hd hx h⟩
end
section
theorem Zik {α:Type} {l:List (En α)} {seen:Array Nat} {a b:List (En α)} {x:En α} (hn:(l.map (·.2.2)).Nodup) (h:l.filter (λ e=>!seen.contains e.2.2)=a++x::b):l.filter (λ e=>!(seen.push x.2.2).contains e.2.2)=a++b:=by
 have e1:l.filter (λ e=>!(seen.push x.2.2).contains e.2.2)=(l.filter λ e=>!seen.contains e.2.2).filter λ e=>!decide (e.2.2=x.2.2):=by
  rw [List.filter_filter];refine List.filter_congr λ y _=>?_;rw [Array.contains_push,Bool.not_or,Bool.and_comm]
  congr 1
 rw [e1,h,List.filter_append,List.filter_cons];have hnd:((a++x::b).map (·.2.2)).Nodup:=by
  rw [<-h];exact ((List.filter_sublist.map _).nodup hn)
 rw [List.map_append,List.map_cons,List.nodup_append,List.nodup_cons] at hnd;rw [if_neg (by simp)];rw [List.filter_eq_self.2,List.filter_eq_self.2]
 ·intro y hy
  have:¬ y.2.2=x.2.2:=λ e=>hnd.2.1.1 (by rw [<-e];exact List.mem_map.2 ⟨y,hy,rfl⟩);simpa using this
 ·intro y hy
  have:¬ y.2.2=x.2.2:=λ e=>hnd.2.2 _ (List.mem_map.2 ⟨y,hy,rfl⟩) x.2.2 (by simp) e;simpa using this
def Zlg (r m:Nat) (w:World):Nat:=match w.heap[r]? with
 |some (.mapIter _ _ seen _)=>(match w.heap[m]? with
  |some (.map es _)=>(leftOf es seen).size
  |_=>0)
 |_=>0
section
variable {α:Type} [BEq α] [ZaU α] {P:Program} {R:Cx} {Hs:List HP} {w:World}
def ZgS (r m:Nat) (es left:List (α × Value)):HP:=exs λ l:List (En α)=>exs λ c:Nat=>exs λ seen:Array Nat=>
 Zds [pur (Zbm l=es/\Zb1 l c/\Zbm (l.filter λ e=>!seen.contains e.2.2)=left),pts r (.mapIter (some m) c seen c),pts m (.map (l.map mkE).toArray c)]
theorem ZgS.iff {r m:Nat} {es left:List (α × Value)}:Sat R (ZgS r m es left::Hs) w↔∃ (l:List (En α)) (c:Nat) (seen:Array Nat),(Zbm l=es/\Zb1 l c/\Zbm (l.filter λ e=>!seen.contains e.2.2)=left)/\
  Sat R (pts r (.mapIter (some m) c seen c)::pts m (.map (l.map (mkE (α:=α))).toArray c)::Hs) w:=by
 unfold ZgS;simp only [Sat.exs];constructor
 ·rintro ⟨l,c,seen,h⟩
  obtain ⟨h1,h2⟩:=Sat.pur.1 (Sat.star.1 h);exact ⟨l,c,seen,h1,h2⟩
 ·rintro ⟨l,c,seen,h1,h2⟩
  exact ⟨l,c,seen,Sat.star.2 (Sat.pur.2 ⟨h1,h2⟩)⟩
theorem ZgS.map {r m:Nat} {es left:List (α × Value)} (hw:Sat R (ZgS r m es left::Hs) w):Sat R (Zg m es::Hs) w:=by
 obtain ⟨l,c,seen,⟨h1,h2,_⟩,hw⟩:=ZgS.iff.1 hw;exact Zg.iff.2 ⟨l,c,h1,h2,hw.drop⟩
theorem Zjz {T K E:TypeId} {m:Nat} {es:List (α × Value)} {Q:Option Addr->World->Prop} (hT:P.underlying T=some (.map K E)) (hw:Sat R (Zg m es::Hs) w) (k:∀ r w',Sat R (ZgS r m es es::Hs) w'->Q (some ⟨r,0,none⟩) w'):
  ∃ w':World,∃ t:Option Addr,((Instr.range T (.map (some m))).run P w=.ok (.pointer t) w')/\Q t w':=by
 obtain ⟨l,c,h1,h2,hw⟩:=Zg.iff.1 hw;have hat:=hw.at;refine ⟨w.alloc (.mapIter (some m) c #[] c),some ⟨w.heap.size,0,none⟩,?_,k _ _ (ZgS.iff.2 ⟨l,c,#[],⟨h1,h2,?_⟩,Sat.alloc _ hw⟩)⟩
 ·simp [Instr.range,run_underlying hT,getObj,Sem.run_bind,Sem.run,hat,Result.andThen]
 ·rw [show (l.filter λ e=>!(#[]:Array Nat).contains e.2.2)=l from List.filter_eq_self.2 (λ x _=>by simp)]
  exact h1
theorem Zhr {r m:Nat} {es left:List (α × Value)} (hw:Sat R (ZgS r m es left::Hs) w):Zlg r m w=left.length:=by
 obtain ⟨l,c,seen,⟨h1,h2,h3⟩,hw⟩:=ZgS.iff.1 hw;have hr:=hw.at;have hm:=hw.swap.at;unfold Zlg;rw [hr];dsimp only;rw [hm];dsimp only;rw [<-h3,<-Array.length_toList];unfold leftOf Zbm;rw [Array.toList_filter,List.length_map];have:∀ l:List (En α),((l.map mkE).filter λ e=>!seen.contains e.born).length=(l.filter λ e=>!seen.contains e.2.2).length:=λ l=>by
  rw [List.filter_map,List.length_map];rfl
 exact this l
theorem ZjI {r m:Nat} {T:TypeId} {es left:List (α × Value)} (hw:Sat R (ZgS r m es left::Hs) w):
  (left=[]/\(Instr.next (.pointer (some ⟨r,0,none⟩)) false T).run P w=.ok (.tuple #[.bool false]) w)\/
  ∃ a k v b w',left=a++(k,v)::b/\(Instr.next (.pointer (some ⟨r,0,none⟩)) false T).run P w=.ok (.tuple #[.bool true,ZaU.enc k,v]) w'/\(Instr.entry (.pointer (some ⟨r,0,none⟩))).run P w'=.ok (.tuple #[ZaU.enc k,v]) w'/\Sat R (ZgS r m es (a++b)::Hs) w':=by
 obtain ⟨l,c,seen,⟨h1,h2,h3⟩,hw⟩:=ZgS.iff.1 hw;have hr:=hw.at;have hm:=hw.swap.at;rcases run_next_at (P:=P) w T r m c c seen (l.map mkE).toArray c hr hm (λ x hx=>by
   obtain ⟨e,he,rfl⟩:=List.mem_map.1 (show x∈l.map mkE from hx)
   exact h2.1 e he) (Nat.le_refl _) with ⟨h0,hrun⟩|⟨e,he,w1,hw1,hrun⟩
 ·left
  refine ⟨?_,hrun⟩;rw [<-h3];have:(l.filter λ e=>!seen.contains e.2.2)=[]:=by
   rw [List.filter_eq_nil_iff];intro x hx hn;have hmem:mkE x∈(leftOf (l.map mkE).toArray seen).toList:=by
    unfold leftOf;simp only [Array.toList_filter,List.mem_filter,List.mem_map];exact ⟨⟨x,hx,rfl⟩,hn⟩
   have:0<(leftOf (l.map mkE).toArray seen).toList.length:=List.length_pos_of_mem hmem;rw [Array.length_toList] at this;omega
  rw [this];rfl
 ·right
  have hx:∃ x∈l,e=mkE x/\(!seen.contains x.2.2)=true:=by
   unfold leftOf at he;simp only [Array.toList_filter,List.mem_filter,List.mem_map] at he;obtain ⟨⟨x,hx,rfl⟩,hn⟩:=he;exact ⟨x,hx,rfl,hn⟩
  obtain ⟨x,hxl,rfl,hn⟩:=hx;obtain ⟨a,b,hab⟩:=List.append_of_mem (List.mem_filter.2 ⟨hxl,hn⟩:x∈l.filter λ e=>!seen.contains e.2.2);have hw2:Sat R (pts r (.mapIter (some m) c seen c)::pts m (.map (l.map (mkE (α:=α))).toArray c)::Hs) w1:=by
   rcases hw1 with rfl|rfl
   ·exact hw
   ·exact hw.drew
  have hw3:=hw2.setPts (.mapIter (some m) c (seen.push x.2.2) c);refine ⟨Zbm a,x.1,x.2.1,Zbm b,_,?_,hrun,?_,?_⟩
  ·rw [<-h3,hab]
   unfold Zbm;rw [List.map_append,List.map_cons]
  ·exact run_entry_at (P:=P) _ r m c seen (l.map mkE).toArray c (mkE x) hw3.at hw3.swap.at (show mkE x∈l.map mkE from List.mem_map.2 ⟨x,hxl,rfl⟩) (by
    have e:((l.map mkE).map λ e:MapEntry=>e.born)=l.map (·.2.2):=by rw [List.map_map];rfl
    show ((l.map mkE).map λ e:MapEntry=>e.born).Nodup;rw [e];exact h2.2)
  ·refine ZgS.iff.2 ⟨l,c,seen.push x.2.2,⟨h1,h2,?_⟩,hw3⟩
   rw [Zik h2.2 hab];unfold Zbm;rw [List.map_append]
end
end
end Go.VC


namespace Go.Proofs.YthpmfnffkjjlnaaGreat
section
open Go Go.VC Tryz
def ZM:Int->List Int->Bool
 |_,[]=>true
 |last,n::l=>!decide (n<=last) && !decide (n>15) && ZM n l
def ZS:List Int->Int->Bool
 |[],_=>false
 |x::l,n=>x==n||ZS l n
def Zt (p:Int->Bool) (l:List Int):Int:=(l.filter p).length
theorem Zbw {α:Type} {l:List α} {k:Nat} (h:k<l.length):l.drop k=l[k]::l.drop (k + 1):=List.drop_eq_getElem_cons h
variable {R:Cx} {Hs:List HP} {w:World}
theorem Zfs {s:Sl} {xs:List Int} (hw:Sat R Hs w) (hs:RoI R s xs):
  Zj prog 156 #[.slice s.a s.len s.cap] w λ v w'=>v=.bool (ZM 0 xs)/\Sat R Hs w':=by
 have hl:=RoI.len hs;have hb:=RoI.bound hs;apply Zom;refine ⟨λ last i w=>∃ k:Nat,i=k/\k<=xs.length/\ZM 0 xs=ZM last (xs.drop k)/\Sat R Hs w,λ _ i _=>xs.length - i.toNat,⟨0,rfl,Nat.zero_le _,rfl,hw⟩,?_⟩;rintro z last _ w ⟨k,rfl,hk,hr,hw⟩;refine Br.mk (λ h=>?_) (λ h=>?_)<;>simp only [decide_eq_true_eq,decide_eq_false_iff_not] at h
 ·have hk':k<xs.length:=by omega
  rw [Zbw hk'] at hr;refine hs.idx (eqS hw) hk' ?_;refine Br.mk (λ h1=>?_) (λ h1=>Br.mk (λ h2=>?_) (λ h2=>?_))
  ·exact ⟨by rw [hr];simp [ZM,h1],hw⟩
  ·exact ⟨by rw [hr];simp [ZM,h1,h2],hw⟩
  ·rw [Zh (by omega) (by omega)]
   refine ⟨⟨k + 1,by omega,by omega,?_,hw⟩,by dsimp only;omega⟩;rw [hr];simp [ZM,h1,h2]
 ·have:k=xs.length:=by omega
  subst this;exact ⟨by rw [hr];simp [ZM],hw⟩
theorem ZjT {s:Sl} {xs:List Int} (n:Int) (hw:Sat R Hs w) (hs:RoI R s xs):
  Zj prog 162 #[.slice s.a s.len s.cap,.int .i64 n] w λ v w'=>(∃ i:Int,v=.int .i64 i/\decide (i >= 0)=ZS xs n)/\Sat R Hs w':=by
 have hl:=RoI.len hs;have hb:=RoI.bound hs;apply Zog;refine ⟨λ i w=>∃ k:Nat,i=k/\k<=xs.length/\ZS xs n=ZS (xs.drop k) n/\Sat R Hs w,λ i _=>xs.length - i.toNat,⟨0,rfl,Nat.zero_le _,rfl,hw⟩,?_⟩;rintro z _ w ⟨k,rfl,hk,hr,hw⟩;refine Br.mk (λ h=>?_) (λ h=>?_)<;>simp only [decide_eq_true_eq,decide_eq_false_iff_not] at h
 ·have hk':k<xs.length:=by omega
  rw [Zbw hk'] at hr;refine hs.idx (eqS hw) hk' ?_;refine Br.mk (λ h1=>?_) (λ h1=>?_)<;>simp only [beq_iff_eq,beq_eq_false_iff_ne,ne_eq] at h1
  ·refine ⟨⟨_,rfl,?_⟩,hw⟩
   rw [hr];simp [ZS,h1]
  ·rw [Zh (by omega) (by omega)]
   refine ⟨⟨k + 1,by omega,by omega,?_,hw⟩,by dsimp only;omega⟩;rw [hr];simp [ZS,Ne.symm h1]
 ·have:k=xs.length:=by omega
  subst this;exact ⟨⟨_,rfl,by rw [hr];simp [ZS]⟩,hw⟩
theorem Za3 {s:Sl} {xs:List Int} (n:Int) (hw:Sat R Hs w) (hs:RoI R s xs):
  Zj prog 95 #[.slice s.a s.len s.cap,.int .i64 n] w λ v w'=>v=.bool (ZS xs n)/\Sat R Hs w':=by
 apply Zpq;refine (ZjT n hw hs).use ?_;rintro _ w ⟨⟨i,rfl,hi⟩,hw⟩;exact ⟨_,rfl,by rw [hi],hw⟩
theorem Ziv {s:Sl} {xs:List Int} (n:Int) {b:Nat} {T:TypeId} {Rest:List HP} [Zbk b Hs (.cells [.slice s.a s.len s.cap].toArray T (0,0)) Rest] (hw:Sat R Hs w) (hs:RoI R s xs):
  Zj prog 165 #[.int .i64 n,.pointer (some ⟨b,0,none⟩)] w λ v w'=>v=.bool (ZS xs n)/\Sat R Hs w':=by
 apply Zof;refine ⟨s,At.own (eqS hw) (by exact ⟨rfl,trivial⟩),?_⟩;refine (Za3 n hw hs).use ?_;rintro _ w ⟨rfl,hw⟩;exact ⟨_,rfl,rfl,hw⟩
theorem Zj4 {s:Sl} {xs:List Int} {f:Value} (p:Int->Bool) (hw:Sat R Hs w) (hs:RoI R s xs)
  (hf:∀ (n:Int) (w:World),Sat R Hs w->Zdw prog cl f [.int .i64 n] w (λ e w'=>e=.returned (.bool (p n))/\Sat R Hs w')):
  Zj prog 111 #[.slice s.a s.len s.cap,f] w λ v w'=>v=.int .i64 (Zt p xs)/\Sat R Hs w':=by
 have hl:=RoI.len hs;have hb:=RoI.bound hs;apply ZoC;refine ⟨λ c i w=>∃ k:Nat,i=k/\k<=xs.length/\c=Zt p (xs.take k)/\Sat R Hs w,λ _ i _=>xs.length - i.toNat,⟨0,rfl,Nat.zero_le _,rfl,hw⟩,?_⟩;rintro z _ _ w ⟨k,rfl,hk,rfl,hw⟩;refine Br.mk (λ h=>?_) (λ h=>?_)<;>simp only [decide_eq_true_eq,decide_eq_false_iff_not] at h
 ·have hk':k<xs.length:=by omega
  refine hs.idx (eqS hw) hk' ?_;have hc:Zt p (xs.take k)<=k:=by
   unfold Zt;have:=List.length_filter_le p (xs.take k);simp at this;omega
  have hc0:0<=Zt p (xs.take k):=by unfold Zt;omega
  refine (hf xs[k] w hw).mono ?_;rintro _ w ⟨rfl,hw⟩;refine ⟨_,rfl,?_⟩;have ht:Zt p (xs.take (k + 1))=Zt p (xs.take k) + if p xs[k] then 1 else 0:=by
   unfold Zt;rw [List.take_succ_eq_append_getElem hk',List.filter_append];cases hp:p xs[k]<;>simp [hp]
  refine Br.mk (λ h1=>?_) (λ h1=>?_)
  ·rw [Zh (by omega) (by omega),Zh (by omega) (by omega)]
   exact ⟨⟨k + 1,by omega,by omega,by rw [ht,h1];rfl,hw⟩,by dsimp only;omega⟩
  ·rw [Zh (x:=(k:Int) + 1) (by omega) (by omega)]
   exact ⟨⟨k + 1,by omega,by omega,by rw [ht,h1];simp,hw⟩,by dsimp only;omega⟩
 ·have:k=xs.length:=by omega
  subst this;exact ⟨by simp,hw⟩
end
section
open Go Go.VC Tryz
def Zo (v l:List Int):Bool:=ZM 0 v && ZM 0 l && decide (v.length>0) && Zt (ZS l) v==0
def Zgs (v l:List Int):Int:=if Zo v l then v.length / 2 + 1 else 0
def ZaE (v l x:List Int):Bool:=Zo v l && decide (Zt (ZS x) v >= Zgs v l)
def Zk6 (v l x:List Int):Bool:=Zo v l && decide (v.length - Zt (ZS x) v<Zgs v l)
theorem ZhG (p:Int->Bool) (l:List Int):Zt p l<=l.length:=by
 unfold Zt;have:=List.length_filter_le p l;omega
theorem ZhF (p:Int->Bool) (l:List Int):0<=Zt p l:=by unfold Zt;omega
variable {R:Cx} {Hs:List HP} {w:World} {s t u:Sl} {xs v l x:List Int}
theorem ZdN (hw:Sat R Hs w):
  Zj prog 112 #[.slice s.a s.len s.cap] w λ f w'=>∃ b,f=.func (.func 165) #[] #[.pointer (some ⟨b,0,none⟩)]/\Sat R (pts b (.cells [.slice s.a s.len s.cap].toArray 30 (0,0))::Hs) w':=by
 apply ZoB;refine Zd hw λ b w hw=>?_;exact ⟨b,rfl,hw⟩
theorem Zda {b:Nat} (hs:RoI R s xs) (n:Int) (w:World) (hw:Sat R (pts b (.cells [.slice s.a s.len s.cap].toArray 30 (0,0))::Hs) w):
  Zdw prog cl (.func (.func 165) #[] #[.pointer (some ⟨b,0,none⟩)]) [.int .i64 n] w (λ e w'=>e=.returned (.bool (ZS xs n))/\Sat R (pts b (.cells [.slice s.a s.len s.cap].toArray 30 (0,0))::Hs) w'):=by
 show Calls prog 165 #[.int .i64 n,.pointer (some ⟨b,0,none⟩)] w _;refine (Ziv n hw hs).use ?_;rintro _ w ⟨rfl,hw⟩;exact ⟨rfl,hw⟩
theorem Zbh (hw:Sat R Hs w) (hv:RoI R s v) (hx:RoI R t x):
  Zj prog 112 #[.slice t.a t.len t.cap] w λ f w1=>Sat R Hs w1/\Zj prog 111 #[.slice s.a s.len s.cap,f] w1 λ c w2=>c=.int .i64 (Zt (ZS x) v)/\Sat R Hs w2:=by
 refine (ZdN hw).mono ?_;rintro _ w ⟨b,rfl,hw⟩;refine ⟨hw.drop,(Zj4 (ZS x) hw hv (Zda hx)).mono ?_⟩;rintro _ w ⟨rfl,hw⟩;exact ⟨rfl,hw.drop⟩
theorem ZaA (hw:Sat R Hs w) (hv:RoI R s v) (hl:RoI R t l):
  Zj prog 81 #[.agg #[.slice s.a s.len s.cap,.slice t.a t.len t.cap]] w λ r w'=>r=.bool (Zo v l)/\Sat R Hs w':=by
 apply ZpE;refine Zd hw λ b w hw=>?_;refine Zm hw λ w hw=>?_;refine ⟨s,At.own Zf (by exact ⟨rfl,trivial⟩),?_⟩;refine (Zfs hw hv).use ?_;rintro _ w ⟨rfl,hw⟩;refine ⟨_,rfl,hw,Br.mk (λ h1=>?_) (λ h1=>?_)⟩
 ·refine ⟨t,At.own Zf (by exact ⟨rfl,trivial⟩),?_⟩
  refine (Zfs hw hl).use ?_;rintro _ w ⟨rfl,hw⟩;refine ⟨_,rfl,hw,Br.mk (λ h2=>?_) (λ h2=>?_)⟩
  ·refine ⟨s,At.own Zf (by exact ⟨rfl,trivial⟩),Br.mk (λ h3=>?_) (λ h3=>?_)⟩
   ·refine ⟨s,At.own Zf (by exact ⟨rfl,trivial⟩),t,At.own Zf (by exact ⟨rfl,trivial⟩),?_⟩
    refine (Zbh hw hv hl).use ?_;rintro f w ⟨hw,hc⟩;refine ⟨_,rfl,hw,hc.use ?_⟩;rintro _ w ⟨rfl,hw⟩;refine ⟨_,rfl,hw,?_,hw.drop⟩;have:=RoI.len hv;simp only [decide_eq_true_eq] at h3;have h3':v.length>0:=by omega
    simp [Zo,h1,h2,h3']
   ·refine ⟨?_,hw.drop⟩
    have:=RoI.len hv;simp only [decide_eq_false_iff_not] at h3;have h3':¬ v.length>0:=by omega
    simp [Zo,h3']
  ·exact ⟨by simp [Zo,h2],hw.drop⟩
 ·exact ⟨by simp [Zo,h1],hw.drop⟩
theorem Zez (hw:Sat R Hs w) (hv:RoI R s v) (hl:RoI R t l):
  Zj prog 113 #[.agg #[.slice s.a s.len s.cap,.slice t.a t.len t.cap]] w λ r w'=>r=.int .i64 (Zgs v l)/\Sat R Hs w':=by
 apply ZoA;refine Zd hw λ b w hw=>?_;refine ⟨s,t,At.own (eqS hw) (by exact ⟨rfl,rfl,trivial⟩),?_⟩;refine (ZaA hw hv hl).use ?_;rintro _ w ⟨rfl,hw⟩;have h1:=RoI.len hv;have h2:=RoI.bound hv;refine ⟨_,rfl,Br.mk (λ h=>?_) (λ h=>?_)⟩
 ·exact ⟨by simp at h;simp [Zgs,h],hw.drop⟩
 ·refine ⟨s,At.own (eqS hw) (by exact ⟨rfl,trivial⟩),?_,hw.drop⟩
  simp only [Bool.not_eq_false'] at h;have e:((s.len:Int).tdiv 2)=(v.length:Int) / 2:=by rw [h1,Int.tdiv_eq_ediv_of_nonneg (by omega)]
  rw [e,Zh (x:=(v.length:Int) / 2) (by omega) (by omega),Zh (by omega) (by omega)];simp [Zgs,h]
theorem Zdb (hw:Sat R Hs w) (hv:RoI R s v) (hl:RoI R t l) (hx:RoI R u x):
  Zj prog 51 #[.agg #[.slice s.a s.len s.cap,.slice t.a t.len t.cap],.slice u.a u.len u.cap] w λ r w'=>r=.bool (ZaE v l x)/\Sat R Hs w':=by
 apply ZpS;refine Zd hw λ b w hw=>?_;refine Zm hw λ w hw=>?_;refine ⟨s,t,At.own Zf (by exact ⟨rfl,rfl,trivial⟩),?_⟩;refine (ZaA hw hv hl).use ?_;rintro _ w ⟨rfl,hw⟩;refine ⟨_,rfl,hw,Br.mk (λ h1=>?_) (λ h1=>?_)⟩
 ·refine ⟨s,At.own Zf (by exact ⟨rfl,trivial⟩),s,t,At.own Zf (by exact ⟨rfl,rfl,trivial⟩),?_⟩
  refine (Zbh hw hv hx).use ?_;rintro f w ⟨hw,hc⟩;refine ⟨_,rfl,hw,hc.use ?_⟩;rintro _ w ⟨rfl,hw⟩;refine ⟨_,rfl,hw,(Zez hw hv hl).use ?_⟩;rintro _ w ⟨rfl,hw⟩;exact ⟨_,rfl,hw,by simp [ZaE,h1],hw.drop⟩
 ·exact ⟨by simp [ZaE,h1],hw.drop⟩
theorem Zk5 (hw:Sat R Hs w) (hv:RoI R s v) (hl:RoI R t l) (hx:RoI R u x):
  Zj prog 249 #[.agg #[.slice s.a s.len s.cap,.slice t.a t.len t.cap],.slice u.a u.len u.cap] w λ r w'=>r=.bool (Zk6 v l x)/\Sat R Hs w':=by
 apply ZnK;refine Zd hw λ b w hw=>?_;refine Zm hw λ w hw=>?_;refine ⟨s,t,At.own Zf (by exact ⟨rfl,rfl,trivial⟩),?_⟩;refine (ZaA hw hv hl).use ?_;rintro _ w ⟨rfl,hw⟩;refine ⟨_,rfl,hw,Br.mk (λ h1=>?_) (λ h1=>?_)⟩
 ·refine ⟨s,At.own Zf (by exact ⟨rfl,trivial⟩),s,At.own Zf (by exact ⟨rfl,trivial⟩),s,t,At.own Zf (by exact ⟨rfl,rfl,trivial⟩),?_⟩
  refine (Zbh hw hv hx).use ?_;rintro f w ⟨hw,hc⟩;refine ⟨_,rfl,hw,hc.use ?_⟩;rintro _ w ⟨rfl,hw⟩;refine ⟨_,rfl,hw,(Zez hw hv hl).use ?_⟩;rintro _ w ⟨rfl,hw⟩;refine ⟨_,rfl,hw,?_,hw.drop⟩;have h2:=RoI.len hv;have h3:=RoI.bound hv;have h4:=ZhG (ZS x) v;have h5:=ZhF (ZS x) v;rw [Zh (by omega) (by omega),h2];simp [Zk6,h1]
 ·exact ⟨by simp [Zk6,h1],hw.drop⟩
end
section
open Go Go.VC Tryz
variable {R:Cx} {Hs:List HP} {w:World} {s t u:Sl} {xs v l x:List Int}
theorem Zc2 (p:Int->Bool):∀ xs:List Int,(Zt p xs==0)=xs.all (λ n=>!p n)
 |[]=>by simp [Zt]
 |n::xs=>by
  have:=Zc2 p xs;unfold Zt at *;cases hp:p n
  ·rw [List.filter_cons_of_neg (by simp [hp])];simp [hp] at *;exact this
  ·rw [List.filter_cons_of_pos (by simp [hp])];simp [hp];omega
theorem ZaK:∀ {l:List Int} {a:Int},ZM a l=true->∀ n∈l,a<n/\n<=15
 |[],_,_,n,hn=>by simp at hn
 |x::l,a,h,n,hn=>by
  simp only [ZM,Bool.and_eq_true,Bool.not_eq_true',decide_eq_false_iff_not] at h;rcases List.mem_cons.1 hn with rfl|hn
  ·omega
  ·have:=ZaK h.2 n hn;omega
theorem Zg5:∀ {l:List Int} {a:Int},ZM a l=true->0<=a->l≠[]->a + l.length<=15
 |[],_,_,_,h=>absurd rfl h
 |x::l,a,h,ha,_=>by
  simp only [ZM,Bool.and_eq_true,Bool.not_eq_true',decide_eq_false_iff_not] at h;by_cases hl:l=[]
  ·subst hl;simp;omega
  ·have:=Zg5 h.2 (by omega) hl
   simp only [List.length_cons];omega
theorem Zv {l:List Int} (h:ZM 0 l=true):l.length<=15:=by
 by_cases hl:l=[]
 ·subst hl;simp
 ·have:=Zg5 h (Int.le_refl 0) hl;omega
theorem Zp {v l:List Int} (h:Zo v l=true):ZM 0 v=true:=by
 simp only [Zo,Bool.and_eq_true] at h;exact h.1.1.1
theorem ZO {v l:List Int} (h:Zo v l=true):ZM 0 l=true:=by
 simp only [Zo,Bool.and_eq_true] at h;exact h.1.1.2
theorem Zde {v l:List Int} (h:Zo v l=true):0<v.length:=by
 simp only [Zo,Bool.and_eq_true,decide_eq_true_eq] at h;exact h.1.2
theorem Zii {l:List Int} {k:Nat} (h:k<l.length):l.getD k 0=l[k]:=by simp [List.getD,h]
def pick (A:List Int) (n:Int):Int:=A.getD n.toNat 0
def Znx (x:Int):List Int->List Int
 |[]=>[x]
 |y::l=>if x<=y then x::y::l else y::Znx x l
def ZaF:List Int->List Int
 |[]=>[]
 |x::l=>Znx x (ZaF l)
def ZeA (v l A:List Int):Int:=if Zo v l then (ZaF (v.map (pick A))).getD (v.length - (v.length / 2 + 1)) 0 else 0
theorem ZeE (x:Int):∀ l:List Int,(Znx x l).Perm (x::l)
 |[]=>.refl _
 |y::l=>by
  unfold Znx;split
  ·exact .refl _
  ·exact ((ZeE x l).cons y).trans (List.Perm.swap x y l)
theorem Z4:∀ l:List Int,(ZaF l).Perm l
 |[]=>.refl _
 |x::l=>(ZeE x (ZaF l)).trans ((Z4 l).cons x)
theorem Zlj {x:Int}:∀ {l:List Int},l.Pairwise (·<=·)->(Znx x l).Pairwise (·<=·)
 |[],_=>List.pairwise_singleton _ _
 |y::l,h=>by
  unfold Znx;have h2:=List.pairwise_cons.1 h;split
  ·rename_i h1
   refine List.pairwise_cons.2 ⟨λ z hz=>?_,h⟩;rcases List.mem_cons.1 hz with rfl|hz
   ·exact h1
   ·exact Int.le_trans h1 (h2.1 z hz)
  ·rename_i h1
   refine List.pairwise_cons.2 ⟨λ z hz=>?_,Zlj h2.2⟩;rcases List.mem_cons.1 ((ZeE x l).mem_iff.1 hz) with rfl|hz
   ·omega
   ·exact h2.1 z hz
theorem Za8 (l:List Int):(ZaF l).length=l.length:=(Z4 l).length_eq
theorem ZbN:∀ l:List Int,(ZaF l).Pairwise (·<=·)
 |[]=>.nil
 |_::l=>Zlj (ZbN l)
theorem Zel (l:List Int):ZaF l=l.mergeSort λ x y=>decide (x<=y):=by
 have h:=List.pairwise_mergeSort (le:=λ x y:Int=>decide (x<=y)) (λ a b c h1 h2=>by simp only [decide_eq_true_eq] at *;omega) (λ a b=>by simp only [Bool.or_eq_true,decide_eq_true_eq];omega) l;refine List.Perm.eq_of_pairwise (le:=(·<=·)) (λ a b _ _ h1 h2=>Int.le_antisymm h1 h2) (ZbN l) ?_ ((Z4 l).trans (List.mergeSort_perm _ _).symm);simpa using h
theorem Zc3 (p:Int->Bool) {l l':List Int} (h:l.Perm l'):Zt p l=Zt p l':=by
 unfold Zt;rw [(h.filter p).length_eq]
theorem ZfS (p:Int->Bool) (l l':List Int):Zt p (l++l')=Zt p l + Zt p l':=by
 unfold Zt;simp
theorem Zj5 {p:Int->Bool} {l:List Int} (h:∀ x∈l,p x=true):Zt p l=l.length:=by
 unfold Zt;rw [List.filter_eq_self.2 h]
theorem Ziq {p:Int->Bool} {l:List Int} (h:∀ x∈l,p x=false):Zt p l=0:=by
 unfold Zt;rw [List.filter_eq_nil_iff.2 (by intro x hx;simp [h x hx])];rfl
theorem Zc4 {p q:Int->Bool}:∀ {l:List Int},(∀ x∈l,p x=true->q x=true)->Zt p l<=Zt q l
 |[],_=>by simp [Zt]
 |x::l,h=>by
  have ih:=Zc4 (l:=l) (p:=p) (q:=q) λ y hy=>h y (List.mem_cons_of_mem _ hy);have hx:=h x List.mem_cons_self;simp only [Zt,List.filter_cons] at ih ⊢;cases hp:p x
  ·cases hq:q x<;>simp<;>omega
  ·rw [hx hp];simp;omega
theorem Zf5 {S:List Int} (h:S.Pairwise (·<=·)) {k:Nat} (hk:k<S.length):
  Zt (λ n=>decide (n >= S[k])) S >= (S.length - k:Nat)/\Zt (λ n=>decide (n>S[k])) S<=(S.length - k - 1:Nat):=by
 have h2:S=S.take k++S[k]::S.drop (k + 1):=by rw [<-List.drop_eq_getElem_cons hk,List.take_append_drop]
 have hp:=h;rw [h2,List.pairwise_append] at hp;obtain ⟨_,hd,hc⟩:=hp;obtain ⟨hd1,_⟩:=List.pairwise_cons.1 hd;constructor
 ·have e:Zt (λ n=>decide (n >= S[k])) S=Zt (λ n=>decide (n >= S[k])) (S.take k) + Zt (λ n=>decide (n >= S[k])) (S.drop k):=by
   rw [<-ZfS,List.take_append_drop]
  have e2:Zt (λ n=>decide (n >= S[k])) (S.drop k)=(S.drop k).length:=Zj5 λ x hx=>by
   rw [List.drop_eq_getElem_cons hk] at hx;rcases List.mem_cons.1 hx with rfl|hx
   ·simp
   ·have:=hd1 x hx;simpa using this
  have:=ZhF (λ n=>decide (n >= S[k])) (S.take k);rw [e,e2,List.length_drop];omega
 ·have e:Zt (λ n=>decide (n>S[k])) S=Zt (λ n=>decide (n>S[k])) (S.take (k + 1)) + Zt (λ n=>decide (n>S[k])) (S.drop (k + 1)):=by
   rw [<-ZfS,List.take_append_drop]
  have e2:Zt (λ n=>decide (n>S[k])) (S.take (k + 1))=0:=Ziq λ x hx=>by
   rw [List.take_succ_eq_append_getElem hk] at hx;simp only [decide_eq_false_iff_not];rcases List.mem_append.1 hx with hx|hx
   ·have:=hc x hx S[k] List.mem_cons_self;omega
   ·simp at hx;omega
  have:=ZhG (λ n=>decide (n>S[k])) (S.drop (k + 1));rw [List.length_drop] at this;rw [e,e2];omega
structure Zkg (all:List Int) (m:Int):Prop where
 mem:m∈all
 many:Zt (λ n=>decide (n >= m)) all >= ((all.length / 2 + 1:Nat):Int)
 few:Zt (λ n=>decide (n>m)) all<((all.length / 2 + 1:Nat):Int)
theorem Zkg.of_sort {all:List Int} (h:0<all.length):Zkg all ((ZaF all).getD (all.length - (all.length / 2 + 1)) 0):=by
 have hl:=Za8 all;have hk:all.length - (all.length / 2 + 1)<(ZaF all).length:=by omega
 rw [Zii hk];have hc:=Zf5 (ZbN all) hk;rw [Zc3 _ (Z4 all),Zc3 _ (Z4 all),hl] at hc;refine ⟨(Z4 all).mem_iff.1 (List.getElem_mem hk),by omega,by omega⟩
theorem Zkg.le {all:List Int} {m n:Int} (h:Zkg all m) (hn:Zt (λ x=>decide (x >= n)) all >= ((all.length / 2 + 1:Nat):Int)):n<=m:=by
 by_cases hm:n<=m
 ·exact hm
 ·have:=Zc4 (l:=all) (p:=λ x=>decide (x >= n)) (q:=λ x=>decide (x>m)) (λ x _ hx=>by simp only [decide_eq_true_eq] at *;omega)
  have:=h.few;omega
theorem Zk4 {v l A:List Int} (h:Zo v l=true):Zkg (v.map (pick A)) (ZeA v l A):=by
 unfold ZeA;rw [if_pos h];have:=Zkg.of_sort (all:=v.map (pick A)) (by simpa using Zde h);simpa using this
end
end Go.Proofs.YthpmfnffkjjlnaaGreat
namespace Go.Proofs
section
open Go.Shelf
def Tryz.lays189_ren:Go.Shelf.Ren:=⟨λ|189=>118|125=>168|257=>167|128=>224|129=>120|294=>215|295=>216|296=>217|297=>218|298=>219|299=>220|216=>221|300=>222|301=>223|328=>243|329=>244|330=>245|331=>246|332=>247|215=>248|343=>254|n=>n,λ|28=>30|3=>3|46=>199|0=>0|51=>224|53=>121|4=>4|183=>218|182=>217|131=>165|5=>5|9=>9|218=>243|222=>212|228=>252|229=>253|n=>n,λ|n=>n⟩
theorem Tryz.lays189:Go.Proofs.Lays.n189 Tryz.prog Tryz.lays189_ren:={
  mixed:=by kernel_rfl
  f125:=Tryz.func168.trans (congrArg some (by kernel_rfl))
  f128:=Tryz.func224.trans (congrArg some (by kernel_rfl))
  f129:=Tryz.func120.trans (congrArg some (by kernel_rfl))
  f189:=Tryz.func118.trans (congrArg some (by kernel_rfl))
  f215:=Tryz.func248.trans (congrArg some (by kernel_rfl))
  f216:=Tryz.func221.trans (congrArg some (by kernel_rfl))
  f257:=Tryz.func167.trans (congrArg some (by kernel_rfl))
  f294:=Tryz.func215.trans (congrArg some (by kernel_rfl))
  f295:=Tryz.func216.trans (congrArg some (by kernel_rfl))
  f296:=Tryz.func217.trans (congrArg some (by kernel_rfl))
  f297:=Tryz.func218.trans (congrArg some (by kernel_rfl))
  f298:=Tryz.func219.trans (congrArg some (by kernel_rfl))
  f299:=Tryz.func220.trans (congrArg some (by kernel_rfl))
  f300:=Tryz.func222.trans (congrArg some (by kernel_rfl))
  f301:=Tryz.func223.trans (congrArg some (by kernel_rfl))
  f328:=Tryz.func243.trans (congrArg some (by kernel_rfl))
  f329:=Tryz.func244.trans (congrArg some (by kernel_rfl))
  f330:=Tryz.func245.trans (congrArg some (by kernel_rfl))
  f331:=Tryz.func246.trans (congrArg some (by kernel_rfl))
  f332:=Tryz.func247.trans (congrArg some (by kernel_rfl))
  f343:=Tryz.func254.trans (congrArg some (by kernel_rfl))
  t0:=Tryz.underlying0
  a0:=Tryz.isAgg0
  z0:=Tryz.sizeOf0
  v0:=Tryz.zeroValue0
  t3:=Tryz.underlying3
  a3:=Tryz.isAgg3
  z3:=Tryz.sizeOf3
  v3:=Tryz.zeroValue3
  t4:=Tryz.underlying4
  a4:=Tryz.isAgg4
  z4:=Tryz.sizeOf4
  v4:=Tryz.zeroValue4
  t5:=Tryz.underlying5
  a5:=Tryz.isAgg5
  z5:=Tryz.sizeOf5
  v5:=Tryz.zeroValue5
  t9:=Tryz.underlying9
  a9:=Tryz.isAgg9
  z9:=Tryz.sizeOf9
  v9:=Tryz.zeroValue9
  t28:=Tryz.underlying30
  a28:=Tryz.isAgg30
  z28:=Tryz.sizeOf30
  v28:=Tryz.zeroValue30
  t46:=Tryz.underlying199
  a46:=Tryz.isAgg199
  z46:=Tryz.sizeOf199
  v46:=Tryz.zeroValue199
  t51:=Tryz.underlying224
  a51:=Tryz.isAgg224
  z51:=Tryz.sizeOf224
  v51:=Tryz.zeroValue224
  t53:=Tryz.underlying121
  a53:=Tryz.isAgg121
  z53:=Tryz.sizeOf121
  v53:=Tryz.zeroValue121
  t131:=Tryz.underlying165
  a131:=Tryz.isAgg165
  z131:=Tryz.sizeOf165
  v131:=Tryz.zeroValue165
  t182:=Tryz.underlying217
  a182:=Tryz.isAgg217
  z182:=Tryz.sizeOf217
  v182:=Tryz.zeroValue217
  t183:=Tryz.underlying218
  a183:=Tryz.isAgg218
  z183:=Tryz.sizeOf218
  v183:=Tryz.zeroValue218
  t218:=Tryz.underlying243
  a218:=Tryz.isAgg243
  z218:=Tryz.sizeOf243
  v218:=Tryz.zeroValue243
  t222:=Tryz.underlying212
  a222:=Tryz.isAgg212
  z222:=Tryz.sizeOf212
  v222:=Tryz.zeroValue212
  t228:=Tryz.underlying252
  a228:=Tryz.isAgg252
  z228:=Tryz.sizeOf252
  v228:=Tryz.zeroValue252
  t229:=Tryz.underlying253
  a229:=Tryz.isAgg253
  z229:=Tryz.sizeOf253
  v229:=Tryz.zeroValue253 }
open Go.Sort Go.RowKit in
theorem Tryz.slices_Sort_int (blk off cap:Nat) (zs:List Int) (w:World) (hH:Holds (Value.int .i64) w blk off zs.toArray) (hblk:blk<w.heap.size) (hsz:zs.length<4611686018427387904):
    Calls Tryz.prog 118 #[.slice (some ⟨blk,off,none⟩) zs.length cap] w λ e w'=>
      e=.returned (.tuple #[])/\∃ n os,w'=grow (putRow (Value.int .i64) (Sort.ahead w n) blk off (zs.mergeSort λ x y=>decide (x<=y)).toArray) os:=Any.slices_Sort_int Tryz.lays189 blk off cap zs w hH hblk hsz
open Go.RowKit Go.Sort in
theorem Tryz.slices_Sort_int_none (p:Option Addr) (cap:Nat) (w:World):
    Calls Tryz.prog 118 #[.slice p 0 cap] w λ e w'=>e=.returned (.tuple #[])/\w'=w:=Any.slices_Sort_int_none Tryz.lays189 p cap w
end
end Go.Proofs
namespace Go.Proofs.YthpmfnffkjjlnaaGreat
section
open Go Go.VC Tryz
variable {R:Cx} {Hs:List HP} {w:World} {s t u:Sl} {xs v l x A:List Int}
theorem Zek {T:TypeId} {zs:List Int} (hw:Sat R (Own s T (zs.map (Value.int .i64))::Hs) w) (hz:zs.length<4611686018427387904):
  Zj prog 118 #[.slice s.a s.len s.cap] w λ r w'=>r=.tuple #[]/\Sat R (Own s T ((ZaF zs).map (Value.int .i64))::Hs) w':=by
 rcases Own.cases hw with ⟨rfl,h0,hn⟩|⟨b,rest,fr,rfl,hfr,hp⟩
 ·have:zs=[]:=by simpa using h0
  subst this;refine Calls.mono (Tryz.slices_Sort_int_none none 0 w) ?_;rintro e w' ⟨rfl,rfl⟩;exact ⟨_,rfl,rfl,by simpa [ZaF] using Own.nil hn⟩
 ·have hat:=hp.at
  have hlt:b<w.heap.size:=(Array.getElem?_eq_some_iff.1 hat).1;have e:(⟨some ⟨b,0,none⟩,(zs.map (Value.int .i64)).length,(zs.map (Value.int .i64)++rest).length⟩:Sl)=⟨some ⟨b,0,none⟩,zs.length,(zs.map (Value.int .i64)++rest).length⟩:=by simp
  rw [e];refine Calls.mono (Tryz.slices_Sort_int b 0 (zs.map (Value.int .i64)++rest).length zs w ?_ hlt hz) ?_
  ·intro j hj
   have hj':j<zs.length:=by simpa using hj
   refine ⟨?_,Zch hat hfr (by simp;omega)⟩;rw [Za1 hat,Nat.zero_add,List.getElem?_append_left (by simpa using hj')];simp [hj']
  ·rintro e w' ⟨rfl,n,os,rfl⟩
   refine ⟨_,rfl,rfl,?_⟩;rw [<-Zel];have h2:=ZjA (Value.int .i64) (ys:=ZaF zs) (Za8 zs) hp n os;have h3:=Own.of_pts h2 (hfr.le (by simp [Za8]));have hl:=Za8 zs;simp only [List.length_map,List.length_append,hl] at h3 ⊢;exact h3
theorem Zcj:El prog 30 30 3 8:=⟨underlying30,⟨_,underlying30⟩,by kernel_rfl⟩
theorem Zmb (h:Zo v l=true) {k:Nat} (hk:k<v.length):0<v[k]/\v[k]<=15:=ZaK (Zp h) _ (List.getElem_mem hk)
theorem Znl (hA:A.length=16) {n:Int} (h0:0<n) (h1:n<=15):∃ h:n.toNat<A.length,A[n.toNat]=pick A n:=by
 have:n.toNat<A.length:=by omega
 exact ⟨this,by unfold pick;rw [Zii this]⟩
theorem Zh7 (hw:Sat R Hs w) (hv:RoI R s v) (hl:RoI R t l) (hA:A.length=16):
  Zj prog 160 #[.agg #[.slice s.a s.len s.cap,.slice t.a t.len t.cap],.agg (A.map (Value.int .i64)).toArray] w λ r w'=>r=.int .i64 (ZeA v l A)/\Sat R Hs w':=by
 have hlen:=RoI.len hv;have hbd:=RoI.bound hv;apply Zoi;refine Zd hw λ b w hw=>Zd hw λ c w hw=>?_;have hw:Sat R (pts c (.cells (A.map (Value.int .i64)).toArray 194 (0,0))::pts b (.cells [.slice s.a s.len s.cap,.slice t.a t.len t.cap].toArray 32 (0,0))::Hs) w:=hw;refine ⟨s,t,At.own (eqS hw) (by exact ⟨rfl,rfl,trivial⟩),?_⟩;refine (ZaA hw hv hl).use ?_;rintro _ w ⟨rfl,hw⟩;refine ⟨_,rfl,Br.mk (λ h=>?_) (λ h=>?_)⟩
 ·simp only [Bool.not_eq_true'] at h
  exact ⟨by simp [ZeA,h],hw.drop.drop⟩
 ·simp only [Bool.not_eq_false'] at h
  have h15:=Zv (Zp h);refine ⟨s,At.own (eqS hw) (by exact ⟨rfl,trivial⟩),?_⟩;refine ⟨λ all i w=>∃ k:Nat,i=k/\k<=v.length/\Sat R (Own all 3 (((v.take k).map (pick A)).map (Value.int .i64))::pts c (.cells (A.map (Value.int .i64)).toArray 194 (0,0))::pts b (.cells [.slice s.a s.len s.cap,.slice t.a t.len t.cap].toArray 32 (0,0))::Hs) w,
   λ _ i _=>v.length - i.toNat,⟨0,rfl,Nat.zero_le _,Own.nil hw⟩,?_⟩
  rintro z all _ w ⟨k,rfl,hk,hw⟩;refine Br.mk (λ h1=>?_) (λ h1=>?_)<;>simp only [decide_eq_true_eq,decide_eq_false_iff_not] at h1
  ·have hk':k<v.length:=by omega
   obtain ⟨n0,n1⟩:=Zmb h hk';obtain ⟨hn,hp⟩:=Znl hA n0 n1;refine hv.idx (eqS hw) hk' (Rng.mk (by omega) (by omega) ⟨_,At.ints (eqS hw) hn,?_⟩);refine Zcv Zcj hw (by simp;omega) λ all' w' hw=>?_;have e:(v.take k).map (pick A)++[A[(v[k]).toNat]]=(v.take (k + 1)).map (pick A):=by
    rw [List.take_succ_eq_append_getElem hk',hp,List.map_append];rfl
   rw [e] at hw;rw [Zh (by omega) (by omega)];exact ⟨⟨k + 1,by omega,by omega,hw⟩,by dsimp only;omega⟩
  ·have:k=v.length:=by omega
   subst this;rw [List.take_length] at hw;refine (Zek hw (by simp;omega)).use ?_;rintro _ w ⟨rfl,hw⟩;have hs:=Za8 (v.map (pick A));rw [List.length_map] at hs;obtain ⟨R',hr,hro,hw,hback⟩:=Own.lendI hw (by omega);have hv':=hro _ _ hv;have hl':=hro _ _ hl;refine ⟨rfl,s,t,At.own (eqS hw) (by exact ⟨rfl,rfl,trivial⟩),?_⟩;refine (Zez hw hv' hl').use ?_;rintro _ w ⟨rfl,hw⟩;have hal:=RoI.len hr;rw [hs] at hal;have hp:=Zde h;have e:IntKind.i64.wrap ((all.len:Int) - Zgs v l)=((v.length - (v.length / 2 + 1):Nat):Int):=by
    unfold Zgs;rw [if_pos h,hal,Zh (by omega) (by omega)];omega
   refine ⟨_,rfl,?_⟩;rw [e];have hk:v.length - (v.length / 2 + 1)<(ZaF (v.map (pick A))).length:=by omega
   refine hr.idx (eqS hw) hk ⟨?_,(hback hw).drop.drop.drop⟩;unfold ZeA;rw [if_pos h,Zii hk]
end
section
open Go Go.VC Tryz
variable {R:Cx} {Hs:List HP} {w:World} {s t u:Sl} {xs v l x A B:List Int}
theorem ZU {l:List Int} {n:Int}:ZS l n=true↔n∈l:=by
 induction l with
 |nil=>simp [ZS]
 |cons a l ih=>simp [ZS,ih];exact ⟨λ h=>h.imp Eq.symm id,λ h=>h.imp Eq.symm id⟩
theorem Zay:∀ {l:List Int} {a:Int},ZM a l=true->l.Nodup
 |[],_,_=>List.nodup_nil
 |x::l,a,h=>by
  simp only [ZM,Bool.and_eq_true,Bool.not_eq_true',decide_eq_false_iff_not] at h;refine List.nodup_cons.2 ⟨λ hx=>?_,Zay h.2⟩;have:=ZaK h.2 x hx;omega
theorem ZbV (p:Int->Bool) {k:Nat} (hk:k<v.length):(v.take (k + 1)).filter p=(v.take k).filter p++if p v[k] then [v[k]] else []:=by
 rw [List.take_succ_eq_append_getElem hk,List.filter_append];cases h:p v[k]<;>simp [h]
variable {R:Cx} {Hs:List HP} {w:World} {s t u:Sl} {xs ys v l x A B:List Int}
abbrev ints (l:List Int):List Value:=l.map (Value.int .i64)
def Zbl (n:Int):List Int->List Int
 |[]=>[n]
 |x::l=>if x>n then n::x::l else x::Zbl n l
def Zk (n:Int) (l:List Int):List Int:=l.filter λ x=>x !=n
theorem Zqu {w:World} (hw:Sat R Hs w) (hs:Ro R s (ints xs)):Src prog 1 30 (.slice s.a s.len s.cap) xs.length (ints xs) w:=by
 have hl:s.len=xs.length:=by have:=hs.len;simpa using this
 by_cases hx:xs=[]
 ·subst hx
  obtain ⟨a,n,c⟩:=s;simp only [List.length_nil] at hl;subst hl;cases a with
  |none=>exact Go.Src.ofNil _ underlying30 _
  |some a=>exact Go.Src.ofSlice w underlying30 _ 0 _ [] rfl (λ j u hj=>by simp at hj) (λ u hu=>by cases hu)
 ·obtain ⟨b,off,l,T,fr,ha,hb,hel⟩:=hs.mem (by simpa using hx)
  obtain ⟨a,n,c⟩:=s;simp only at ha hl;subst ha hl;refine Go.Src.ofSlice w underlying30 _ _ _ _ (by simp) (λ j u hj=>?_) (λ u hu=>?_)
  ·rw [ZG]
   have:=hw.of_ro hb;simp only [World.cell?,this,Option.isSome_none,Bool.false_eq_true,if_false];exact hel j u hj
  ·obtain ⟨x,_,rfl⟩:=List.mem_map.1 hu;rfl
theorem Zan (hw:Sat R Hs w) (hs:RoI R s xs) (hx:xs.length<=1000):
  Zj prog 88 #[.slice s.a s.len s.cap] w λ r w'=>∃ s':Sl,r=.slice s'.a s'.len s'.cap/\Sat R (Own s' 3 (ints xs)::Hs) w':=by
 have hl:=RoI.len hs;apply Zpx;refine Br.mk (λ h=>?_) (λ h=>?_)
 ·refine ⟨⟨none,0,0⟩,rfl,?_⟩
  have:xs=[]:=by
   by_cases hx:xs=[]
   ·exact hx
   ·obtain ⟨b,off,l,T,fr,ha,_⟩:=Ro.mem hs (by simpa using hx)
    rw [ha] at h;cases h
  subst this;exact Own.nil hw
 ·refine Zd hw λ b w hw=>?_
  have h0:Sat R (Own ⟨some ⟨b,0,none⟩,0,0⟩ 3 []::Hs) w:=Own.of_pts (xs:=[]) (rest:=[]) hw;obtain ⟨w',t',hr,hk⟩:=Zbj (ty:=30) (K:=λ t' w'=>Sat R (Own t' 3 (ints xs)::Hs) w') Zcj h0 (Zqu h0 hs) rfl (by simp;omega) (by simp;omega) (λ s' w' h=>by simpa using h);exact ⟨w',t',hr,t',rfl,hk⟩
theorem Zff {f:Value} (p:Int->Bool) (hw:Sat R (Own s 3 (ints xs)::Hs) w) (hx:xs.length<=1000)
  (hf:∀ (n:Int) (w:World),Sat R (Own s 3 (ints xs)::Hs) w->Zdw prog cl f [.int .i64 n] w (λ e w'=>e=.returned (.bool (p n))/\Sat R (Own s 3 (ints xs)::Hs) w')):
  Zj prog 166 #[.slice s.a s.len s.cap,f] w λ r w'=>(∃ i:Int,r=.int .i64 i/\((i=-1/\∀ x∈xs,p x=false)\/∃ (k:Nat) (h:k<xs.length),i=k/\p xs[k]=true/\∀ x∈xs.take k,p x=false))/\Sat R (Own s 3 (ints xs)::Hs) w':=by
 have hl:=Own.len hw;rw [List.length_map] at hl;apply Zoe;refine ⟨λ i w=>∃ k:Nat,i=k/\k<=xs.length/\(∀ x∈xs.take k,p x=false)/\Sat R (Own s 3 (ints xs)::Hs) w,λ i _=>xs.length - i.toNat,⟨0,rfl,Nat.zero_le _,by simp,hw⟩,?_⟩;rintro z _ w ⟨k,rfl,hk,hno,hw⟩;refine Br.mk (λ h=>?_) (λ h=>?_)<;>simp only [decide_eq_true_eq,decide_eq_false_iff_not] at h
 ·have hk':k<xs.length:=by omega
  refine Own.idx hw (eqS hw) hk' ((hf _ _ hw).mono ?_);rintro _ w ⟨rfl,hw⟩;refine ⟨_,rfl,Br.mk (λ h1=>?_) (λ h1=>?_)⟩
  ·exact ⟨⟨_,rfl,.inr ⟨k,hk',rfl,h1,hno⟩⟩,hw⟩
  ·rw [Zh (by omega) (by omega)]
   refine ⟨⟨k + 1,by omega,by omega,λ x hx=>?_,hw⟩,by dsimp only;omega⟩;rw [List.take_succ_eq_append_getElem hk'] at hx;rcases List.mem_append.1 hx with hx|hx
   ·exact hno x hx
   ·simp at hx;rw [hx];exact h1
 ·have:k=xs.length:=by omega
  subst this;rw [List.take_length] at hno;exact ⟨⟨_,rfl,.inl ⟨rfl,hno⟩⟩,hw⟩
theorem ZeT {f:Value} (p:Int->Bool) (hw:Sat R (Own s 3 (ints xs)::Hs) w) (hx:xs.length<=1000)
  (hf:∀ (zs:List Int) (n:Int) (w:World),Sat R (Own s 3 (ints zs)::Hs) w->Zdw prog cl f [.int .i64 n] w (λ e w'=>e=.returned (.bool (p n))/\Sat R (Own s 3 (ints zs)::Hs) w')):
  Zj prog 117 #[.slice s.a s.len s.cap,f] w λ r w'=>∃ s':Sl,r=.slice s'.a s'.len s'.cap/\Sat R (Own s' 3 (ints (xs.filter λ n=>!p n))::Hs) w':=by
 have hl:=Own.len hw;rw [List.length_map] at hl;apply Zow;refine (Zff p hw hx (hf xs)).use ?_;rintro _ w ⟨⟨i,rfl,hi⟩,hw⟩;refine ⟨_,rfl,?_⟩;rcases hi with ⟨rfl,hno⟩|⟨k,hk,rfl,hpk,hno⟩
 ·refine Br.t rfl ⟨s,rfl,?_⟩
  rw [List.filter_eq_self.2 (λ x hx=>by simp [hno x hx])];exact hw
 ·refine Br.f (by simp) ?_
  rw [Zh (by omega) (by omega)];refine ⟨λ i j w=>∃ (a b:Nat) (zs:List Int),i=a/\j=b/\a<b/\b<=xs.length/\zs.length=xs.length/\zs.take a=(xs.take b).filter (λ n=>!p n)/\zs.drop b=xs.drop b/\Sat R (Own s 3 (ints zs)::Hs) w,
   λ _ j _=>xs.length - j.toNat,⟨k,k + 1,xs,rfl,by omega,by omega,by omega,rfl,?_,rfl,hw⟩,?_⟩
  ·rw [ZbV _ hk,hpk,List.filter_eq_self.2 (λ x hx=>by simp [hno x hx])];simp
  rintro z _ _ w ⟨a,b,zs,rfl,rfl,hab,hb,hzl,hz1,hz2,hw⟩;refine Br.mk (λ h=>?_) (λ h=>?_)<;>simp only [decide_eq_true_eq,decide_eq_false_iff_not] at h
  ·have hb':b<xs.length:=by omega
   have hbz:b<zs.length:=by omega
   have ez:zs[b]=xs[b]:=by
    have h1:=hz2;rw [Zbw hbz,Zbw hb'] at h1;exact (List.cons.inj h1).1
   have ed:zs.drop (b + 1)=xs.drop (b + 1):=by
    have h1:=hz2;rw [Zbw hbz,Zbw hb'] at h1;exact (List.cons.inj h1).2
   rw [Zh (x:=(b:Int) + 1) (by omega) (by omega),Zh (x:=(a:Int) + 1) (by omega) (by omega)];refine Own.idx hw (eqS hw) hbz ((hf zs _ _ hw).mono ?_);rintro _ w ⟨rfl,hw⟩;refine ⟨_,rfl,Br.mk (λ h1=>?_) (λ h1=>?_)⟩
   ·refine Own.store (by kernel_rfl) hw (by omega) λ w hw=>?_
    refine ⟨⟨a + 1,b + 1,_,by omega,by omega,by omega,by omega,by simpa using hzl,?_,?_,hw⟩,by dsimp only;omega⟩
    ·rw [ZbV _ hb',<-ez,h1,if_pos rfl,<-hz1]
     rw [List.take_succ_eq_append_getElem (by simp;omega),List.take_set_of_le (Nat.le_refl _)];simp
    ·rw [List.drop_set_of_lt (by omega),ed]
   ·refine ⟨⟨a,b + 1,zs,by omega,by omega,by omega,by omega,hzl,?_,ed,hw⟩,by dsimp only;omega⟩
    rw [ZbV _ hb',<-ez,h1,hz1];simp
  ·have:b=xs.length:=by omega
   subst this;rw [List.take_length] at hz1;simp only [Int.toNat_natCast];have hcap:=Own.cap hw;refine ⟨by omega,by omega,?_⟩;refine Own.clearTail underlying30 zeroValue3 hw (by omega) λ w hw=>?_;refine ⟨by omega,by omega,⟨s.a,a,s.cap⟩,rfl,?_⟩;rw [<-hz1];exact hw
end
section
open Go Go.VC Tryz
variable {v l:List Int} {n:Int}
theorem Zgb:∀ {l:List Int} {a:Int},ZM a l=true->l.Pairwise (·<=·)
 |[],_,_=>List.Pairwise.nil
 |x::l,a,h=>by
  simp only [ZM,Bool.and_eq_true,Bool.not_eq_true',decide_eq_false_iff_not] at h;refine List.pairwise_cons.2 ⟨λ y hy=>?_,Zgb h.2⟩;have:=ZaK h.2 y hy;omega
theorem Zjt {v:List Int} (h:v.Pairwise (·<=·)):ZaF v=v:=by
 exact List.Perm.eq_of_pairwise (le:=(·<=·)) (λ a b _ _ h1 h2=>Int.le_antisymm h1 h2) (ZbN v) h (Z4 v)
theorem Zbp (h:ZM 0 v=true):ZaF (Zk n v)=Zk n v:=Zjt ((Zgb h).filter _)
theorem ZaP (n:Int):∀ v:List Int,(Zbl n v).Perm (n::v)
 |[]=>List.Perm.refl _
 |x::v=>by
  unfold Zbl;split
  ·exact List.Perm.refl _
  ·exact ((ZaP n v).cons x).trans (List.Perm.swap _ _ _)
theorem ZiB {n:Int}:∀ {v:List Int},v.Pairwise (·<=·)->(Zbl n v).Pairwise (·<=·)
 |[],_=>List.pairwise_singleton _ _
 |x::v,h=>by
  have hx:=List.pairwise_cons.1 h;unfold Zbl;split
  ·rename_i hn
   refine List.pairwise_cons.2 ⟨λ y hy=>?_,h⟩;rcases List.mem_cons.1 hy with rfl|hy
   ·omega
   ·have:=hx.1 y hy;omega
  ·rename_i hn
   refine List.pairwise_cons.2 ⟨λ y hy=>?_,ZiB hx.2⟩;rcases List.mem_cons.1 ((ZaP n v).mem_iff.1 hy) with rfl|hy
   ·omega
   ·exact hx.1 y hy
theorem Zax (h:ZS v n=false):Zk n v=v:=
 List.filter_eq_self.2 λ x hx=>by
  have:x≠n:=λ e=>by
   have:=ZU.2 (e ▸ hx);rw [h] at this;cases this
  simpa using this
theorem ZgX (h:ZM 0 v=true) (hn:ZS v n=false):ZaF (Zk n v++[n])=Zbl n v:=by
 rw [Zax hn];refine List.Perm.eq_of_pairwise (le:=(·<=·)) (λ a b _ _ h1 h2=>Int.le_antisymm h1 h2) (ZbN _) (ZiB (Zgb h)) ?_;exact (Z4 _).trans ((List.perm_append_comm).trans (ZaP n v).symm)
theorem ZdA (h:Zo v l=true) (hn:ZS l n=true):ZS v n=false:=by
 simp only [Zo,Bool.and_eq_true,Zc2,List.all_eq_true,Bool.not_eq_true'] at h;cases hv:ZS v n
 ·rfl
 ·have:=h.2 n (ZU.1 hv);rw [hn] at this;cases this
theorem Zbe:∀ {v:List Int},v.Nodup->ZS v n=true->(Zk n v).length + 1=v.length
 |[],_,h=>by simp [ZS] at h
 |x::v,hd,h=>by
  obtain ⟨h1,h2⟩:=List.nodup_cons.1 hd;by_cases hx:x=n
  ·subst hx
   have hv:ZS v x=false:=by
    cases hv:ZS v x
    ·rfl
    ·exact absurd (ZU.1 hv) h1
   have:Zk x (x::v)=Zk x v:=by simp [Zk]
   rw [this,Zax hv];rfl
  ·have hv:ZS v n=true:=by
    simp only [ZS,Bool.or_eq_true,beq_iff_eq,hx,false_or] at h;exact h
   have:Zk n (x::v)=x::Zk n v:=by simp [Zk,hx]
   rw [this,List.length_cons,List.length_cons,Zbe h2 hv]
def chG (v l:List Int) (kind n:Int):List Int × List Int × Int:=
 if (!Zo v l||decide (kind<1)||decide (kind>3)||decide (n<1)||decide (n>15))=true then ([],[],1)
 else if kind==1 then (if ZS v n||ZS l n then ([],[],7) else (Zk n v,Zbl n l,0))
 else if kind==2 then (if !ZS l n then ([],[],7) else (Zbl n v,Zk n l,0))
 else if (!ZS v n && !ZS l n)||(ZS v n && v.length==1) then ([],[],7) else (Zk n v,Zk n l,0)
structure ZoT (v l:List Int) (kind n:Int):Prop where
 right:Zo v l=true
 k0:1<=kind
 k1:kind<=3
 n0:1<=n
 n1:n<=15
theorem ZoT.eq {kind:Int} (h:ZoT v l kind n):chG v l kind n=
  if kind==1 then (if ZS v n||ZS l n then ([],[],7) else (Zk n v,Zbl n l,0))
  else if kind==2 then (if !ZS l n then ([],[],7) else (Zbl n v,Zk n l,0))
  else if (!ZS v n && !ZS l n)||(ZS v n && v.length==1) then ([],[],7) else (Zk n v,Zk n l,0):=by
 unfold chG;have h1:=h.k0;have h2:=h.k1;have h3:=h.n0;have h4:=h.n1;rw [if_neg];simp [h.right];omega
theorem ZbX {kind:Int} (h:Zo v l=false\/kind<1\/kind>3\/n<1\/n>15):chG v l kind n=([],[],1):=by
 unfold chG;rw [if_pos];rcases h with h|h|h|h|h<;>simp [h]
structure Zjk (v l:List Int) (kind n:Int) (may:Bool) (a b:List Int):Prop where
 yes:may=true->chG v l kind n=(ZaF a,ZaF b,0)
 no:may=false->chG v l kind n=([],[],7)
theorem Zrs (h:ZoT v l 1 n):Zjk v l 1 n (!ZS v n && !ZS l n) (Zk n v) (Zk n l++[n]):=by
 refine ⟨λ hm=>?_,λ hm=>?_⟩<;>rw [h.eq]<;>simp only [beq_self_eq_true,if_true]
 ·simp only [Bool.and_eq_true,Bool.not_eq_true'] at hm
  rw [hm.1,hm.2,Zbp (Zp h.right),ZgX (ZO h.right) hm.2];rfl
 ·rw [if_pos]
  cases h1:ZS v n<;>cases h2:ZS l n<;>simp_all
theorem Zrr (h:ZoT v l 2 n):Zjk v l 2 n (ZS l n) (Zk n v++[n]) (Zk n l):=by
 refine ⟨λ hm=>?_,λ hm=>?_⟩<;>rw [h.eq]<;>simp only [show ((2:Int)==1)=false from rfl,beq_self_eq_true,if_true,Bool.false_eq_true,if_false]
 ·rw [hm,Zbp (ZO h.right),ZgX (Zp h.right) (ZdA h.right hm)];rfl
 ·rw [hm];rfl
theorem Zrq (h:ZoT v l 3 n):Zjk v l 3 n (ZS l n||(ZS v n && decide (((Zk n v).length:Int)>0))) (Zk n v) (Zk n l):=by
 refine ⟨λ hm=>?_,λ hm=>?_⟩<;>rw [h.eq]<;>simp only [show ((3:Int)==1)=false from rfl,show ((3:Int)==2)=false from rfl,Bool.false_eq_true,if_false]
 ·rw [Zbp (ZO h.right),Zbp (Zp h.right),if_neg]
  cases h1:ZS l n
  ·rw [h1,Bool.false_or,Bool.and_eq_true,decide_eq_true_eq] at hm
   have:=Zbe (Zay (Zp h.right)) hm.1;simp [hm.1];omega
  ·rw [ZdA h.right h1];simp
 ·rw [if_pos]
  simp only [Bool.or_eq_false_iff] at hm;obtain ⟨h1,h2⟩:=hm;cases h3:ZS v n
  ·simp [h1]
  ·rw [h3,Bool.true_and,decide_eq_false_iff_not] at h2
   have:=Zbe (Zay (Zp h.right)) h3;simp;omega
end
section
open Go Go.VC Tryz
variable {R:Cx} {Hs Rest:List HP} {w:World} {s t u:Sl} {xs ys v l x A B:List Int} {kind n:Int}
theorem ZiQ {c:Nat} {p q:Value} {a b:Sl} {e:Int} {K:Value->World->Prop} (hw:Sat R Hs w) [tk:Zbk c Hs (.cells [p,q].toArray 32 (0,0)) Rest]
  (k:∀ w',Sat R (pts c (.cells [.slice a.a a.len a.cap,.slice b.a b.len b.cap].toArray 32 (0,0))::Rest) w'->K (.tuple #[.agg #[.slice a.a a.len a.cap,.slice b.a b.len b.cap],.int .i64 e]) w'):
  ∃ w':World,((Instr.storeAt 32 (.pointer ((some ⟨c,0,none⟩))) (.agg #[.slice a.a a.len a.cap,.slice b.a b.len b.cap])).run prog w=.ok () w')/\
   ∃ a' b':Sl,(At (λ w''=>w''=w') ⟨c,0,none⟩ [.slice a'.a a'.len a'.cap,.slice b'.a b'.len b'.cap])/\
   K (.tuple #[.agg #[.slice a'.a a'.len a'.cap,.slice b'.a b'.len b'.cap],.int .i64 e]) w':=by
 refine Za hw (tk:=tk) (by kernel_rfl) rfl (by simp [Value.cells]) λ w' h=>?_;have h:Sat R (pts c (.cells [.slice a.a a.len a.cap,.slice b.a b.len b.cap].toArray 32 (0,0))::Rest) w':=h;exact ⟨a,b,At.own (eqS h) (by exact ⟨rfl,rfl,trivial⟩),k _ h⟩
def ChQ (R:Cx) (Hs:List HP) (v l:List Int) (kind n:Int):Value->World->Prop:=λ r w=>∃ a b:Sl,r=.tuple #[.agg #[.slice a.a a.len a.cap,.slice b.a b.len b.cap],.int .i64 (chG v l kind n).2.2]/\
 Sat R (Own a 3 (ints (chG v l kind n).1)::Own b 3 (ints (chG v l kind n).2.1)::Hs) w
theorem ChQ.mk {a b:Sl} {g h:List Int} {e:Int} (hc:chG v l kind n=(g,h,e)) (hw:Sat R (Own a 3 (ints g)::Own b 3 (ints h)::Hs) w):
  ChQ R Hs v l kind n (.tuple #[.agg #[.slice a.a a.len a.cap,.slice b.a b.len b.cap],.int .i64 e]) w:=⟨a,b,by rw [hc],by rw [hc];exact hw⟩
theorem ChQ.err {e:Int} (hc:chG v l kind n=([],[],e)) (hw:Sat R Hs w):ChQ R Hs v l kind n (.tuple #[.agg #[.slice none 0 0,.slice none 0 0],.int .i64 e]) w:=
 ChQ.mk (a:=⟨none,0,0⟩) (b:=⟨none,0,0⟩) hc (Own.nil (Own.nil hw))
theorem ZcB {c:Nat} {p q:Value} {e:Int} {K:Value->World->Prop} (hw:Sat R Hs w) [tk:Zbk c Hs (.cells [p,q].toArray 32 (0,0)) Rest]
  (k:∀ w',Sat R Rest w'->K (.tuple #[.agg #[.slice none 0 0,.slice none 0 0],.int .i64 e]) w'):
  ∃ w':World,((Instr.storeAt 32 (.pointer ((some ⟨c,0,none⟩))) (.agg #[.slice none 0 0,.slice none 0 0])).run prog w=.ok () w')/\
   ∃ a' b':Sl,(At (λ w''=>w''=w') ⟨c,0,none⟩ [.slice a'.a a'.len a'.cap,.slice b'.a b'.len b'.cap])/\
   K (.tuple #[.agg #[.slice a'.a a'.len a'.cap,.slice b'.a b'.len b'.cap],.int .i64 e]) w':=
 ZiQ (tk:=tk) (a:=⟨none,0,0⟩) (b:=⟨none,0,0⟩) hw λ w' h=>k w' h.drop
theorem ab2 {A B:HP} (h:Sat R (A::B::tru::Hs) w):Sat R (tru::Hs) w:=(h.cons λ _ h=>h.absorb).absorb
theorem ab3 {A B C:HP} (h:Sat R (A::B::C::tru::Hs) w):Sat R (tru::Hs) w:=(h.cons λ _ h=>h.cons λ _ h=>h.absorb).cons (λ _ h=>h.absorb)|>.absorb
variable {R:Cx} {Hs Rest:List HP} {w:World} {s t u:Sl} {xs ys v l x A B:List Int} {kind n:Int}
theorem Zbx {c:Nat} {zs:List Int} [tk:Zbk c Hs (.cells [.int .i64 n].toArray 3 (0,0)) Rest] (hw:Sat R (Own s 3 (ints zs)::Hs) w) (hx:zs.length<=1000):
  Zj prog 117 #[.slice s.a s.len s.cap,.func (.func 116) #[] #[.pointer (some ⟨c,0,none⟩)]] w λ r w'=>∃ s':Sl,r=.slice s'.a s'.len s'.cap/\Sat R (Own s' 3 (ints (Zk n zs))::Hs) w':=by
 refine ZeT (λ x=>x==n) hw hx λ zs m w hw=>?_;show Calls prog 116 #[.int .i64 m,.pointer (some ⟨c,0,none⟩)] w _;have:Zj prog 116 #[.int .i64 m,.pointer (some ⟨c,0,none⟩)] w λ r w'=>r=.bool (m==n)/\Sat R (Own s 3 (ints zs)::Hs) w':=by
  apply Zox;exact Zb.mk rfl ⟨n,At.own (eqS hw) (by exact ⟨rfl,trivial⟩),rfl,hw⟩
 refine this.use ?_;rintro _ w ⟨rfl,hw⟩;exact ⟨rfl,hw⟩
abbrev Bs (d c b:Nat) (s t:Sl) (n:Int) (Hs:List HP):List HP:=
 pts d (.cells [.slice none 0 0,.slice none 0 0].toArray 32 (0,0))::pts c (.cells [.int .i64 n].toArray 3 (0,0))::pts b (.cells [.slice s.a s.len s.cap,.slice t.a t.len t.cap].toArray 32 (0,0))::Hs
abbrev ZqG (R:Cx) (B:List HP) (v l:List Int) (o:Nat) (w:World):Prop:=∃ a e:Sl,Sat R (pts o (.cells [.slice a.a a.len a.cap,.slice e.a e.len e.cap].toArray 32 (0,0))::Own e 3 (ints l)::Own a 3 (ints v)::tru::B) w
theorem Zo4 {o i:Nat} {p q:Value} {a:Sl} {K:World->Prop} (hw:Sat R (pts o (.cells [p,q].toArray 32 (0,0))::Hs) w) (hi:i<2)
  (k:∀ w',Sat R (pts o (.cells ([p,q].set i (.slice a.a a.len a.cap)).toArray 32 (0,0))::Hs) w'->K w'):
  ∃ w':World,((Instr.storeAt 30 (.pointer ((some ⟨o,i,none⟩))) (.slice a.a a.len a.cap)).run prog w=.ok () w')/\K w':=
 Za hw (by kernel_rfl) rfl (by simp [Value.cells];omega) λ w' h=>k w' h
theorem ZeW (kind n:Int) (hw:Sat R Hs w) (hv:RoI R s v) (hl:RoI R t l):
  Zj prog 54 #[.agg #[.slice s.a s.len s.cap,.slice t.a t.len t.cap],.int .i64 kind,.int .i64 n] w (ChQ R Hs v l kind n):=by
 have hlen:=RoI.len hv;apply ZpP;refine Zd hw λ b w hw=>Zd hw λ c w hw=>Zd hw λ d w hw=>?_;have hw:Sat R (Bs d c b s t n Hs) w:=hw;refine ⟨λ w=>ZoT v l kind n/\Sat R (Bs d c b s t n Hs) w,⟨s,t,At.own (eqS hw) (by exact ⟨rfl,rfl,trivial⟩),?_⟩,?_⟩
 ·refine (ZaA hw hv hl).use ?_
  rintro _ w ⟨rfl,hw⟩;refine ⟨_,rfl,Br.mk (λ h=>?_) (λ h=>Br.mk (λ h1=>?_) (λ h1=>Br.mk (λ h2=>?_) (λ h2=>⟨n,At.own (eqS hw) (by exact ⟨rfl,trivial⟩),Br.mk (λ h3=>?_) (λ h3=>⟨n,At.own (eqS hw) (by exact ⟨rfl,trivial⟩),Br.mk (λ h4=>?_) (λ h4=>?_)⟩)⟩)))⟩
  ·exact ZcB hw λ w h'=>ChQ.err (ZbX (.inl (by simpa using h))) h'.drop.drop
  ·exact ZcB hw λ w h'=>ChQ.err (ZbX (.inr (.inl (by simpa using h1)))) h'.drop.drop
  ·exact ZcB hw λ w h'=>ChQ.err (ZbX (.inr (.inr (.inl (by simpa using h2))))) h'.drop.drop
  ·exact ZcB hw λ w h'=>ChQ.err (ZbX (.inr (.inr (.inr (.inl (by simpa using h3)))))) h'.drop.drop
  ·exact ZcB hw λ w h'=>ChQ.err (ZbX (.inr (.inr (.inr (.inr (by simpa using h4)))))) h'.drop.drop
  ·simp only [decide_eq_false_iff_not,Bool.not_eq_false'] at h h1 h2 h3 h4
   exact ⟨⟨h,by omega,by omega,by omega,by omega⟩,hw⟩
 rintro z w ⟨ok,hw⟩;have h15:=Zv (Zp ok.right);have h15':=Zv (ZO ok.right);refine ZlA hw λ w hw=>?_;refine ⟨s,At.own Zf (by exact ⟨rfl,trivial⟩),n,At.own Zf (by exact ⟨rfl,trivial⟩),t,At.own Zf (by exact ⟨rfl,trivial⟩),n,At.own Zf (by exact ⟨rfl,trivial⟩),?_⟩;refine (ZdN hw).use ?_;rintro _ w ⟨b1,rfl,hw⟩;refine ⟨_,rfl,hw.absorb,(Zda hv n w hw).mono ?_⟩;rintro _ w ⟨rfl,hw⟩;have hw:=hw.absorb;refine ⟨_,rfl,hw,(ZdN hw).use ?_⟩;rintro _ w ⟨b2,rfl,hw⟩;refine ⟨_,rfl,hw.absorb,(Zda hl n w hw).mono ?_⟩;rintro _ w ⟨rfl,hw⟩;have hw:=hw.absorb;refine ⟨_,rfl,hw,?_⟩;refine ⟨λ out w=>∃ o,out=some ⟨o,0,none⟩/\ZqG R (Bs d c b s t n Hs) (Zk n v) (Zk n l) o w,?_,?_⟩
 ·-- the end of each order
  have fin:∀ {o:Nat} {a e:Sl} {w},Sat R (pts o (.cells [.slice none 0 0,.slice none 0 0].toArray 32 (0,0))::Own e 3 (ints (Zk n l))::Own a 3 (ints (Zk n v))::tru::Bs d c b s t n Hs) w->
    ∃ w':World,((Instr.storeAt 32 (.pointer ((some ⟨o,0,none⟩))) (.agg #[.slice a.a a.len a.cap,.slice e.a e.len e.cap])).run prog w=.ok () w')/\
     (∃ o',some (⟨o,0,none⟩:Addr)=some ⟨o',0,none⟩/\ZqG R (Bs d c b s t n Hs) (Zk n v) (Zk n l) o' w'):=λ {o a e w} hw=>
   by
   refine Za hw (by kernel_rfl) rfl (by simp [Value.cells]) λ w' h=>?_;exact ⟨o,rfl,a,e,h⟩
  have ab4:∀ {A B C D:HP} {Hs:List HP} {w},Sat R (A::B::C::D::tru::Hs) w->Sat R (tru::Hs) w:=λ h=>ab3 (h.cons λ _ h=>h.cons λ _ h=>h.cons λ _ h=>h.absorb);have lv:(Zk n v).length<=1000:=Nat.le_trans (List.length_filter_le _ _) (by omega);refine Zm hw λ w hw=>?_;refine ⟨s,At.own Zf (by exact ⟨rfl,trivial⟩),t,At.own Zf (by exact ⟨rfl,trivial⟩),?_,?_⟩
  ·refine (Zan hw hv (by omega)).use ?_
   rintro _ w ⟨a0,rfl,hw⟩;refine ⟨a0,rfl,hw.absorb,?_,?_⟩
   ·refine (Zbx hw (by omega)).use ?_
    rintro _ w ⟨a,rfl,hw⟩;refine ⟨a,rfl,hw.absorb,?_,?_⟩
    ·refine (Zan hw hl (by omega)).use ?_
     rintro _ w ⟨e0,rfl,hw⟩;refine ⟨e0,rfl,ab2 hw,?_,?_⟩
     ·refine (Zbx hw (by omega)).use ?_
      rintro _ w ⟨e,rfl,hw⟩;refine ⟨e,rfl,ab2 hw,Zd hw λ o w hw=>⟨ab3 hw,fin hw⟩⟩
     ·refine Zd hw λ o w hw=>⟨ab3 hw,?_⟩
      refine (Zbx hw.swap (by omega)).use ?_;rintro _ w ⟨e,rfl,hw⟩;exact ⟨e,rfl,ab3 hw,fin hw.swap⟩
    ·refine Zd hw λ o w hw=>⟨ab2 hw,?_⟩
     refine (Zan hw hl (by omega)).use ?_;rintro _ w ⟨e0,rfl,hw⟩;refine ⟨e0,rfl,ab3 hw,?_⟩;refine (Zbx hw (by omega)).use ?_;rintro _ w ⟨e,rfl,hw⟩;exact ⟨e,rfl,ab3 hw,fin hw.swap⟩
   ·refine Zd hw λ o w hw=>⟨ab2 hw,?_⟩
    refine (Zbx hw.swap (by omega)).use ?_;rintro _ w ⟨a,rfl,hw⟩;refine ⟨a,rfl,ab2 hw,?_⟩;refine (Zan hw hl (by omega)).use ?_;rintro _ w ⟨e0,rfl,hw⟩;refine ⟨e0,rfl,ab3 hw,?_⟩;refine (Zbx hw (by omega)).use ?_;rintro _ w ⟨e,rfl,hw⟩;exact ⟨e,rfl,ab3 hw,fin ((hw.cons λ _ h=>h.swap).swap)⟩
  ·refine Zd hw λ o w hw=>⟨hw.absorb,?_⟩
   refine (Zan hw hv (by omega)).use ?_;rintro _ w ⟨a0,rfl,hw⟩;refine ⟨a0,rfl,ab2 hw,?_⟩;refine (Zbx hw (by omega)).use ?_;rintro _ w ⟨a,rfl,hw⟩;refine ⟨a,rfl,ab2 hw,?_⟩;refine (Zan hw hl (by omega)).use ?_;rintro _ w ⟨e0,rfl,hw⟩;refine ⟨e0,rfl,ab3 hw,?_⟩;refine (Zbx hw (by omega)).use ?_;rintro _ w ⟨e,rfl,hw⟩;exact ⟨e,rfl,ab3 hw,fin ((hw.cons λ _ h=>h.swap).swap)⟩
 rintro z _ w ⟨o,rfl,a,e,hw⟩;have lv:(Zk n v).length<=1000:=Nat.le_trans (List.length_filter_le _ _) (by omega);have ll:(Zk n l).length<=1000:=Nat.le_trans (List.length_filter_le _ _) (by omega);refine ⟨λ may w=>∃ va vb:List Int,va.length<=1001/\vb.length<=1001/\Zjk v l kind n may va vb/\ZqG R (Bs d c b s t n Hs) va vb o w,?_,?_⟩
 ·have k0:=ok.k0
  have k1:=ok.k1
  -- the learners get it
  have push2:∀ {K:World->Prop},(∀ w,ZqG R (Bs d c b s t n Hs) (Zk n v) (Zk n l++[n]) o w->K w)->
    Zb (some ⟨o,0,none⟩) λ a_t64=>
    ∃ t65:Sl,(At (λ w'=>w'=w) ⟨a_t64.block,a_t64.off + 1,none⟩ [.slice t65.a t65.len t65.cap])/\
    ∃ t66:Int,(At (λ w'=>w'=w) ⟨c,0,none⟩ [.int .i64 t66])/\
    New (.cells #[.int .i64 t66] 3 (0,0)) (λ b_t67 w_42=>
    ∃ w_43:World,∃ t68:Sl,((Builtin.append_ #[ 30,30 ] 30 #[.slice t65.a t65.len t65.cap,.slice ((some ⟨b_t67,0,none⟩)) 1 1]).run prog w_42=.ok (.slice t68.a t68.len t68.cap) w_43)/\
    Zb (some ⟨o,0,none⟩) λ a_t69=>
    ∃ w_44:World,((Instr.storeAt 30 (.pointer ((some ⟨a_t69.block,a_t69.off + 1,none⟩))) (.slice t68.a t68.len t68.cap)).run prog w_43=.ok () w_44)/\
    K w_44) w:=λ {K} k=>by
   refine Zb.mk rfl ⟨e,At.own (eqS hw) (by exact ⟨rfl,trivial⟩),n,At.own (eqS hw) (by exact ⟨rfl,trivial⟩),?_⟩;refine Zcv Zcj hw.swap (by omega) λ e' w hw=>Zb.mk rfl ?_;exact Zo4 hw.swap (by simp) λ w h=>k w ⟨a,e',h⟩
  refine Br.mk (λ h1=>?_) (λ h1=>Br.mk (λ h2=>?_) (λ h2=>Br.mk (λ h3=>?_) (λ h3=>?_)))
  ·obtain rfl:kind=1:=by simpa using h1
   have dn:=Zrs ok;refine Br.mk (λ hvn=>?_) (λ hvn=>?_)
   ·refine push2 λ w h=>⟨_,_,by omega,by simp;omega,?_,h⟩
    rw [hvn,Bool.true_and] at dn;exact dn
   ·refine push2 λ w h=>⟨_,_,by omega,by simp;omega,?_,h⟩
    rw [hvn,Bool.false_and] at dn;exact dn
  ·obtain rfl:kind=2:=by simpa using h2
   refine Zb.mk rfl ⟨a,by rw [ZG];exact At.own (eqS hw) (by exact ⟨rfl,trivial⟩),n,At.own (eqS hw) (by exact ⟨rfl,trivial⟩),?_⟩;have hw2:Sat R (Own a 3 (ints (Zk n v))::pts o (.cells [.slice a.a a.len a.cap,.slice e.a e.len e.cap].toArray 32 (0,0))::Own e 3 (ints (Zk n l))::tru::Bs d c b s t n Hs) w:=(hw.cons λ _ h=>h.swap).swap;refine Zcv Zcj hw2 (by omega) λ a' w hw=>Zb.mk rfl ?_;rw [ZG];exact Zo4 hw.swap (by simp) λ w h=>⟨_,_,by simp;omega,by omega,Zrr ok,a',e,h.cons λ _ h=>h.swap⟩
  ·obtain rfl:kind=3:=by simpa using h3
   have dn:=Zrq ok;have hal:=Own.len hw.drop.drop;rw [List.length_map] at hal;refine Br.mk (λ hln=>?_) (λ hln=>Br.mk (λ hvn=>?_) (λ hvn=>?_))
   ·rw [hln,Bool.true_or] at dn;exact ⟨_,_,by omega,by omega,dn,a,e,hw⟩
   ·rw [hln,hvn,Bool.false_or,Bool.true_and] at dn
    refine Zb.mk rfl ⟨a,by rw [ZG];exact At.own (eqS hw) (by exact ⟨rfl,trivial⟩),?_⟩;rw [hal];exact ⟨_,_,by omega,by omega,dn,a,e,hw⟩
   ·rw [hln,hvn,Bool.false_or,Bool.false_and] at dn
    exact ⟨_,_,by omega,by omega,dn,a,e,hw⟩
  ·simp at h1 h2 h3;omega
 rintro z may w ⟨va,vb,la,lb,dn,a,e,hw⟩;refine Br.mk (λ hm=>?_) (λ hm=>?_)
 ·simp only [Bool.not_eq_true'] at hm
  exact ZcB hw λ w h'=>ChQ.err (dn.no hm) h'.drop.drop.drop.drop.drop.drop
 ·simp only [Bool.not_eq_false'] at hm
  refine Zb.mk rfl ⟨a,by rw [ZG];exact At.own (eqS hw) (by exact ⟨rfl,trivial⟩),?_⟩;have hw2:Sat R (Own a 3 (ints va)::pts o (.cells [.slice a.a a.len a.cap,.slice e.a e.len e.cap].toArray 32 (0,0))::Own e 3 (ints vb)::tru::Bs d c b s t n Hs) w:=(hw.cons λ _ h=>h.swap).swap;refine (Zek hw2 (by omega)).use ?_;rintro _ w ⟨rfl,hw⟩;refine ⟨rfl,Zb.mk rfl ⟨e,At.own (eqS hw) (by exact ⟨rfl,trivial⟩),?_⟩⟩;have hw3:Sat R (Own e 3 (ints vb)::pts o (.cells [.slice a.a a.len a.cap,.slice e.a e.len e.cap].toArray 32 (0,0))::Own a 3 (ints (ZaF va))::tru::Bs d c b s t n Hs) w:=by
   have h1:=hw.take (Own e 3 (ints vb));exact h1.cons λ _ h=>h.swap
  refine (Zek hw3 (by omega)).use ?_;rintro _ w ⟨rfl,hw⟩;refine ⟨rfl,Zb.mk rfl ⟨a,e,At.own (eqS hw) (by exact ⟨rfl,rfl,trivial⟩),?_⟩⟩;refine ZiQ hw λ w h=>ChQ.mk (dn.yes hm) ?_;have h1:=h.drop.take (Own a 3 (ints (ZaF va)));exact h1.cons λ _ h=>h.cons λ _ h=>h.drop.drop.drop.drop
end
section
open Go Go.VC Tryz
set_option maxRecDepth 10000
def B83 (a:Int) (K:Value->World->Prop) (w:World):Prop:=
 Br (decide (a >= 0))
 (K (.bool (decide (a<=1099511627776))) w)
 (K (.bool false) w)
theorem ZpC (a:Int) (K:Value->World->Prop) (w:World) (h:B83 a K w):Zj prog 83 #[.int .i64 a] w K:=cq (sk:=.leaf) func83 (by kernel_rfl) (by kernel_rfl) (by kernel_rfl) h
def B33 (a:Int) (d:Int) (K:Value->World->Prop) (w:World):Prop:=
 Calls prog 83 #[.int .i64 a] w λ j e=>
 ∃ c:Bool,(j=.returned (.bool c))/\
 Br (!c)
 (K (.tuple #[.pointer none,.int .i64 1]) e)
 (Calls prog 83 #[.int .i64 d] e λ k f=>
 ∃ b:Bool,(k=.returned (.bool b))/\
 Br (!b)
 (K (.tuple #[.pointer none,.int .i64 1]) f)
 (New (.cells #[.int .i64 a,.int .i64 d,.int .i64 0,.slice none 0 0] 52 (0,0)) (λ g l=>
 New (.cells #[.slice ((some ⟨g,0,none⟩)) 1 1,.int .i64 a,.int .i64 a] 150 (0,0)) (λ i m=>
 K (.tuple #[.pointer ((some ⟨i,0,none⟩)),.int .i64 0]) m) l) f))
theorem Zp9 (a:Int) (b:Int) (K:Value->World->Prop) (w:World) (h:B33 a b K w):Zj prog 33 #[.int .i64 a,.int .i64 b] w K:=cq (sk:=.leaf) func33 (by kernel_rfl) (by kernel_rfl) (by kernel_rfl) h
def B99 (g:Option Addr) (K:Value->World->Prop) (w:World):Prop:=
 Zb g λ e=>
 ∃ b:Sl,(At (λ c=>c=w) (Addr.add e 0) [.slice b.a b.len b.cap])/\
 Rng 0 b.len (Zb b.a λ f=>
 ∃ d:Int,(At (λ c=>c=w) (Addr.add (Addr.add f (Zaf (Int.toNat 0) 4)) 0) [.int .i64 d])/\
 K (.int .i64 d) w)
theorem Zpm (a:Option Addr) (K:Value->World->Prop) (w:World) (h:B99 a K w):Zj prog 99 #[.pointer a] w K:=cq (sk:=.leaf) func99 (by kernel_rfl) (by kernel_rfl) (by kernel_rfl) h
def B157 (c:Option Addr) (K:Value->World->Prop) (w:World):Prop:=
 Calls prog 99 #[.pointer c] w λ b d=>
 ∃ a:Int,(b=.returned (.int .i64 a))/\
 K (.int .i64 (IntKind.i64.wrap (a + 1))) d
theorem Zol (a:Option Addr) (K:Value->World->Prop) (w:World) (h:B157 a K w):Zj prog 157 #[.pointer a] w K:=cq (sk:=.leaf) func157 (by kernel_rfl) (by kernel_rfl) (by kernel_rfl) h
def B39 (d:Option Addr) (K:Value->World->Prop) (w:World):Prop:=
 Drw w λ c j=>
 Zb d λ g=>
 ∃ b:Sl,(At c (Addr.add g 0) [.slice b.a b.len b.cap])/\
 Calls prog 99 #[.pointer d] j λ i f=>
 ∃ e:Int,(i=.returned (.int .i64 e))/\
 (c f)/\
 K (.int .i64 (IntKind.i64.wrap (IntKind.i64.wrap (e + (↑b.len:Int)) - 1))) f
theorem Zp3 (a:Option Addr) (K:Value->World->Prop) (w:World) (h:B39 a K w):Zj prog 39 #[.pointer a] w K:=cq (sk:=.leaf) func39 (by kernel_rfl) (by kernel_rfl) (by kernel_rfl) h
def B114 (a:Option Addr) (b:Int) (K:Value->World->Prop) (w:World):Prop:=
 Calls prog 99 #[.pointer a] w λ f e=>
 ∃ d:Int,(f=.returned (.int .i64 d))/\
 Br (decide (b >= d))
 (Calls prog 39 #[.pointer a] e λ g i=>
 ∃ c:Int,(g=.returned (.int .i64 c))/\
 K (.bool (decide (b<=c))) i)
 (K (.bool false) e)
theorem Zoz (a:Option Addr) (b:Int) (K:Value->World->Prop) (w:World) (h:B114 a b K w):Zj prog 114 #[.pointer a,.int .i64 b] w K:=cq (sk:=.leaf) func114 (by kernel_rfl) (by kernel_rfl) (by kernel_rfl) h
def B115 (f:Option Addr) (d:Int) (K:Value->World->Prop) (w:World):Prop:=
 Drw w λ e k=>
 Zb f λ i=>
 ∃ b:Sl,(At e (Addr.add i 0) [.slice b.a b.len b.cap])/\
 Calls prog 99 #[.pointer f] k λ j g=>
 ∃ c:Int,(j=.returned (.int .i64 c))/\
 (e g)/\
 ((0:Int)<=IntKind.i64.wrap (d - c))/\
 ((IntKind.i64.wrap (d - c):Int)<=(↑b.len:Int))/\
 K (.slice (ZbB b.a (IntKind.i64.wrap (d - c)).toNat b.cap 4) (b.len - (IntKind.i64.wrap (d - c)).toNat) (b.cap - (IntKind.i64.wrap (d - c)).toNat)) g
theorem Zoy (a:Option Addr) (b:Int) (K:Value->World->Prop) (w:World) (h:B115 a b K w):Zj prog 115 #[.pointer a,.int .i64 b] w K:=cq (sk:=.leaf) func115 (by kernel_rfl) (by kernel_rfl) (by kernel_rfl) h
def B100 (d:Option Addr) (e:Int) (K:Value->World->Prop) (w:World):Prop:=
 Calls prog 114 #[.pointer d,.int .i64 e] w λ k i=>
 ∃ g:Bool,(k=.returned (.bool g))/\
 Br (!g)
 (K (.tuple #[.int .i64 0,.bool false]) i)
 (Calls prog 115 #[.pointer d,.int .i64 e] i λ l j=>
 ∃ b:Sl,(l=.returned (.slice b.a b.len b.cap))/\
 Rng 0 b.len (Zb b.a λ c=>
 ∃ f:Int,(At (λ m=>m=j) ⟨(c.add (Zaf (Int.toNat 0) 4)).block,(c.add (Zaf (Int.toNat 0) 4)).off + 1,none⟩ [.int .i64 f])/\
 K (.tuple #[.int .i64 f,.bool true]) j))
theorem ZoK (a:Option Addr) (b:Int) (K:Value->World->Prop) (w:World) (h:B100 a b K w):Zj prog 100 #[.pointer a,.int .i64 b] w K:=cq (sk:=.leaf) func100 (by kernel_rfl) (by kernel_rfl) (by kernel_rfl) h
def B87 (n:Sl) (K:Value->World->Prop) (w:World):Prop:=
 ∃ (m:Sl->Int->World->Prop) (y:Sl->Int->World->Nat),(m ⟨none,0,0⟩ 0 w)/\∀ (G:Env) (b:Sl) (c:Int) (k:World),m b c k->
 Br (decide (c<(↑n.len:Int)))
 (Rng c n.len (Zb n.a λ z=>
 ∃ r:Int,∃ s:Int,∃ t:Int,∃ d:Sl,(At (λ j=>j=k) (Addr.add z (Zaf c.toNat 4)) [.int .i64 r,.int .i64 s,.int .i64 t,.slice d.a d.len d.cap])/\
 New (.cells #[.int .i64 0,.int .i64 0,.int .i64 0,.slice none 0 0] 52 (0,0)) (λ l D=>
 ∃ o:World,((Instr.storeAt 52 (.pointer ((some ⟨l,0,none⟩))) (.agg #[.int .i64 r,.int .i64 s,.int .i64 t,.slice d.a d.len d.cap])).run prog D=.ok () o)/\
 ∃ e:Sl,(At (λ j=>j=o) ⟨l,0 + 3,none⟩ [.slice e.a e.len e.cap])/\
 Calls prog 48 #[.slice e.a e.len e.cap] o λ C E=>
 ∃ f:Sl,(C=.returned (.slice f.a f.len f.cap))/\
 ∃ p:World,((Instr.storeAt 33 (.pointer ((some ⟨l,0 + 3,none⟩))) (.slice f.a f.len f.cap)).run prog E=.ok () p)/\
 ∃ u:Int,∃ v:Int,∃ x:Int,∃ g:Sl,(At (λ j=>j=p) ⟨l,0,none⟩ [.int .i64 u,.int .i64 v,.int .i64 x,.slice g.a g.len g.cap])/\
 New (.cells #[.int .i64 u,.int .i64 v,.int .i64 x,.slice g.a g.len g.cap] 52 (0,0)) (λ A F=>
 ∃ q:World,∃ i:Sl,((Builtin.append_ #[46,46] 46 #[.slice b.a b.len b.cap,.slice ((some ⟨A,0,none⟩)) 1 1]).run prog F=.ok (.slice i.a i.len i.cap) q)/\
 (m i (IntKind.i64.wrap (c + 1)) q)/\y i (IntKind.i64.wrap (c + 1)) q<y b c k) p) k))
 (K (.slice b.a b.len b.cap) k)
def sk87:Sk:=(.seq .leaf (.seq .leaf (.seq (.seq .leaf (.block (.loop [3,8] [.sl,(.int .i64)] [3,5,8,9,10,11,12,13,14,15,16,17,18,19,20] .leaf))) .leaf)))
theorem Zpy (b:Sl) (K:Value->World->Prop) (w:World) (h:B87 b K w):Zj prog 87 #[.slice b.a b.len b.cap] w K:=cq (sk:=sk87) func87 (by kernel_rfl) (by kernel_rfl) (by kernel_rfl) h
def B53 (f:Option Addr) (e:Int) (c:Int) (K:Value->World->Prop) (w:World):Prop:=
 ∃ (i:World->Prop),(Calls prog 99 #[.pointer f] w λ n l=>
 ∃ j:Int,(n=.returned (.int .i64 j))/\
 Br (decide (e<=j))
 (K (.slice none 0 0) l)
 (Calls prog 114 #[.pointer f,.int .i64 e] l λ o g=>
 ∃ k:Bool,(o=.returned (.bool k))/\
 Br (!k)
 (K (.slice none 0 0) g)
 (Br (decide (c<1))
 (K (.slice none 0 0) g)
 (i  g))))/\
 ∀ (t:Env)  (m:World),i  m->
 Calls prog 115 #[.pointer f,.int .i64 e] m λ p r=>
 ∃ b:Sl,(p=.returned (.slice b.a b.len b.cap))/\
 ((0:Int)<=if (↑b.len:Int)<c then (↑b.len:Int) else c)/\
 ((if (↑b.len:Int)<c then (↑b.len:Int) else c:Int)<=(↑b.cap:Int))/\
 Calls prog 87 #[.slice b.a ((if (↑b.len:Int)<c then (↑b.len:Int) else c).toNat) b.cap] r λ q s=>
 ∃ d:Sl,(q=.returned (.slice d.a d.len d.cap))/\
 K (.slice d.a d.len d.cap) s
def sk53:Sk:=(.seq .leaf (.cut [] [] [6,8,9,10,11,12,13,14,15,16,17,18,19,20,21] .leaf .leaf))
theorem ZpQ (b:Option Addr) (a:Int) (c:Int) (K:Value->World->Prop) (w:World) (h:B53 b a c K w):Zj prog 53 #[.pointer b,.int .i64 a,.int .i64 c] w K:=cq (sk:=sk53) func53 (by kernel_rfl) (by kernel_rfl) (by kernel_rfl) h
def B84 (s:Int) (t:Int) (u:Int) (i:Sl) (K:Value->World->Prop) (w:World):Prop:=
 New (.cells #[.int .i64 s,.int .i64 t,.int .i64 u,.slice i.a i.len i.cap] 52 (0,0)) (λ d f=>
 ∃ n:Int,(At (λ b=>b=f) ⟨d,0,none⟩ [.int .i64 n])/\
 Br (decide (n<1))
 (K (.bool true) f)
 (∃ o:Int,(At (λ b=>b=f) ⟨d,0,none⟩ [.int .i64 o])/\
 Calls prog 83 #[.int .i64 o] f λ q g=>
 ∃ p:Bool,(q=.returned (.bool p))/\
 Br (!p)
 (K (.bool true) g)
 (∃ j:Int,(At (λ b=>b=g) ⟨d,0 + 1,none⟩ [.int .i64 j])/\
 Calls prog 83 #[.int .i64 j] g λ r c=>
 ∃ k:Bool,(r=.returned (.bool k))/\
 Br (!k)
 (K (.bool true) c)
 (∃ l:Int,(At (λ b=>b=c) ⟨d,0 + 2,none⟩ [.int .i64 l])/\
 Br (decide (l<0))
 (K (.bool true) c)
 (∃ m:Int,(At (λ b=>b=c) ⟨d,0 + 2,none⟩ [.int .i64 m])/\
 Br (decide (m>7))
 (K (.bool true) c)
 (∃ e:Sl,(At (λ b=>b=c) ⟨d,0 + 3,none⟩ [.slice e.a e.len e.cap])/\
 K (.bool (decide ((↑e.len:Int)>4096))) c)))))) w
theorem ZpB (c:Int) (d:Int) (e:Int) (b:Sl) (K:Value->World->Prop) (w:World) (h:B84 c d e b K w):Zj prog 84 #[.agg #[.int .i64 c,.int .i64 d,.int .i64 e,.slice b.a b.len b.cap]] w K:=cq (sk:=.leaf) func84 (by kernel_rfl) (by kernel_rfl) (by kernel_rfl) h
def B85 (k:Sl) (y:Int) (z:Int) (K:Value->World->Prop) (w:World):Prop:=
 ∃ (i:Int->Int->Int->World->Prop) (v:Int->Int->Int->World->Nat),(i y z 0 w)/\∀ (C:Env) (j:Int) (n:Int) (b:Int) (g:World),i j n b g->
 Br (decide (b<(↑k.len:Int)))
 (Rng b k.len (Zb k.a λ x=>
 ∃ p:Int,∃ q:Int,∃ r:Int,∃ c:Sl,(At (λ f=>f=g) (Addr.add x (Zaf b.toNat 4)) [.int .i64 p,.int .i64 q,.int .i64 r,.slice c.a c.len c.cap])/\
 New (.cells #[.int .i64 0,.int .i64 0,.int .i64 0,.slice none 0 0] 52 (0,0)) (λ e A=>
 ∃ d:World,((Instr.storeAt 52 (.pointer ((some ⟨e,0,none⟩))) (.agg #[.int .i64 p,.int .i64 q,.int .i64 r,.slice c.a c.len c.cap])).run prog A=.ok () d)/\
 ∃ s:Int,(At (λ f=>f=d) ⟨e,0,none⟩ [.int .i64 s])/\
 Br (IntKind.i64.wrap (s - 1) !=j)
 (K (.bool false) d)
 (∃ t:Int,(At (λ f=>f=d) ⟨e,0 + 1,none⟩ [.int .i64 t])/\
 Br (decide (t<n))
 (K (.bool false) d)
 (Drw d λ o u=>
 ∃ l:Int,(At o ⟨e,0,none⟩ [.int .i64 l])/\
 ∃ m:Int,(At o ⟨e,0 + 1,none⟩ [.int .i64 m])/\
 (i l m (IntKind.i64.wrap (b + 1)) u)/\v l m (IntKind.i64.wrap (b + 1)) u<v j n b g))) g))
 (K (.bool true) g)
def sk85:Sk:=(.seq .leaf (.seq (.seq .leaf (.block (.loop [1,2,11] [(.int .i64),(.int .i64),(.int .i64)] [1,2,6,8,11,12,13,14,15,16,17,18,19,20,21,22,23,24,25,26,27,28,29,30] .leaf))) .leaf))
theorem ZpA (b:Sl) (c:Int) (d:Int) (K:Value->World->Prop) (w:World) (h:B85 b c d K w):Zj prog 85 #[.slice b.a b.len b.cap,.int .i64 c,.int .i64 d] w K:=cq (sk:=sk85) func85 (by kernel_rfl) (by kernel_rfl) (by kernel_rfl) h
def B86 (j:Option Addr) (K:Value->World->Prop) (w:World):Prop:=
 New (.cells #[.int .i64 0,.int .i64 0,.int .i64 0,.slice none 0 0] 52 (0,0)) (λ i u=>
 Drw u λ f v=>
 Zb j λ r=>
 ∃ e:Sl,(At f (Addr.add r 0) [.slice e.a e.len e.cap])/\
 Zb j λ s=>
 ∃ d:Sl,(At f (Addr.add s 0) [.slice d.a d.len d.cap])/\
 Rng (IntKind.i64.wrap ((↑d.len:Int) - 1)) e.len (Zb e.a λ q=>
 ∃ k:Int,∃ l:Int,∃ m:Int,∃ b:Sl,(At f (Addr.add q (Zaf (IntKind.i64.wrap ((↑d.len:Int) - 1)).toNat 4)) [.int .i64 k,.int .i64 l,.int .i64 m,.slice b.a b.len b.cap])/\
 ∃ g:World,((Instr.storeAt 52 (.pointer ((some ⟨i,0,none⟩))) (.agg #[.int .i64 k,.int .i64 l,.int .i64 m,.slice b.a b.len b.cap])).run prog v=.ok () g)/\
 ∃ n:Int,∃ o:Int,∃ p:Int,∃ c:Sl,(At (λ t=>t=g) ⟨i,0,none⟩ [.int .i64 n,.int .i64 o,.int .i64 p,.slice c.a c.len c.cap])/\
 K (.agg #[.int .i64 n,.int .i64 o,.int .i64 p,.slice c.a c.len c.cap]) g)) w
theorem Zpz (a:Option Addr) (K:Value->World->Prop) (w:World) (h:B86 a K w):Zj prog 86 #[.pointer a] w K:=cq (sk:=.leaf) func86 (by kernel_rfl) (by kernel_rfl) (by kernel_rfl) h
def B34 (f:Option Addr) (b:Sl) (K:Value->World->Prop) (w:World):Prop:=
 Calls prog 56 #[.slice b.a b.len b.cap,.func (.func 84) #[] #[]] w λ u n=>
 ∃ m:Bool,(u=.returned (.bool m))/\
 Br m
 (K (.int .i64 1) n)
 (Calls prog 39 #[.pointer f] n λ v D=>
 ∃ j:Int,(v=.returned (.int .i64 j))/\
 Calls prog 86 #[.pointer f] D λ x E=>
 ∃ A:Int,∃ k:Int,∃ C:Int,∃ g:Sl,(x=.returned (.agg #[.int .i64 A,.int .i64 k,.int .i64 C,.slice g.a g.len g.cap]))/\
 Calls prog 85 #[.slice b.a b.len b.cap,.int .i64 j,.int .i64 k] E λ y o=>
 ∃ l:Bool,(y=.returned (.bool l))/\
 Br (!l)
 (K (.int .i64 7) o)
 (Drw o λ i F=>
 Zb f λ s=>
 ∃ c:Sl,(At i (Addr.add s 0) [.slice c.a c.len c.cap])/\
 Calls prog 87 #[.slice b.a b.len b.cap] F λ z p=>
 ∃ d:Sl,(z=.returned (.slice d.a d.len d.cap))/\
 (i p)/\
 ∃ q:World,∃ e:Sl,((Builtin.append_ #[46,46] 46 #[.slice c.a c.len c.cap,.slice d.a d.len d.cap]).run prog p=.ok (.slice e.a e.len e.cap) q)/\
 Zb f λ t=>
 ∃ r:World,((Instr.storeAt 46 (.pointer ((some (Addr.add t 0)))) (.slice e.a e.len e.cap)).run prog q=.ok () r)/\
 K (.int .i64 0) r))
theorem Zp8 (c:Option Addr) (b:Sl) (K:Value->World->Prop) (w:World) (h:B34 c b K w):Zj prog 34 #[.pointer c,.slice b.a b.len b.cap] w K:=cq (sk:=.leaf) func34 (by kernel_rfl) (by kernel_rfl) (by kernel_rfl) h
def B235 (a6:Option Addr) (d:Int) (ai:Int) (c:Sl) (K:Value->World->Prop) (w:World):Prop:=
 New (.cells #[.pointer a6] 54 (0,0)) (λ k a7=>
 ∃ (C:World->Prop),(Calls prog 56 #[.slice c.a c.len c.cap,.func (.func 84) #[] #[]] a7 λ az ap=>
 ∃ J:Bool,(az=.returned (.bool J))/\
 Br J
 (K (.tuple #[.int .i64 0,.int .i64 1]) ap)
 (Calls prog 85 #[.slice c.a c.len c.cap,.int .i64 d,.int .i64 ai] ap λ a0 aq=>
 ∃ L:Bool,(a0=.returned (.bool L))/\
 Br (!L)
 (K (.tuple #[.int .i64 0,.int .i64 1]) aq)
 (C  aq)))/\
 ∀ (bb:Env)  (u:World),C  u->
 ∃ (x:Int->Int->Sl->World->Prop),(∃ M:Option Addr,(At (λ b=>b=u) ⟨k,0,none⟩ [.pointer M])/\
 Zb M λ av=>
 ∃ t:Sl,(At (λ b=>b=u) (Addr.add av 0) [.slice t.a t.len t.cap])/\
 Rng 0 t.len (Zb t.a λ aw=>
 ∃ N:Int,∃ O:Int,∃ Q:Int,∃ o:Sl,(At (λ b=>b=u) (Addr.add aw (Zaf (Int.toNat 0) 4)) [.int .i64 N,.int .i64 O,.int .i64 Q,.slice o.a o.len o.cap])/\
 New (.cells #[.int .i64 0,.int .i64 0,.int .i64 0,.slice none 0 0] 52 (0,0)) (λ j a9=>
 ∃ l:World,((Instr.storeAt 52 (.pointer ((some ⟨j,0,none⟩))) (.agg #[.int .i64 N,.int .i64 O,.int .i64 Q,.slice o.a o.len o.cap])).run prog a9=.ok () l)/\
 ∃ T:Int,(At (λ b=>b=l) ⟨j,0,none⟩ [.int .i64 T])/\
 Br (decide (d<T))
 (∃ U:Int,(At (λ b=>b=l) ⟨j,0,none⟩ [.int .i64 U])/\
 Br (decide (d<=IntKind.i64.wrap (U - (↑c.len:Int))))
 (K (.tuple #[.int .i64 0,.int .i64 0]) l)
 (∃ i:Int,(At (λ b=>b=l) ⟨j,0,none⟩ [.int .i64 i])/\
 ((0:Int)<=IntKind.i64.wrap (i - d))/\
 ((IntKind.i64.wrap (i - d):Int)<=(↑c.len:Int))/\
 Drw l λ E ar=>
 Rng 0 (c.len - (IntKind.i64.wrap (i - d)).toNat) (Zb (ZbB c.a (IntKind.i64.wrap (i - d)).toNat c.cap 4) λ G=>
 ∃ V:Int,(At E ⟨(G.add (Zaf (Int.toNat 0) 4)).block,(G.add (Zaf (Int.toNat 0) 4)).off + 1,none⟩ [.int .i64 V])/\
 ∃ X:Int,(At E ⟨j,0 + 1,none⟩ [.int .i64 X])/\
 Br (decide (V<X))
 (K (.tuple #[.int .i64 0,.int .i64 7]) ar)
 (Drw ar λ F ba=>
 ∃ Y:Int,(At F ⟨j,0,none⟩ [.int .i64 Y])/\
 ∃ Z:Int,(At F ⟨j,0 + 1,none⟩ [.int .i64 Z])/\
 x Y Z ⟨ZbB c.a (IntKind.i64.wrap (i - d)).toNat c.cap 4,c.len - (IntKind.i64.wrap (i - d)).toNat,c.cap - (IntKind.i64.wrap (i - d)).toNat⟩ ba))))
 (x d ai c l)) u))/\
 ∀ (bc:Env) (I:Int) (aj:Int) (e:Sl) (A:World),x I aj e A->
 ∃ (D:World->Prop),(∃ aa:Option Addr,(At (λ b=>b=A) ⟨k,0,none⟩ [.pointer aa])/\
 Calls prog 100 #[.pointer aa,.int .i64 I] A λ a1 y=>
 ∃ ab:Int,∃ ac:Bool,(a1=.returned (.tuple #[.int .i64 ab,.bool ac]))/\
 Br (!ac)
 (K (.tuple #[.int .i64 0,.int .i64 7]) y)
 (Br (ab !=aj)
 (K (.tuple #[.int .i64 0,.int .i64 7]) y)
 (D  y)))/\
 ∀ (bd:Env)  (ak:World),D  ak->
 Calls prog 119 #[.slice e.a e.len e.cap,.func (.func 250) #[] #[.pointer ((some ⟨k,0,none⟩))]] ak λ a2 s=>
 ∃ f:Int,(a2=.returned (.int .i64 f))/\
 Br (decide (f<0))
 (K (.tuple #[.int .i64 0,.int .i64 0]) s)
 (Rng f e.len (Zb e.a λ ax=>
 ∃ p:Int,(At (λ b=>b=s) (Addr.add (Addr.add ax (Zaf f.toNat 4)) 0) [.int .i64 p])/\
 ∃ ad:Option Addr,(At (λ b=>b=s) ⟨k,0,none⟩ [.pointer ad])/\
 Zb ad λ H=>
 ∃ ae:Int,(At (λ b=>b=s) ⟨H.block,H.off + 1,none⟩ [.int .i64 ae])/\
 Br (decide (p<=ae))
 (K (.tuple #[.int .i64 0,.int .i64 9]) s)
 (Drw s λ g a8=>
 ∃ af:Option Addr,(At g ⟨k,0,none⟩ [.pointer af])/\
 ∃ ag:Option Addr,(At g ⟨k,0,none⟩ [.pointer ag])/\
 Zb ag λ ay=>
 ∃ q:Sl,(At g (Addr.add ay 0) [.slice q.a q.len q.cap])/\
 ∃ ah:Option Addr,(At g ⟨k,0,none⟩ [.pointer ah])/\
 ((0:Int)<=f)/\
 ((f:Int)<=(↑e.len:Int))/\
 Calls prog 99 #[.pointer ah] a8 λ a3 al=>
 ∃ v:Int,(a3=.returned (.int .i64 v))/\
 (g al)/\
 ((0:Int)<=IntKind.i64.wrap (p - v))/\
 ((IntKind.i64.wrap (p - v):Int)<=(↑q.cap:Int))/\
 Calls prog 210 #[.slice q.a ((IntKind.i64.wrap (p - v)).toNat) q.cap] al λ a4 am=>
 ∃ r:Sl,(a4=.returned (.slice r.a r.len r.cap))/\
 (g am)/\
 Calls prog 87 #[.slice (ZbB e.a f.toNat e.cap 4) (e.len - f.toNat) (e.cap - f.toNat)] am λ a5 an=>
 ∃ m:Sl,(a5=.returned (.slice m.a m.len m.cap))/\
 (g an)/\
 ∃ z:World,∃ n:Sl,((Builtin.append_ #[46,46] 46 #[.slice r.a r.len r.cap,.slice m.a m.len m.cap]).run prog an=.ok (.slice n.a n.len n.cap) z)/\
 (g z)/\
 Zb af λ au=>
 ∃ ao:World,((Instr.storeAt 46 (.pointer ((some (Addr.add au 0)))) (.slice n.a n.len n.cap)).run prog z=.ok () ao)/\
 K (.tuple #[.int .i64 p,.int .i64 0]) ao)))) w
def ZqM:Sk:=(.seq .leaf (.cut [] [] [8,9,16,17,18,19,20,21,22,23,24] .leaf (.cut [1,2,3] [(.int .i64),(.int .i64),.sl] [1,2,3,8,9,10,25,26,27,28,29,30,31,32,33,34,35,36,37,38,39,40,41,42,43,44,45,46,47,48,49,50,51,52,53,54,55,56,57,58] .leaf (.cut [] [] [8,9,11,12,59,60,61,62,63,64,65,66,67,68,69,70,71] .leaf .leaf))))
theorem ZnT (c:Option Addr) (d:Int) (e:Int) (b:Sl) (K:Value->World->Prop) (w:World) (h:B235 c d e b K w):Zj prog 235 #[.pointer c,.int .i64 d,.int .i64 e,.slice b.a b.len b.cap] w K:=cq (sk:=ZqM) func235 (by kernel_rfl) (by kernel_rfl) (by kernel_rfl) h
def B250 (p:Int) (q:Int) (r:Int) (e:Sl) (n:Option Addr) (K:Value->World->Prop) (w:World):Prop:=
 New (.cells #[.int .i64 p,.int .i64 q,.int .i64 r,.slice e.a e.len e.cap] 52 (0,0)) (λ f c=>
 Zb n λ m=>
 ∃ k:Option Addr,(At (λ b=>b=c) m [.pointer k])/\
 ∃ l:Int,(At (λ b=>b=c) ⟨f,0,none⟩ [.int .i64 l])/\
 Calls prog 100 #[.pointer k,.int .i64 l] c λ o d=>
 ∃ g:Int,∃ i:Bool,(o=.returned (.tuple #[.int .i64 g,.bool i]))/\
 Br (!i)
 (K (.bool true) d)
 (∃ j:Int,(At (λ b=>b=d) ⟨f,0 + 1,none⟩ [.int .i64 j])/\
 K (.bool (g !=j)) d)) w
theorem ZnJ (d:Int) (e:Int) (f:Int) (b:Sl) (c:Option Addr) (K:Value->World->Prop) (w:World) (h:B250 d e f b c K w):Zj prog 250 #[.agg #[.int .i64 d,.int .i64 e,.int .i64 f,.slice b.a b.len b.cap],.pointer c] w K:=cq (sk:=.leaf) func250 (by kernel_rfl) (by kernel_rfl) (by kernel_rfl) h
def B209 (f:Option Addr) (a:Int) (e:Int) (d:Int) (K:Value->World->Prop) (w:World):Prop:=
 Br (decide (a<e))
 (K (.int .i64 7) w)
 (Br (decide (a>d))
 (K (.int .i64 7) w)
 (Zb f λ c=>
 ∃ b:World,((Instr.storeAt 3 (.pointer ((some (c)))) (.int .i64 a)).run prog w=.ok () b)/\
 K (.int .i64 0) b))
theorem Zn5 (d:Option Addr) (b:Int) (c:Int) (a:Int) (K:Value->World->Prop) (w:World) (h:B209 d b c a K w):Zj prog 209 #[.pointer d,.int .i64 b,.int .i64 c,.int .i64 a] w K:=cq (sk:=.leaf) func209 (by kernel_rfl) (by kernel_rfl) (by kernel_rfl) h
def B161 (a:Option Addr) (l:Int) (K:Value->World->Prop) (w:World):Prop:=
 Drw w λ b m=>
 Zb a λ d=>
 Zb a λ c=>
 ∃ e:Int,(At b ⟨c.block,c.off + 1,none⟩ [.int .i64 e])/\
 Calls prog 39 #[.pointer a] m λ j i=>
 ∃ f:Int,(j=.returned (.int .i64 f))/\
 (b i)/\
 Calls prog 209 #[.pointer ((some ⟨d.block,d.off + 1,none⟩)),.int .i64 l,.int .i64 e,.int .i64 f] i λ k n=>
 ∃ g:Int,(k=.returned (.int .i64 g))/\
 K (.int .i64 g) n
theorem Zoh (a:Option Addr) (b:Int) (K:Value->World->Prop) (w:World) (h:B161 a b K w):Zj prog 161 #[.pointer a,.int .i64 b] w K:=cq (sk:=.leaf) func161 (by kernel_rfl) (by kernel_rfl) (by kernel_rfl) h
def B152 (a:Option Addr) (k:Int) (K:Value->World->Prop) (w:World):Prop:=
 Drw w λ b l=>
 Zb a λ e=>
 Zb a λ c=>
 ∃ f:Int,(At b ⟨c.block,c.off + 2,none⟩ [.int .i64 f])/\
 Zb a λ d=>
 ∃ g:Int,(At b ⟨d.block,d.off + 1,none⟩ [.int .i64 g])/\
 Calls prog 209 #[.pointer ((some ⟨e.block,e.off + 2,none⟩)),.int .i64 k,.int .i64 f,.int .i64 g] l λ j m=>
 ∃ i:Int,(j=.returned (.int .i64 i))/\
 K (.int .i64 i) m
theorem Zop (a:Option Addr) (b:Int) (K:Value->World->Prop) (w:World) (h:B152 a b K w):Zj prog 152 #[.pointer a,.int .i64 b] w K:=cq (sk:=.leaf) func152 (by kernel_rfl) (by kernel_rfl) (by kernel_rfl) h
def B50 (c:Option Addr) (K:Value->World->Prop) (w:World):Prop:=
 Zb c λ a=>
 ∃ b:Int,(At (λ d=>d=w) ⟨a.block,a.off + 1,none⟩ [.int .i64 b])/\
 K (.int .i64 b) w
theorem ZpT (a:Option Addr) (K:Value->World->Prop) (w:World) (h:B50 a K w):Zj prog 50 #[.pointer a] w K:=cq (sk:=.leaf) func50 (by kernel_rfl) (by kernel_rfl) (by kernel_rfl) h
def B155 (c:Option Addr) (K:Value->World->Prop) (w:World):Prop:=
 Zb c λ a=>
 ∃ b:Int,(At (λ d=>d=w) ⟨a.block,a.off + 2,none⟩ [.int .i64 b])/\
 K (.int .i64 b) w
theorem Zon (a:Option Addr) (K:Value->World->Prop) (w:World) (h:B155 a K w):Zj prog 155 #[.pointer a] w K:=cq (sk:=.leaf) func155 (by kernel_rfl) (by kernel_rfl) (by kernel_rfl) h
def B153 (d:Option Addr) (g:Int) (K:Value->World->Prop) (w:World):Prop:=
 ∃ (k:World->Prop),(Calls prog 99 #[.pointer d] w λ t f=>
 ∃ o:Int,(t=.returned (.int .i64 o))/\
 Br (decide (g<o))
 (K (.int .i64 7) f)
 (Zb d λ l=>
 ∃ n:Int,(At (λ i=>i=f) ⟨l.block,l.off + 2,none⟩ [.int .i64 n])/\
 Br (decide (g>n))
 (K (.int .i64 7) f)
 (k  f)))/\
 ∀ (z:Env)  (p:World),k  p->
 Calls prog 115 #[.pointer d,.int .i64 g] p λ u x=>
 ∃ b:Sl,(u=.returned (.slice b.a b.len b.cap))/\
 Calls prog 210 #[.slice b.a b.len b.cap] x λ v y=>
 ∃ c:Sl,(v=.returned (.slice c.a c.len c.cap))/\
 Zb d λ r=>
 ∃ j:World,((Instr.storeAt 46 (.pointer ((some (Addr.add r 0)))) (.slice c.a c.len c.cap)).run prog y=.ok () j)/\
 Zb d λ s=>
 ∃ e:Sl,(At (λ i=>i=j) (Addr.add s 0) [.slice e.a e.len e.cap])/\
 Rng 0 e.len (Zb e.a λ m=>
 ∃ q:World,((Instr.storeAt 33 (.pointer ((some ⟨(m.add (Zaf (Int.toNat 0) 4)).block,(m.add (Zaf (Int.toNat 0) 4)).off + 3,none⟩))) (.slice none 0 0)).run prog j=.ok () q)/\
 K (.int .i64 0) q)
def Zq1:Sk:=(.seq .leaf (.cut [] [] [4,5,6,7,8,9,10,11,12,13,14,15,16] .leaf .leaf))
theorem Zoo (a:Option Addr) (b:Int) (K:Value->World->Prop) (w:World) (h:B153 a b K w):Zj prog 153 #[.pointer a,.int .i64 b] w K:=cq (sk:=Zq1) func153 (by kernel_rfl) (by kernel_rfl) (by kernel_rfl) h
def B237 (g:Option Addr) (i:Int) (r:Int) (K:Value->World->Prop) (w:World):Prop:=
 Calls prog 33 #[.int .i64 i,.int .i64 r] w λ q c=>
 ∃ j:Option Addr,∃ d:Int,(q=.returned (.tuple #[.pointer j,.int .i64 d]))/\
 Br (d !=0)
 (K (.int .i64 d) c)
 (Zb g λ f=>
 ∃ k:Int,(At (λ e=>e=c) ⟨f.block,f.off + 1,none⟩ [.int .i64 k])/\
 Br (decide (i<k))
 (K (.int .i64 7) c)
 (Zb j λ o=>
 ∃ b:Sl,∃ l:Int,∃ m:Int,(At (λ e=>e=c) o [.slice b.a b.len b.cap,.int .i64 l,.int .i64 m])/\
 Zb g λ p=>
 ∃ n:World,((Instr.storeAt 150 (.pointer ((some (p)))) (.agg #[.slice b.a b.len b.cap,.int .i64 l,.int .i64 m])).run prog c=.ok () n)/\
 K (.int .i64 0) n))
theorem ZnR (a:Option Addr) (b:Int) (c:Int) (K:Value->World->Prop) (w:World) (h:B237 a b c K w):Zj prog 237 #[.pointer a,.int .i64 b,.int .i64 c] w K:=cq (sk:=.leaf) func237 (by kernel_rfl) (by kernel_rfl) (by kernel_rfl) h
def B236 (b:Option Addr) (g:Int) (s:Int) (K:Value->World->Prop) (w:World):Prop:=
 Calls prog 39 #[.pointer b] w λ n t=>
 ∃ d:Int,(n=.returned (.int .i64 d))/\
 ∃ (c:Int->World->Prop) (m:Int->World->Nat),(c (if d<g then d else g) t)/\∀ (v:Env) (a:Int) (e:World),c a e->
 Calls prog 99 #[.pointer b] e λ o l=>
 ∃ i:Int,(o=.returned (.int .i64 i))/\
 Br (decide (a>i))
 (Calls prog 100 #[.pointer b,.int .i64 a] l λ p f=>
 ∃ j:Int,∃ r:Bool,(p=.returned (.tuple #[.int .i64 j,.bool r]))/\
 Br (decide (j<=s))
 (K (.int .i64 a) f)
 ((c (IntKind.i64.wrap (a - 1)) f)/\m (IntKind.i64.wrap (a - 1)) f<m a e))
 (Calls prog 99 #[.pointer b] l λ q u=>
 ∃ k:Int,(q=.returned (.int .i64 k))/\
 K (.int .i64 k) u)
def ZqL:Sk:=(.seq .leaf (.seq .leaf (.seq (.seq .leaf (.block (.loop [8] [(.int .i64)] [6,8,9,10,15,16,17,18,19,20,21,22,23,24,25,26,27,28,29,30,31] .leaf))) .leaf)))
theorem ZnS (a:Option Addr) (b:Int) (c:Int) (K:Value->World->Prop) (w:World) (h:B236 a b c K w):Zj prog 236 #[.pointer a,.int .i64 b,.int .i64 c] w K:=cq (sk:=ZqL) func236 (by kernel_rfl) (by kernel_rfl) (by kernel_rfl) h
def B56 (b:Sl) (e:Value) (K:Value->World->Prop) (w:World):Prop:=
 Calls prog 119 #[.slice b.a b.len b.cap,e] w λ d f=>
 ∃ c:Int,(d=.returned (.int .i64 c))/\
 K (.bool (decide (c >= 0))) f
theorem ZpN (b:Sl) (c:Value) (K:Value->World->Prop) (w:World) (h:B56 b c K w):Zj prog 56 #[.slice b.a b.len b.cap,c] w K:=cq (sk:=.leaf) func56 (by kernel_rfl) (by kernel_rfl) (by kernel_rfl) h
def B119 (f:Sl) (p:Value) (K:Value->World->Prop) (w:World):Prop:=
 ∃ (e:Int->World->Prop) (m:Int->World->Nat),(e 0 w)/\∀ (r:Env) (b:Int) (d:World),e b d->
 Br (decide (b<(↑f.len:Int)))
 (Rng b f.len (Zb f.a λ n=>
 ∃ i:Int,∃ j:Int,∃ k:Int,∃ c:Sl,(At (λ q=>q=d) (Addr.add n (Zaf b.toNat 4)) [.int .i64 i,.int .i64 j,.int .i64 k,.slice c.a c.len c.cap])/\
 Zdw prog cl p [.agg #[.int .i64 i,.int .i64 j,.int .i64 k,.slice c.a c.len c.cap]] d λ o g=>
 ∃ l:Bool,(o=.returned (.bool l))/\
 Br l
 (K (.int .i64 b) g)
 ((e (IntKind.i64.wrap (b + 1)) g)/\m (IntKind.i64.wrap (b + 1)) g<m b d)))
 (K (.int .i64 ((-1))) d)
def Zq6:Sk:=(.seq .leaf (.seq (.seq .leaf (.block (.loop [8] [(.int .i64)] [4,5,8,9,10,11,12,13,14,15,16,17,18] .leaf))) .leaf))
theorem Zov (b:Sl) (c:Value) (K:Value->World->Prop) (w:World) (h:B119 b c K w):Zj prog 119 #[.slice b.a b.len b.cap,c] w K:=cq (sk:=Zq6) func119 (by kernel_rfl) (by kernel_rfl) (by kernel_rfl) h
def B210 (c:Sl) (K:Value->World->Prop) (w:World):Prop:=
 Br c.a.isNone
 (K (.slice none 0 0) w)
 (New (.cells #[] 52 (0,0)) (λ e f=>
 ∃ d:World,∃ b:Sl,((Builtin.append_ #[46,46] 46 #[.slice ((some ⟨e,0,none⟩)) 0 0,.slice c.a c.len c.cap]).run prog f=.ok (.slice b.a b.len b.cap) d)/\
 K (.slice b.a b.len b.cap) d) w)
theorem Zn4 (b:Sl) (K:Value->World->Prop) (w:World) (h:B210 b K w):Zj prog 210 #[.slice b.a b.len b.cap] w K:=cq (sk:=.leaf) func210 (by kernel_rfl) (by kernel_rfl) (by kernel_rfl) h
end
section
open Go Go.VC Tryz
variable {R:Cx} {Hs Rest:List HP} {w:World}
theorem _root_.Go.VC.Sat.re {A:HP} (B:HP) (h:Sat R (A::Hs) w) (e:A=B:=by rfl):Sat R (B::Hs) w:=e ▸ h
abbrev b8 (l:List Int):List Value:=l.map (Value.int .u8)
theorem Zrp:El prog 33 33 5 1:=⟨underlying33,⟨_,underlying33⟩,by kernel_rfl⟩
theorem ZmR (xs:List Int):Zah (b8 xs)=true:=by unfold Zah;simp [Value.oneCell']
theorem ZcD {s:Sl} {xs:List Int} (hs:Ro R s (b8 xs)) (hl:xs.length<=1099511627776) (hw:Sat R Hs w):
  Zj prog 48 #[.slice s.a s.len s.cap] w λ r w'=>∃ t:Sl,r=.slice t.a t.len t.cap/\Sat R (Own t 5 (b8 xs)::Hs) w':=by
 apply ZpV;refine Br.mk (λ h=>?_) (λ h=>?_)
 ·have hx:xs=[]:=by
   by_cases hx:b8 xs=[]
   ·simpa using hx
   ·obtain ⟨b,off,_,_,_,ha,_⟩:=hs.mem hx
    rw [ha] at h;cases h
  subst hx;exact ⟨⟨none,0,0⟩,rfl,Own.nil hw⟩
 ·refine Zd hw λ b w hw=>?_
  have h0:Sat R (Own ⟨some ⟨b,0,none⟩,0,0⟩ 5 []::Hs) w:=Own.of_pts (xs:=[]) (rest:=[]) hw;have hsrc:Src prog 1 33 (.slice s.a s.len s.cap) xs.length (b8 xs) w:=by
   have:=Zo0 underlying33 h0 hs (ZmR xs);simpa using this
  have:=Zbj (ty:=33) (K:=λ t w'=>∃ u:Sl,Value.slice t.a t.len t.cap=.slice u.a u.len u.cap/\Sat R (Own u 5 (b8 xs)::Hs) w') Zrp h0 hsrc rfl (by simp;omega) (by simp;omega) λ t w hw=>⟨t,rfl,by simpa using hw⟩;exact this
end
end Go.Proofs.YthpmfnffkjjlnaaGreat
namespace Go.VC
def dig (n:Nat):List Int:=if h:n=0 then [] else dig (n / 256)++[((n % 256:Nat):Int)]
termination_by n
decreasing_by omega
theorem ZbW:dig 0=[]:=by unfold dig;simp
theorem ZeS {n:Nat} (h:n≠0):dig n=dig (n / 256)++[((n % 256:Nat):Int)]:=by
 conv=>lhs;unfold dig
 rw [dif_neg h]
def ZhQ (acc:Int) (l:List Int):Int:=l.foldl (λ a b=>a * 256 + b) acc
theorem ZgU (acc b:Int) (l:List Int):ZhQ acc (b::l)=ZhQ (acc * 256 + b) l:=rfl
theorem Zl3 (acc:Int) (a b:List Int):ZhQ acc (a++b)=ZhQ (ZhQ acc a) b:=List.foldl_append
theorem Zku (acc:Int) (a:List Int) (b:Int):ZhQ acc (a++[b])=ZhQ acc a * 256 + b:=by rw [Zl3];rfl
theorem ZhW:∀ {l:List Int} {acc:Int},0<=acc->(∀ x∈l,0<=x/\x<256)->0<=ZhQ acc l
 |[],_,h,_=>h
 |b::l,acc,h,hb=>by
  rw [ZgU];have:=hb b List.mem_cons_self;exact ZhW (by omega) λ x hx=>hb x (List.mem_cons_of_mem _ hx)
theorem ZhX:∀ {l:List Int} {acc:Int},0<=acc->(∀ x∈l,0<=x/\x<256)->ZhQ acc l<(acc + 1) * 256 ^ l.length
 |[],acc,h,_=>by simp [ZhQ];omega
 |b::l,acc,h,hb=>by
  rw [ZgU];have h1:=hb b List.mem_cons_self;have:=ZhX (l:=l) (acc:=acc * 256 + b) (by omega) λ x hx=>hb x (List.mem_cons_of_mem _ hx);refine Int.lt_of_lt_of_le this ?_;rw [List.length_cons,Int.pow_succ,Int.mul_comm (256 ^ l.length) 256,<-Int.mul_assoc];exact Int.mul_le_mul_of_nonneg_right (by omega) (Int.le_of_lt (Int.pow_pos (by decide)))
theorem Zpk (n:Nat):∀ x∈dig n,0<=x/\x<256:=by
 induction n using Nat.strongRecOn with
 |ind n ih=>
  by_cases h:n=0
  ·subst h;rw [ZbW];intro x hx;cases hx
  ·rw [ZeS h]
   intro x hx;rcases List.mem_append.1 hx with hx|hx
   ·exact ih (n / 256) (by omega) x hx
   ·simp at hx;omega
theorem ZfP:∀ (k n:Nat),n<256 ^ k->(dig n).length<=k
 |0,n,h=>by
  have:n=0:=by simpa using h
  subst this;rw [ZbW];simp
 |k + 1,n,h=>by
  by_cases h0:n=0
  ·subst h0;rw [ZbW];simp
  ·rw [ZeS h0,List.length_append]
   have:=ZfP k (n / 256) (by rw [Nat.pow_succ] at h;exact Nat.div_lt_of_lt_mul (by rwa [Nat.mul_comm] at h));simp;omega
theorem ZgG {n:Nat} (h:n<18446744073709551616):(dig n).length<=8:=ZfP 8 n (by simpa using h)
theorem ZlC (n:Nat) (h:n<18446744073709551616):(Lib.bitLen n + 7) / 8=(dig n).length:=by
 induction n using Nat.strongRecOn with
 |ind n ih=>
  by_cases h0:n=0
  ·subst h0;rw [ZbW];decide
  ·rw [ZeS h0,List.length_append]
   by_cases h1:256<=n
   ·rw [Lib.bitLen_shift8 n h1 h,<-ih (n / 256) (by omega) (by omega)]
    simp;omega
   ·have e:n / 256=0:=by omega
    rw [e,ZbW];have h2:∀ m:Fin 256,m.val≠0->(Lib.bitLen m.val + 7) / 8=1:=by decide +kernel
    simpa using h2 ⟨n,by omega⟩ h0
theorem Zja:∀ (k n:Nat),k<=(dig n).length->(dig n).take ((dig n).length - k)=dig (n / 256 ^ k)
 |0,n,_=>by simp
 |k + 1,n,h=>by
  by_cases h0:n=0
  ·subst h0;rw [ZbW] at h;simp at h
  ·rw [ZeS h0] at h ⊢
   rw [List.length_append] at h ⊢;simp only [List.length_cons,List.length_nil] at h ⊢;have e:(dig (n / 256)).length + (0 + 1) - (k + 1)=(dig (n / 256)).length - k:=by omega
   rw [e,List.take_append_of_le_length (by omega),Zja k (n / 256) (by omega),Nat.div_div_eq_div_mul,Nat.pow_succ,Nat.mul_comm 256]
theorem ZnE {n k:Nat} (h:k<(dig n).length):(dig n)[(dig n).length - 1 - k]'(by omega)=((n / 256 ^ k % 256:Nat):Int):=by
 have h1:=Zja k n (by omega);have hn:n / 256 ^ k≠0:=by
  intro h0;rw [h0,ZbW] at h1;have:=congrArg List.length h1;simp at this;omega
 rw [ZeS hn] at h1;have h2:((dig n).take ((dig n).length - k)).getLast? =some ((n / 256 ^ k % 256:Nat):Int):=by rw [h1];simp
 rw [List.getLast?_eq_getElem?,List.length_take,Nat.min_eq_left (by omega),List.getElem?_take] at h2;split at h2
 ·rw [List.getElem?_eq_some_iff] at h2
  obtain ⟨h3,h4⟩:=h2;have e:(dig n).length - 1 - k=(dig n).length - k - 1:=by omega
  simp only [e];exact h4
 ·cases h2
def Zmi (n:Nat):List Int:=((dig n).length:Int)::dig n
theorem Zcb {n:Nat} (h:n<18446744073709551616):∀ x∈Zmi n,0<=x/\x<256:=by
 intro x hx;rcases List.mem_cons.1 hx with rfl|hx
 ·have:=ZgG h;omega
 ·exact Zpk n x hx
theorem ZiV {n:Nat} (h:n<18446744073709551616):(Zmi n).length<=9:=by
 have:=ZgG h;unfold Zmi;simp;omega
def ZcY (l:List Int):Option (Int × Bool × Nat):=
 match l with
 |[]=>none
 |k::rest=>
  let neg:=decide (16<=k)
  let w:=(if 16<=k then k - 16 else k).toNat
  if k<32/\w<=8/\w<=rest.length/\(w=0->k=0)/\(w≠0->rest.head?≠some 0) then some (ZhQ 0 (rest.take w),neg,w + 1) else none
theorem Zme {l:List Int} {n:Int} {neg:Bool} {k:Nat} (hb:∀ x∈l,0<=x/\x<256) (h:ZcY l=some (n,neg,k)):0<=n/\n<18446744073709551616/\1<=k/\k<=9/\k<=l.length:=by
 unfold ZcY at h;split at h
 ·cases h
 ·rename_i c rest
  simp only at h;generalize hw:(if 16<=c then c - 16 else c).toNat=w at h
  split at h
  ·rename_i hc
   obtain ⟨_,h8,hr,_,_⟩:=hc;simp only [Option.some.injEq,Prod.mk.injEq] at h;obtain ⟨rfl,_,rfl⟩:=h;have hb2:∀ x∈rest.take w,0<=x/\x<256:=λ x hx=>hb x (List.mem_cons_of_mem _ (List.mem_of_mem_take hx));refine ⟨ZhW (Int.le_refl _) hb2,?_,by omega,by omega,by simp;omega⟩;refine Int.lt_of_lt_of_le (ZhX (Int.le_refl _) hb2) ?_;rw [List.length_take,Nat.min_eq_left hr,Int.zero_add,Int.one_mul];have h9:256 ^ w<=256 ^ 8:=Nat.pow_le_pow_right (by omega) h8;have:((256 ^ w:Nat):Int)<=((256 ^ 8:Nat):Int):=Int.ofNat_le.2 h9;rw [Int.natCast_pow] at this;exact Int.le_trans this (by decide)
  ·cases h
structure Rd where
 bs:List Int
 bad:Bool
def ZcF (most:Int) (r:Rd):Int × Rd:=
 if r.bad then (0,r) else match ZcY r.bs with
 |some (n,neg,k)=>if neg=false/\n<=most then (n,⟨r.bs.drop k,false⟩) else (0,⟨r.bs,true⟩)
 |none=>(0,⟨r.bs,true⟩)
def Zgg (r:Rd):Bool:=!r.bad && decide (r.bs.length=0)
end Go.VC
namespace Go.Proofs.YthpmfnffkjjlnaaGreat
section
open Go Go.VC Tryz
variable {R:Cx} {Hs Rest:List HP} {w:World}
theorem _root_.Go.VC.SlR.mono {h h':ZK} {s:Sl} {xs:List Value} (hs:∀ b o,h b=some o->h' b=some o) (a:SlR h s xs):SlR h' s xs:=
 ⟨a.len,a.cap,λ hx=>let ⟨b,off,l,T,fr,ha,hb,hl⟩:=a.mem hx;⟨b,off,l,T,fr,ha,hs _ _ hb,hl⟩⟩
abbrev Ze5:List PanicEntry:=[⟨.iface 251 (.agg #[]),false,false⟩]
theorem ZcH {b:Bool} {Q:Ending->World->Prop} (h1:b=true->Q (.returned (.tuple #[])) w) (h2:b=false->Q (.panicked Ze5) w):Calls prog 242 #[.bool b] w Q:=by
 have h:ZdO prog 242 #[.bool b] w (λ ch w'=>b=false/\ch=Ze5/\w'=w) (λ v w'=>b=true/\v=.tuple #[]/\w'=w):=by
  apply ZnM;refine Br.nb (λ h=>?_) (λ h=>?_)
  ·exact ⟨h,rfl,rfl⟩
  ·exact ⟨h,rfl,rfl⟩
 refine h.use ?_ ?_
 ·rintro v w' ⟨hb,rfl,e⟩;rw [e];exact h1 hb
 ·rintro v w' ⟨hb,rfl,e⟩;rw [e];exact h2 hb
abbrev lp (l:Nat) (s:Sl):HP:=pts l (.cells [.slice s.a s.len s.cap].toArray 33 (0,0))
abbrev Zb4 (s:Sl) (k:Nat):Sl:=⟨ZbB s.a k s.cap 1,s.len - k,s.cap - k⟩
theorem ZgV {l:Nat} {s:Sl} {xs:List Value} {k:Nat} (hr:SlR R.m s xs) (hw:Sat R (lp l s::Hs) w):
  ZdO prog 253 #[.pointer (some ⟨l,0,none⟩),.int .i64 k] w
   (λ ch w'=>xs.length<k/\ch=Ze5/\Sat R (lp l s::Hs) w')
   (λ v w'=>k<=xs.length/\v=.slice s.a k s.cap/\Sat R (lp l (Zb4 s k)::Hs) w'):=by
 have hlen:=hr.len;have hcap:=hr.cap;apply ZnH;refine Zb.mk rfl ⟨s,At.own (eqS hw) (by exact ⟨rfl,trivial⟩),ZcH (λ h=>.inl ⟨rfl,?_⟩) (λ h=>.inr ⟨_,rfl,?_⟩)⟩
 ·have h:=of_decide_eq_true h
  refine Zb.mk rfl ⟨s,At.own (eqS hw) (by exact ⟨rfl,trivial⟩),by omega,by omega,Zb.mk rfl ⟨s,At.own (eqS hw) (by exact ⟨rfl,trivial⟩),by omega,by omega,Zb.mk rfl ?_⟩⟩;rw [Int.toNat_natCast];refine Za hw (by kernel_rfl) rfl (by simp [Value.cells]) λ w hw=>?_;exact ⟨by omega,rfl,hw⟩
 ·have h:=of_decide_eq_false h
  exact ⟨by omega,rfl,hw⟩
theorem Zqt:∀ c:Fin 32,ZfU .andNot .u8 ((c.1:Nat):Int) 16=if 16<=((c.1:Nat):Int) then ((c.1:Nat):Int) - 16 else ((c.1:Nat):Int):=by decide +kernel
theorem andn {c:Int} (h0:0<=c) (h1:c<32):IntKind.i64.wrap (ZfU .andNot .u8 c 16)=if 16<=c then c - 16 else c:=by
 obtain ⟨n,rfl⟩:=Int.eq_ofNat_of_zero_le h0;have:=Zqt ⟨n,by omega⟩;simp only at this;rw [this];split<;>exact Zh (by omega) (by omega)
theorem Zng {n t:Int} (h0:0<=n) (h1:n<72057594037927936) (t0:0<=t) (t1:t<256):ZfU .or .u64 (ZmN .u64 n 8) (IntKind.u64.wrap t)=n * 256 + t:=by
 have e:ZmN .u64 n 8=n * 256:=by
  show IntKind.u64.wrap (n * 2 ^ 8)=_;rw [ZhV (by omega) (by omega)];omega
 rw [e,ZhV t0 (by omega)];obtain ⟨a,rfl⟩:=Int.eq_ofNat_of_zero_le h0;obtain ⟨b,rfl⟩:=Int.eq_ofNat_of_zero_le t0;have:=Zrg (x:=a * 256) (y:=b) (by omega) (by omega);rw [Znn a b (by omega)] at this;rw [show ((a * 256:Nat):Int)=(a:Int) * 256 from Int.natCast_mul a 256] at this
 rw [this];exact (Int.natCast_add (a * 256) b).trans (by rw [Int.natCast_mul];rfl)
abbrev ZhP (c:Int):Nat:=(if 16<=c then c - 16 else c).toNat
theorem ZjY {h:ZK} {l:Nat} {s:Sl} {bs:List Int} (hb:∀ x∈bs,0<=x/\x<256) (hsub:∀ b o,h b=some o->R.m b=some o) (hr0:SlR h s (b8 bs)) (hw:Sat R (lp l s::Hs) w):
  ZdO prog 241 #[.pointer (some ⟨l,0,none⟩)] w
   (λ ch w'=>ZcY bs=none/\ch=Ze5/\∃ s',Sat R (lp l s'::Hs) w')
   (λ v w'=>∃ n neg k s',ZcY bs=some (n,neg,k)/\v=.tuple #[.int .u64 n,.bool neg]/\SlR h s' (b8 (bs.drop k))/\Sat R (lp l s'::Hs) w'):=by
 have hr:SlR R.m s (b8 bs):=hr0.mono hsub;apply ZnN;refine (ZgV (k:=1) hr hw).use ?_ ?_
 rotate_left
 ·rintro _ w ⟨h,rfl,hw⟩
  refine .inr ⟨_,rfl,?_,rfl,s,hw⟩;cases bs with
  |nil=>rfl
  |cons=>simp at h
 rintro _ w ⟨hlen,rfl,hw⟩;cases bs with
 |nil=>simp at hlen
 |cons c rest=>
 have hc:=hb c List.mem_cons_self;have hbr:∀ x∈rest,0<=x/\x<256:=λ x hx=>hb x (List.mem_cons_of_mem _ hx);refine .inl ⟨⟨s.a,1,s.cap⟩,rfl,?_⟩;have hr1:SlR R.m ⟨s.a,1,s.cap⟩ (b8 [c]):=hr.take (k:=1) hlen;have hrd:SlR R.m (Zb4 s 1) (b8 rest):=hr.drop (k:=1) hlen;have:=SlR.idxK (Hs:=lp l (Zb4 s 1)::Hs) (S:=λ w'=>w'=w) hr1 (eqS hw) (k:=0) (by simp) (F:=λ t=>t=c) rfl;obtain ⟨h0,h1,this⟩:=this.out;obtain ⟨a,ha,t,hat,rfl⟩:=this.out;refine Rng.mk h0 h1 (Zb.mk ha ⟨t,hat,?_⟩);have hsnone:∀ {p:Prop},¬ p->True:=λ _=>trivial;refine ⟨λ w=>(t<32/\ZhP t<=8/\(ZhP t=0->t=0))/\Sat R (lp l (Zb4 s 1)::Hs) w,?_,?_⟩
 ·have bad:(t<32/\ZhP t<=8/\ZhP t<=rest.length/\(ZhP t=0->t=0)/\(ZhP t≠0->rest.head?≠some 0)->False)->ZcY (t::rest)=none:=λ h=>by
   unfold ZcY;simp only;rw [if_neg h]
  refine Br.d (λ h=>?_) (λ h=>?_)
  ·rw [andn hc.1 h]
   refine Br.d (λ h2=>?_) (λ h2=>?_)
   ·refine Br.d (λ h3=>?_) (λ h3=>?_)
    ·exact ZcH (λ _=>.inl ⟨rfl,⟨h,by unfold ZhP;omega,λ h4=>by unfold ZhP at h4;omega⟩,hw⟩) (λ h=>by cases h)
    ·refine ZcH (λ h4=>.inl ⟨rfl,⟨h,by unfold ZhP;omega,λ h5=>?_⟩,hw⟩) (λ h4=>.inr ⟨_,rfl,bad ?_,rfl,_,hw⟩)
     ·simp only [ge_iff_le,Bool.not_eq_true',decide_eq_false_iff_not] at h4
      rw [if_neg h4] at h3;omega
     ·simp only [ge_iff_le,Bool.not_eq_false',decide_eq_true_eq] at h4
      rintro ⟨_,_,_,h5,_⟩;rw [if_pos h4] at h3;have:=h5 (by unfold ZhP;rw [if_pos h4];omega);omega
   ·exact ZcH (λ h=>by cases h) (λ _=>.inr ⟨_,rfl,bad (by rintro ⟨_,h3,_⟩;unfold ZhP at h3;omega),rfl,_,hw⟩)
  ·exact ZcH (λ h=>by cases h) (λ _=>.inr ⟨_,rfl,bad (by rintro ⟨h3,_⟩;exact h h3),rfl,_,hw⟩)
 clear hat ha h0 h1;rintro _ w ⟨⟨h32,h8,hz⟩,hw⟩;rw [andn hc.1 h32];have hwid:(if 16<=t then t - 16 else t)=((ZhP t:Nat):Int):=by
  unfold ZhP;rw [Int.toNat_of_nonneg];split<;>omega
 rw [hwid];generalize hW:ZhP t=W at *;refine (ZgV (k:=W) hrd hw).use ?_ ?_
 rotate_left
 ·rintro _ w ⟨h,rfl,hw⟩
  refine .inr ⟨_,rfl,?_,rfl,_,hw⟩;unfold ZcY;simp only;rw [if_neg];rintro ⟨_,_,h3,_⟩;have:ZhP t<=rest.length:=h3;simp at h;omega
 rintro _ w ⟨hl,rfl,hw⟩;have hl:W<=rest.length:=by simpa using hl
 have hrt:SlR R.m ⟨(Zb4 s 1).a,W,(Zb4 s 1).cap⟩ (b8 (rest.take W)):=by have:=hrd.take (k:=W) (by simpa using hl);rwa [<-List.map_take] at this
 have hlt:(rest.take W).length=W:=by simp;omega
 refine .inl ⟨⟨(Zb4 s 1).a,W,(Zb4 s 1).cap⟩,rfl,?_⟩;refine ⟨λ n i w=>∃ k:Nat,i=k/\k<=W/\n=ZhQ 0 (rest.take k)/\(k≠0->rest.head?≠some 0)/\Sat R (lp l (Zb4 (Zb4 s 1) W)::Hs) w,λ _ i _=>W - i.toNat,⟨0,rfl,Nat.zero_le _,rfl,λ h=>absurd rfl h,hw⟩,?_⟩;rintro _ _ _ w ⟨k,rfl,hk,rfl,hh,hw⟩;refine Br.d (λ h=>?_) (λ h=>?_)
 ·have hk2:k<W:=by have:((k:Nat):Int)<(W:Int):=h;omega
  have hkr:k<rest.length:=by omega
  have:=SlR.idxK (Hs:=lp l (Zb4 (Zb4 s 1) W)::Hs) (S:=λ w'=>w'=w) hrt (eqS hw) (k:=k) (by omega) (F:=λ t=>t=rest[k]) (by simp);obtain ⟨h0,h1,this⟩:=this.out;obtain ⟨a,ha,x,hat,rfl⟩:=this.out;refine Rng.mk h0 h1 (Zb.mk ha ⟨_,hat,?_⟩);have hx:=hbr rest[k] (List.getElem_mem _);have hvb:∀ x∈rest.take k,0<=x/\x<256:=λ x hx=>hbr x (List.mem_of_mem_take hx);have hv0:=ZhW (acc:=0) (Int.le_refl _) hvb;have hv1:ZhQ 0 (rest.take k)<72057594037927936:=by
   refine Int.lt_of_lt_of_le (ZhX (Int.le_refl _) hvb) ?_;rw [List.length_take,Nat.min_eq_left (by omega),Int.zero_add,Int.one_mul];have h9:256 ^ k<=256 ^ 7:=Nat.pow_le_pow_right (by omega) (by omega);have:((256 ^ k:Nat):Int)<=((256 ^ 7:Nat):Int):=Int.ofNat_le.2 h9;rw [Int.natCast_pow] at this;exact Int.le_trans this (by decide)
  have hstep:∀ w,(rest.head?≠some 0)->Sat R (lp l (Zb4 (Zb4 s 1) W)::Hs) w->
    (∃ k':Nat,IntKind.i64.wrap ((k:Int) + 1)=k'/\k'<=W/\ZfU .or .u64 (ZmN .u64 (ZhQ 0 (rest.take k)) 8) (IntKind.u64.wrap rest[k])=ZhQ 0 (rest.take k')/\(k'≠0->rest.head?≠some 0)/\Sat R (lp l (Zb4 (Zb4 s 1) W)::Hs) w)/\W - (IntKind.i64.wrap ((k:Int) + 1)).toNat<W - (k:Int).toNat:=λ w h1 hw=>by
   rw [Zh (by omega) (by omega)];refine ⟨⟨k + 1,by omega,by omega,?_,λ _=>h1,hw⟩,by omega⟩;rw [Zng hv0 hv1 hx.1 hx.2,List.take_succ_eq_append_getElem hkr,Zku]
  refine Br.d (λ h3=>?_) (λ h3=>?_)
  ·exact ZcH (λ _=>.inl ⟨rfl,hstep _ (hh (by omega)) hw⟩) (λ h=>by cases h)
  ·have hk0:k=0:=by omega
   subst hk0;have hhead:rest.head? =some rest[0]:=by rw [List.head?_eq_getElem?,List.getElem?_eq_getElem hkr]
   refine ZcH (λ h4=>.inl ⟨rfl,hstep _ ?_ hw⟩) (λ h4=>.inr ⟨_,rfl,?_,rfl,_,hw⟩)
   ·have h4:=of_decide_eq_true h4
    rw [hhead];intro h5;simp only [Option.some.injEq] at h5;omega
   ·have h4:=of_decide_eq_false h4
    unfold ZcY;simp only;rw [if_neg];rintro ⟨_,_,_,_,h5⟩;have h6:ZhP t≠0:=by omega
    refine h5 h6 ?_;rw [hhead];congr 1;omega
 ·have hkW:k=W:=by have:¬ ((k:Nat):Int)<(W:Int):=h;omega
  subst hkW;refine ⟨ZhQ 0 (rest.take k),decide (t >= 16),k + 1,Zb4 (Zb4 s 1) k,?_,rfl,?_,?_⟩
  ·unfold ZcY;simp only
   have e:(if 16<=t then t - 16 else t).toNat=k:=hW
   rw [e,if_pos ⟨h32,h8,hl,hz,hh⟩]
  ·have:=(hr0.drop (k:=1) hlen).drop (k:=k) (by simpa using hl)
   simpa using this
  ·exact hw
end
section
open Go Go.VC Tryz
variable {R:Cx} {Hs Rest:List HP} {w:World}
theorem Zf7 (n k:Nat) (hk:k<=64):Zfp .u64 (n:Int) (k:Int)=((n / 2 ^ k:Nat):Int):=by
 have e:min ((k:Int).toNat) IntKind.u64.bits=k:=by rw [Int.toNat_natCast];exact Nat.min_eq_left hk
 unfold Zfp;rw [e,Int.fdiv_eq_ediv_of_nonneg _ (by exact Int.le_of_lt (Int.pow_pos (by decide)))];rw [show ((2:Int) ^ k)=((2 ^ k:Nat):Int) from (Int.natCast_pow 2 k).symm]
 exact (Int.natCast_ediv n (2 ^ k)).symm
theorem Zrb (n:Nat):Zfp .u64 (n:Int) 32=((n / 4294967296:Nat):Int):=Zf7 n 32 (by omega)
theorem Zrc (n:Nat):Zfp .u64 (n:Int) 16=((n / 65536:Nat):Int):=Zf7 n 16 (by omega)
theorem shr8 (n:Nat):Zfp .u64 (n:Int) 8=((n / 256:Nat):Int):=Zf7 n 8 (by omega)
theorem ZjN {n:Nat} (hn:n<18446744073709551616) (hw:Sat R Hs w):
  Zj prog 120 #[.int .u64 n] w λ v w'=>v=.int .i64 (Lib.bitLen n:Nat)/\Sat R Hs w':=by
 apply Zou;refine ⟨λ x j w=>∃ m i:Nat,x=m/\j=i/\m<4294967296/\i<=32/\Lib.bitLen n=i + Lib.bitLen m/\Sat R Hs w,?_,?_⟩
 ·refine Br.d (λ h=>?_) (λ h=>?_)
  ·rw [Zrb]
   exact ⟨n / 4294967296,32,rfl,rfl,by omega,by omega,Lib.bitLen_shift32 n (by omega) hn,hw⟩
  ·exact ⟨n,0,rfl,rfl,by omega,by omega,by omega,hw⟩
 rintro _ _ _ w ⟨m,i,rfl,rfl,hm,hi,he,hw⟩;refine ⟨λ x j w=>∃ m i:Nat,x=m/\j=i/\m<65536/\i<=48/\Lib.bitLen n=i + Lib.bitLen m/\Sat R Hs w,?_,?_⟩
 ·refine Br.d (λ h=>?_) (λ h=>?_)
  ·rw [Zrc,Zh (by omega) (by omega)]
   exact ⟨m / 65536,i + 16,rfl,by omega,by omega,by omega,by have:=Lib.bitLen_shift16 m (by omega) (by omega);omega,hw⟩
  ·exact ⟨m,i,rfl,rfl,by omega,by omega,he,hw⟩
 clear hm hi he hw;rintro _ _ _ w ⟨m,i,rfl,rfl,hm,hi,he,hw⟩;refine Br.d (λ h=>?_) (λ h=>?_)
 ·rw [shr8,Zkq (by omega) (by omega)]
  have h8:Lib.bitLen (m / 256)<=8:=Lib.bitLen_le8 ⟨m / 256,by omega⟩;refine ⟨UInt8.ofNat (Lib.bitLen (m / 256)),by omega,?_,?_,hw⟩
  ·rw [Int.toNat_natCast]
   obtain ⟨q,hq⟩:∃ q:Fin 256,q.1=m / 256:=⟨⟨m / 256,by omega⟩,rfl⟩;rw [<-hq];clear hq h8 hw he hi hm h
   revert q
   decide +kernel
  ·have:(UInt8.ofNat (Lib.bitLen (m / 256))).toNat=Lib.bitLen (m / 256):=by simp;omega
   have h2:=Lib.bitLen_shift8 m (by omega) (by omega);rw [this,Zh (x:=((Lib.bitLen (m / 256):Nat):Int)) (by omega) (by omega),Zh (x:=(i:Int) + 8) (by omega) (by omega),Zh (by omega) (by omega)]
   congr 1;omega
 ·rw [Zkq (by omega) (by omega)]
  have h8:Lib.bitLen m<=8:=Lib.bitLen_le8 ⟨m,by omega⟩;refine ⟨UInt8.ofNat (Lib.bitLen m),by omega,?_,?_,hw⟩
  ·rw [Int.toNat_natCast]
   obtain ⟨q,hq⟩:∃ q:Fin 256,q.1=m:=⟨⟨m,by omega⟩,rfl⟩;rw [<-hq];clear hq h8 hw he hi hm h
   revert q
   decide +kernel
  ·have:(UInt8.ofNat (Lib.bitLen m)).toNat=Lib.bitLen m:=by simp;omega
   rw [this,Zh (x:=((Lib.bitLen m:Nat):Int)) (by omega) (by omega),Zh (by omega) (by omega)]
   congr 1;omega
theorem Zex {n:Nat} (hn:n<18446744073709551616) (hw:Sat R Hs w):
  Zj prog 57 #[.int .u64 n] w λ v w'=>∃ t:Sl,v=.slice t.a t.len t.cap/\Sat R (Own t 5 (b8 (Zmi n))::Hs) w':=by
 apply ZpM;refine (ZjN hn hw).use ?_;rintro _ w ⟨rfl,hw⟩;refine ⟨_,rfl,?_⟩;have hwid:=ZlC n hn;have h8:=ZgG hn;generalize hL:(dig n).length=L at *;have e:IntKind.i64.wrap ((IntKind.i64.wrap (((Lib.bitLen n:Nat):Int) + 7)).tdiv 8)=(L:Int):=by
  rw [Zh (x:=((Lib.bitLen n:Nat):Int) + 7) (by omega) (by omega),Int.tdiv_eq_ediv_of_nonneg (by omega),Zh (by omega) (by omega)];omega
 rw [e,Zkq (by omega) (by omega)];refine Zd hw λ b w hw=>?_;have h0:Sat R (Own ⟨some ⟨b,0,none⟩,1,1⟩ 5 (b8 [(L:Int)])::Hs) w:=Own.of_pts (xs:=b8 [(L:Int)]) (rest:=[]) hw;refine ⟨λ wd out w=>∃ k:Nat,wd=k/\k<=L/\Sat R (Own out 5 (b8 ((L:Int)::(dig n).take (L - k)))::Hs) w,λ wd _ _=>wd.toNat,⟨L,rfl,Nat.le_refl _,by simpa using h0⟩,?_⟩;clear hw h0;rintro _ _ out w ⟨k,rfl,hk,hw⟩;refine Br.d (λ h=>?_) (λ h=>?_)
 ·have e1:IntKind.i64.wrap ((k:Int) - 1)=((k - 1:Nat):Int):=by rw [Zh (by omega) (by omega)];omega
  have e2:IntKind.i64.wrap (8 * ((k - 1:Nat):Int))=((8 * (k - 1):Nat):Int):=by rw [Zh (by omega) (by omega)];omega
  rw [e1,e2,Zf7 n _ (by omega)];refine Ge0.mk (by omega) ?_;have hd:=ZnE (n:=n) (k:=k - 1) (by omega);have hlen:((L:Int)::(dig n).take (L - k)).length<=9:=by simp;omega
  refine Zes Zrp hw (ZmR _) rfl (by rw [List.length_map];omega) (by rw [List.length_map];omega) λ t w hw=>⟨⟨k - 1,rfl,by omega,?_⟩,by show ((k - 1:Nat):Int).toNat<(k:Int).toNat;omega⟩;have e3:((L:Int)::(dig n).take (L - (k - 1)))=((L:Int)::(dig n).take (L - k))++[IntKind.u8.wrap ((n / 2 ^ (8 * (k - 1)):Nat):Int)]:=by
   have e4:L - (k - 1)=(L - k) + 1:=by omega
   rw [e4,List.take_succ_eq_append_getElem (by omega),List.cons_append]
   congr 3
   rw [ZhU,show (2:Nat) ^ (8 * (k - 1))=256 ^ (k - 1) from by rw [Nat.pow_mul],show ((n / 256 ^ (k - 1):Nat):Int) % 256=((n / 256 ^ (k - 1) % 256:Nat):Int) from (Int.natCast_emod _ _).symm,<-hd]
   congr 1;omega
  rw [e3];simpa [b8] using hw
 ·have hk0:k=0:=by omega
  subst hk0;refine ⟨out,rfl,?_⟩;have:(dig n).take (L - 0)=dig n:=List.take_of_length_le (by omega);rw [this] at hw;unfold Zmi;rw [hL];exact hw
abbrev ZaM (s:Sl) (bad:Bool):Obj:=.cells [.slice s.a s.len s.cap,.bool bad].toArray 236 (0,0)
def ZhS (r:Nat) (rd:Rd):HP:=exs λ s:Sl=>Zds [pts r (ZaM s rd.bad),Zat s (b8 rd.bs)]
theorem Sat.rd {r:Nat} {rd:Rd}:Sat R (ZhS r rd::Hs) w↔∃ s:Sl,Sat R (pts r (ZaM s rd.bad)::Zat s (b8 rd.bs)::Hs) w:=by
 unfold ZhS;rw [Sat.exs];exact ⟨λ⟨s,h⟩=>⟨s,Sat.star.1 h⟩,λ⟨s,h⟩=>⟨s,Sat.star.2 h⟩⟩
abbrev ZcJ (r:Nat):Obj:=.cells [.pointer (some ⟨r,0,none⟩)].toArray 213 (0,0)
theorem ZmU {br r:Nat} {s:Sl} {bad:Bool} {Kr:World->Prop} (hw:Sat R (pts br (ZcJ r)::pts r (ZaM s bad)::Hs) w) (k:∀ w,Sat R (pts br (ZcJ r)::pts r (ZaM s true)::Hs) w->Kr w):
  Zcp prog 252 [.pointer (some ⟨br,0,none⟩)] (.panicking Ze5) Kr w:=by
 unfold Zcp;refine CallsD.mono (ZmA (some ⟨br,0,none⟩) (.iface 251 (.agg #[])) Kr w ?_) ?_
 ·refine ⟨true,λ w' _=>by kernel_rfl,Br.t rfl ?_⟩
  refine Zb.mk rfl ⟨some ⟨r,0,none⟩,At.own (eqS hw) (by exact ⟨rfl,trivial⟩),Zb.mk rfl ?_⟩;have hw:=hw.swap;refine Za hw (by kernel_rfl) rfl (by simp [Value.cells]) λ w hw=>?_;exact k w hw.swap
 ·rintro e v w' ⟨hy,rfl,hk⟩
  exact ⟨hy,rfl,hk⟩
theorem Zpd {br:Nat} {Kr:World->Prop} (k:Kr w):Zcp prog 252 [.pointer (some ⟨br,0,none⟩)] .returning Kr w:=by
 unfold Zcp;refine CallsD.mono (Zmz (some ⟨br,0,none⟩) Kr w ?_) ?_
 ·exact ⟨false,λ w' _=>by kernel_rfl,Br.f rfl k⟩
 ·rintro e v w' ⟨hy,rfl,hk⟩
  exact ⟨hy,rfl,hk⟩
theorem Zg9 {r:Nat} {rd:Rd} {one:Value} {α:Type} {f:α->List Int} {Hs1:α->List HP} {Hs2:List HP} {G:α->Prop} {N:Prop} (hw:Sat R (ZhS r rd::Hs) w)
  (hone:rd.bad=false->∀ (x:ZK) (l:Nat) (s:Sl) (A B:HP) (w:World),(∀ b o,x b=some o->(R.add x).m b=some o)->SlR x s (b8 rd.bs)->Sat (R.add x) (lp l s::A::B::Hs) w->
   Zdw prog cl one [.pointer (some ⟨l,0,none⟩)] w λ e w'=>
    (e=.returned (.tuple #[])/\∃ y s',G y/\SlR x s' (b8 (f y))/\Sat (R.add x) (lp l s'::A::B::Hs1 y) w')\/
    (e=.panicked Ze5/\N/\∃ s',Sat (R.add x) (lp l s'::A::B::Hs2) w')):
  Zj prog 239 #[.pointer (some ⟨r,0,none⟩),one] w λ v w'=>v=.tuple #[]/\
   ((rd.bad=true/\Sat R (ZhS r rd::Hs) w')\/(rd.bad=false/\∃ y,G y/\Sat R (ZhS r ⟨f y,false⟩::Hs1 y) w')\/(rd.bad=false/\N/\Sat R (ZhS r ⟨rd.bs,true⟩::Hs2) w')):=by
 obtain ⟨s,hw⟩:=Sat.rd.1 hw;apply ZnP;refine Zd hw λ br w hw=>?_;refine ⟨_,At.own (eqS hw) (by exact ⟨rfl,trivial⟩),Zb.mk rfl ?_⟩;refine ⟨_,At.own (eqS hw) (by exact ⟨rfl,trivial⟩),ZcH (λ h=>.inl ⟨rfl,?_⟩) (λ h=>.inr ⟨_,rfl,?_⟩)⟩
 ·have hbad:rd.bad=false:=by simpa using h
  refine ⟨_,At.own (eqS hw) (by exact ⟨rfl,trivial⟩),Zb.mk rfl ?_⟩;refine ⟨_,At.own (eqS hw) (by exact ⟨rfl,trivial⟩),?_⟩;refine Zd hw λ l w hw=>?_;have hw:Sat R (pts l (.cells [.slice none 0 0].toArray 33 (0,0))::pts br (ZcJ r)::pts r (ZaM s rd.bad)::Zat s (b8 rd.bs)::Hs) w:=hw;refine Za hw (by kernel_rfl) rfl (by simp [Value.cells]) λ w hw=>?_;have hw:Sat R (lp l s::pts br (ZcJ r)::pts r (ZaM s rd.bad)::Zat s (b8 rd.bs)::Hs) w:=hw;have hw:Sat R (Zat s (b8 rd.bs)::lp l s::pts br (ZcJ r)::pts r (ZaM s rd.bad)::Hs) w:=hw.arr;obtain ⟨x,hd,_,hx,hs⟩:=Zat.lend hw;have hsub:∀ b o,x b=some o->(R.add x).m b=some o:=λ b o hb=>by
   have:=hd b (by rw [hb];simp);simp only [Cx.add,ZK.add,this,hb]
  refine Zdw.mono (hone hbad x l s _ _ w hsub hs hx) ?_;rintro e w' (⟨rfl,bs',s',hg,hs',hw⟩|⟨rfl,hn,s',hw⟩)
  ·refine .inl ⟨rfl,?_⟩
   have hw:Sat (R.add x) (pts br (ZcJ r)::pts r (ZaM s rd.bad)::lp l s'::Hs1 bs') w':=hw.arr;refine ⟨_,At.own (eqS hw) (by exact ⟨rfl,trivial⟩),?_⟩;refine ⟨_,At.own (eqS hw) (by exact ⟨rfl,trivial⟩),Zb.mk rfl ?_⟩;have hw:Sat (R.add x) (pts r (ZaM s rd.bad)::lp l s'::pts br (ZcJ r)::Hs1 bs') w':=hw.arr;refine Za hw (by kernel_rfl) rfl (by simp [Value.cells]) λ w hw=>?_;refine Zpd ⟨rfl,.inr (.inl ⟨hbad,bs',hg,?_⟩)⟩;have hw:Sat (R.add x) (pts r (ZaM s' rd.bad)::lp l s'::pts br (ZcJ r)::Hs1 bs') w:=hw;rw [hbad] at hw;have hw:Sat (R.add x) (pts r (ZaM s' false)::Hs1 bs') w:=hw.cons λ _ h=>h.drop.drop;refine Sat.rd.2 ⟨s',?_⟩;exact (Zat.back hd hs' hw).swap
  ·refine .inr ⟨_,rfl,?_⟩
   have hw:Sat (R.add x) (pts br (ZcJ r)::pts r (ZaM s rd.bad)::lp l s'::Hs2) w':=hw.arr;refine ZmU hw λ w hw=>⟨rfl,.inr (.inr ⟨hbad,hn,?_⟩)⟩;have hw:Sat (R.add x) (pts r (ZaM s true)::Hs2) w:=hw.drop.cons λ _ h=>h.drop;refine Sat.rd.2 ⟨s,?_⟩;exact (Zat.back hd hs hw).swap
 ·have hbad:rd.bad=true:=by simpa using h
  have hw:Sat R (pts br (ZcJ r)::pts r (ZaM s rd.bad)::Zat s (b8 rd.bs)::Hs) w:=hw;refine ZmU hw λ w hw=>⟨rfl,.inl ⟨hbad,?_⟩⟩;rw [<-hbad] at hw;exact Sat.rd.2 ⟨s,hw.drop⟩
end
section
open Go Go.VC Tryz
variable {R:Cx} {Hs Rest:List HP} {w:World}
theorem Zdw.mk {g:FuncId} {captured:Array Value} {args:List Value} {Q:Ending->World->Prop} (hc:cl g=true) (h:Calls prog g (args++captured.toList).toArray w Q):Zdw prog cl (.func (.func g) #[] captured) args w Q:=by
 unfold Zdw;simp only [hc];exact h
theorem Zlt {s:Sl} {bs:List Int} (hs:Ro R s (b8 bs)) (hl:bs.length<=1099511627776) (hw:Sat R Hs w):
  Zj prog 211 #[.slice s.a s.len s.cap] w λ v w'=>∃ r,v=.pointer (some ⟨r,0,none⟩)/\Sat R (ZhS r ⟨bs,false⟩::Hs) w':=by
 apply Zn3;refine (ZcD hs hl hw).use ?_;rintro _ w ⟨t,rfl,hw⟩;refine ⟨t,rfl,?_⟩;have hw:=Own.reads hw;refine Zd hw λ r w hw=>⟨r,rfl,Sat.rd.2 ⟨t,hw⟩⟩
theorem Zjn {r:Nat} {rd:Rd} (hw:Sat R (ZhS r rd::Hs) w):
  Zj prog 213 #[.pointer (some ⟨r,0,none⟩)] w λ v w'=>v=.bool (Zgg rd)/\Sat R (ZhS r rd::Hs) w':=by
 obtain ⟨s,hw⟩:=Sat.rd.1 hw;have hsl:s.len=rd.bs.length:=by
  obtain ⟨x,_,_,_,hx⟩:=Zat.lend hw.swap;have:=hx.len;simpa using this
 apply Zn1;refine Zb.mk rfl ⟨rd.bad,At.own (eqS hw) (by exact ⟨rfl,trivial⟩),Br.nb (λ h=>?_) (λ h=>?_)⟩
 ·refine Zb.mk rfl ?_
  refine ⟨s,At.own (eqS hw) (by exact ⟨rfl,trivial⟩),?_,Sat.rd.2 ⟨s,hw⟩⟩;unfold Zgg;rw [h,hsl]
  congr 1
  simp only [Bool.not_false,Bool.true_and];cases rd.bs with
  |nil=>rfl
  |cons=>simp;omega
 ·refine ⟨?_,Sat.rd.2 ⟨s,hw⟩⟩
  unfold Zgg;rw [h];rfl
theorem Zk2 {h:ZK} {l bm bo:Nat} {s:Sl} {bs:List Int} {most:Int} (hb:∀ x∈bs,0<=x/\x<256) (hsub:∀ b o,h b=some o->R.m b=some o) (hr:SlR h s (b8 bs))
  (hw:Sat R (lp l s::pts bo (.cells [.int .u64 0].toArray 121 (0,0))::pts bm (.cells [.int .u64 most].toArray 121 (0,0))::Hs) w):
  ZdO prog 240 #[.pointer (some ⟨l,0,none⟩),.pointer (some ⟨bm,0,none⟩),.pointer (some ⟨bo,0,none⟩)] w
   (λ ch w'=>ch=Ze5/\(∀ n k,ZcY bs=some (n,false,k)->¬ n<=most)/\∃ s',Sat R (lp l s'::pts bo (.cells [.int .u64 0].toArray 121 (0,0))::pts bm (.cells [.int .u64 most].toArray 121 (0,0))::Hs) w')
   (λ v w'=>v=.tuple #[]/\∃ n k s',ZcY bs=some (n,false,k)/\n<=most/\SlR h s' (b8 (bs.drop k))/\
    Sat R (lp l s'::pts bo (.cells [.int .u64 n].toArray 121 (0,0))::pts bm (.cells [.int .u64 most].toArray 121 (0,0))::Hs) w'):=by
 apply ZnO;refine (ZjY hb hsub hr hw).use ?_ ?_
 rotate_left
 ·rintro _ w ⟨hp,rfl,s',hw⟩
  refine .inr ⟨_,rfl,rfl,?_,s',hw⟩;intro n k h;rw [hp] at h;cases h
 rintro _ w ⟨n,neg,k,s',hp,rfl,hs',hw⟩;refine .inl ⟨n,neg,rfl,Br.nb (λ h=>?_) (λ h=>?_)⟩
 ·subst h
  have hw2:Sat R (pts bm (.cells [.int .u64 most].toArray 121 (0,0))::lp l s'::pts bo (.cells [.int .u64 0].toArray 121 (0,0))::Hs) w:=hw.arr;refine Zb.mk rfl ?_;refine ⟨most,At.own (eqS hw) (by exact ⟨rfl,trivial⟩),ZcH (λ h=>.inl ⟨rfl,?_⟩) (λ h=>.inr ⟨_,rfl,rfl,?_,s',hw⟩)⟩
  ·have h:=of_decide_eq_true h
   have hw:Sat R (pts bo (.cells [.int .u64 0].toArray 121 (0,0))::lp l s'::pts bm (.cells [.int .u64 most].toArray 121 (0,0))::Hs) w:=hw.swap;refine Za hw (by kernel_rfl) rfl (by simp [Value.cells]) λ w hw=>?_;exact ⟨rfl,n,k,s',hp,h,hs',hw.swap⟩
  ·have h:=of_decide_eq_false h
   intro n' k' hp';rw [hp] at hp';simp only [Option.some.injEq,Prod.mk.injEq,true_and] at hp';rw [<-hp'.1];exact h
 ·subst h
  refine ZcH (λ h=>by cases h) (λ _=>.inr ⟨_,rfl,rfl,?_,s',hw⟩);intro n' k' hp';rw [hp] at hp';simp at hp'
theorem Zg3 {r:Nat} {rd:Rd} {most:Int} (hb:∀ x∈rd.bs,0<=x/\x<256) (hw:Sat R (ZhS r rd::Hs) w):
  Zj prog 212 #[.pointer (some ⟨r,0,none⟩),.int .u64 most] w λ v w'=>v=.int .u64 (ZcF most rd).1/\Sat R (ZhS r (ZcF most rd).2::Hs) w':=by
 apply Zn2;refine Zd hw λ bm w hw=>Zd hw λ bo w hw=>?_;have hw:Sat R (pts bo (.cells [.int .u64 0].toArray 121 (0,0))::pts bm (.cells [.int .u64 most].toArray 121 (0,0))::ZhS r rd::Hs) w:=hw;refine Za hw (by kernel_rfl) rfl (by simp [Value.cells]) λ w hw=>?_;have hw:=hw.re (pts bo (.cells [.int .u64 0].toArray 121 (0,0)));have hw:Sat R (ZhS r rd::pts bo (.cells [.int .u64 0].toArray 121 (0,0))::pts bm (.cells [.int .u64 most].toArray 121 (0,0))::Hs) w:=hw.arr;refine (Zg9 (α:=Int × Nat) (f:=λ y=>rd.bs.drop y.2) (G:=λ y=>ZcY rd.bs=some (y.1,false,y.2)/\y.1<=most) (N:=∀ n k,ZcY rd.bs=some (n,false,k)->¬ n<=most)
  (Hs1:=λ y=>pts bo (.cells [.int .u64 y.1].toArray 121 (0,0))::pts bm (.cells [.int .u64 most].toArray 121 (0,0))::Hs)
  (Hs2:=pts bo (.cells [.int .u64 0].toArray 121 (0,0))::pts bm (.cells [.int .u64 most].toArray 121 (0,0))::Hs) hw ?_).use ?_
 ·intro _ x l s A B w hsub hs hw
  refine Zdw.mk (by kernel_rfl) ?_;have hw2:Sat (R.add x) (lp l s::pts bo (.cells [.int .u64 0].toArray 121 (0,0))::pts bm (.cells [.int .u64 most].toArray 121 (0,0))::A::B::Hs) w:=hw.arr;refine (Zk2 (h:=x) hb hsub hs hw2).use ?_ ?_
  ·rintro _ w ⟨rfl,n,k,s',hp,hn,hs',hw⟩
   exact .inl ⟨rfl,(n,k),s',⟨hp,hn⟩,hs',hw.arr⟩
  ·rintro _ w ⟨rfl,hn,s',hw⟩
   exact .inr ⟨rfl,hn,s',hw.arr⟩
 ·rintro _ w ⟨rfl,h⟩
  refine ⟨rfl,?_⟩;rcases h with ⟨hbad,hw⟩|⟨hbad,⟨n,k⟩,⟨hp,hn⟩,hw⟩|⟨hbad,hno,hw⟩
  ·have hw:Sat R (pts bo (.cells [.int .u64 0].toArray 121 (0,0))::ZhS r rd::pts bm (.cells [.int .u64 most].toArray 121 (0,0))::Hs) w:=hw.swap
   refine ⟨0,At.own (eqS hw) (by exact ⟨rfl,trivial⟩),?_⟩;unfold ZcF;rw [if_pos hbad];exact ⟨rfl,hw.drop.cons λ _ h=>h.drop⟩
  ·have hw:Sat R (pts bo (.cells [.int .u64 n].toArray 121 (0,0))::ZhS r ⟨rd.bs.drop k,false⟩::pts bm (.cells [.int .u64 most].toArray 121 (0,0))::Hs) w:=hw.swap
   refine ⟨n,At.own (eqS hw) (by exact ⟨rfl,trivial⟩),?_⟩;unfold ZcF;rw [if_neg (by rw [hbad];simp),hp];simp only;rw [if_pos (by simpa using hn)];exact ⟨rfl,hw.drop.cons λ _ h=>h.drop⟩
  ·have hw:Sat R (pts bo (.cells [.int .u64 0].toArray 121 (0,0))::ZhS r ⟨rd.bs,true⟩::pts bm (.cells [.int .u64 most].toArray 121 (0,0))::Hs) w:=hw.swap
   refine ⟨0,At.own (eqS hw) (by exact ⟨rfl,trivial⟩),?_⟩;have e:ZcF most rd=(0,⟨rd.bs,true⟩):=by
    unfold ZcF;rw [if_neg (by rw [hbad];simp)];cases hp:ZcY rd.bs with
    |none=>rfl
    |some p=>
     obtain ⟨n,neg,k⟩:=p;simp only;rw [if_neg];rintro ⟨rfl,h⟩;exact hno n k hp h
   rw [e];exact ⟨rfl,hw.drop.cons λ _ h=>h.drop⟩
theorem Zmd {most:Int} {rd:Rd} (hb:∀ x∈rd.bs,0<=x/\x<256):∀ x∈(ZcF most rd).2.bs,0<=x/\x<256:=by
 unfold ZcF;split
 ·exact hb
 ·split
  ·split
   ·exact λ x hx=>hb x (List.mem_of_mem_drop hx)
   ·exact hb
  ·exact hb
theorem Zha {most:Int} {rd:Rd} (hb:∀ x∈rd.bs,0<=x/\x<256) (hm:0<=most):0<=(ZcF most rd).1/\(ZcF most rd).1<=most:=by
 unfold ZcF;split
 ·exact ⟨Int.le_refl _,hm⟩
 ·split
  ·rename_i n neg k hp
   split
   ·rename_i h;exact ⟨(Zme hb hp).1,h.2⟩
   ·exact ⟨Int.le_refl _,hm⟩
  ·exact ⟨Int.le_refl _,hm⟩
end
end Go.Proofs.YthpmfnffkjjlnaaGreat
namespace Go.Rf
structure Ey where
 ix:Int
 tm:Int
 kd:Int
 dt:List Int
structure Lg where
 b:Ey
 l:List Ey
 com:Int
 app:Int
def inIx (n:Int):Bool:=decide (0<=n/\n<=1099511627776)
def Lg.all (g:Lg):List Ey:=g.b::g.l
def Lg.last (g:Lg):Int:=g.b.ix + g.l.length
def Lg.has (g:Lg) (i:Int):Bool:=decide (g.b.ix<=i/\i<=g.last)
def Lg.at (g:Lg) (i:Int):Ey:=g.all.getD (i - g.b.ix).toNat g.b
def Lg.term (g:Lg) (i:Int):Int × Bool:=if g.has i then ((g.at i).tm,true) else (0,false)
def Lg.get (g:Lg) (i most:Int):List Ey:=if i<=g.b.ix\/g.has i=false\/most<1 then [] else (g.all.drop (i - g.b.ix).toNat).take most.toNat
def Lg.tail (g:Lg):Ey:=g.all.getLast (List.cons_ne_nil _ _)
def oddE (e:Ey):Bool:=decide (e.ix<1)||!inIx e.ix||!inIx e.tm||decide (e.kd<0)||decide (e.kd>7)||decide ((e.dt.length:Int)>4096)
def folE:List Ey->Int->Int->Bool
 |[],_,_=>true
 |x::l,i,t=>if x.ix - 1≠i\/x.tm<t then false else folE l x.ix x.tm
def Lg.new (i t:Int):Lg:=⟨⟨i,t,0,[]⟩,[],i,i⟩
def Lg.add (g:Lg) (l:List Ey):Int × Lg:=if l.any oddE then (1,g) else if folE l g.last g.tail.tm then (0,{ g with l:=g.l++l }) else (7,g)
def Lg.unlike (g:Lg) (x:Ey):Bool:=!((g.term x.ix).2 && (g.term x.ix).1==x.tm)
def Lg.mergeAt (g:Lg) (i t:Int) (l:List Ey):(Int × Int) × Lg:=
 if g.unlike ⟨i,t,0,[]⟩ then ((0,7),g)
 else match l.findIdx? g.unlike with
  |none=>((0,0),g)
  |some k=>let at':=(l.getD k ⟨0,0,0,[]⟩).ix
   if at'<=g.com then ((0,9),g) else ((at',0),{ g with l:=g.l.take (at' - g.b.ix - 1).toNat++l.drop k })
def Lg.merge (g:Lg) (i t:Int) (l:List Ey):(Int × Int) × Lg:=
 if l.any oddE||!folE l i t then ((0,1),g)
 else if i<g.b.ix then
  (if i<=g.b.ix - l.length then ((0,0),g)
  else let l':=l.drop (g.b.ix - i).toNat
   if (l'.getD 0 ⟨0,0,0,[]⟩).tm<g.b.tm then ((0,7),g) else g.mergeAt g.b.ix g.b.tm l')
 else g.mergeAt i t l
def Lg.commit (g:Lg) (i:Int):Int × Lg:=if i<g.com\/i>g.last then (7,g) else (0,{ g with com:=i })
def Lg.apply (g:Lg) (i:Int):Int × Lg:=if i<g.app\/i>g.com then (7,g) else (0,{ g with app:=i })
def Lg.compact (g:Lg) (i:Int):Int × Lg:=if i<g.b.ix\/i>g.app then (7,g) else (0,{ g with b:={ g.at i with dt:=[] },l:=g.l.drop (i - g.b.ix).toNat })
def Lg.reset (g:Lg) (i t:Int):Int × Lg:=if !(inIx i && inIx t) then (1,g) else if i<g.com then (7,g) else (0,Lg.new i t)
def Lg.backF (g:Lg) (t:Int):Nat->Int->Int
 |0,_=>g.b.ix
 |n + 1,k=>if k>g.b.ix then (if (g.term k).1<=t then k else g.backF t n (k - 1)) else g.b.ix
def Lg.back (g:Lg) (i t:Int):Int:=g.backF t ((min i g.last) - g.b.ix).toNat (min i g.last)
def OkE:List Ey->Int->Int->Prop
 |[],_,_=>True
 |x::l,i,t=>x.ix=i + 1/\t<=x.tm/\oddE x=false/\OkE l x.ix x.tm
structure ZD (g:Lg):Prop where
 b0:0<=g.b.ix
 b1:g.b.ix<=1099511627776
 t0:0<=g.b.tm
 t1:g.b.tm<=1099511627776
 es:OkE g.l g.b.ix g.b.tm
 c0:g.b.ix<=g.com
 c1:g.com<=g.last
 a0:g.b.ix<=g.app
 a1:g.app<=g.com
theorem oddE_no {e:Ey} (h:oddE e=false):1<=e.ix/\e.ix<=1099511627776/\0<=e.tm/\e.tm<=1099511627776/\0<=e.kd/\e.kd<=7/\e.dt.length<=4096:=by
 unfold oddE inIx at h;simp only [Bool.or_eq_false_iff,decide_eq_false_iff_not,Bool.not_eq_false',decide_eq_true_eq] at h;omega
theorem OkE.of_fol:∀ {l:List Ey} {i t:Int},l.any oddE=false->folE l i t=true->OkE l i t
 |[],_,_,_,_=>trivial
 |x::l,i,t,h,hf=>by
  rw [List.any_cons,Bool.or_eq_false_iff] at h;unfold folE at hf;split at hf
  ·cases hf
  ·rename_i hh
   exact ⟨by omega,by omega,h.1,OkE.of_fol h.2 hf⟩
theorem OkE.fol:∀ {l:List Ey} {i t:Int},OkE l i t->l.any oddE=false/\folE l i t=true
 |[],_,_,_=>⟨rfl,rfl⟩
 |x::l,i,t,⟨h1,h2,h3,h4⟩=>by
  have:=OkE.fol h4;refine ⟨by rw [List.any_cons,h3,this.1];rfl,?_⟩;unfold folE;rw [if_neg (by omega)];exact this.2
theorem OkE.ix:∀ {l:List Ey} {i t:Int},OkE l i t->∀ k (h:k<l.length),l[k].ix=i + 1 + k
 |[],_,_,_,k,h=>by simp at h
 |x::l,i,t,⟨h1,_,_,h4⟩,0,_=>by simp [h1]
 |x::l,i,t,⟨h1,_,_,h4⟩,k + 1,h=>by
  have:=OkE.ix h4 k (by simpa using h);rw [List.getElem_cons_succ,this];omega
theorem OkE.no:∀ {l:List Ey} {i t:Int},OkE l i t->∀ x∈l,oddE x=false
 |_::_,_,_,⟨_,_,h3,h4⟩,y,hy=>(List.mem_cons.1 hy).elim (λ e=>e ▸ h3) (OkE.no h4 y)
def lastE (b:Ey) (l:List Ey):Ey:=l.getLastD b
theorem ZbH (b x:Ey) (l:List Ey):lastE b (x::l)=lastE x l:=by cases l<;>rfl
theorem OkE.app:∀ {l m:List Ey} {b:Ey},OkE l b.ix b.tm->OkE m (lastE b l).ix (lastE b l).tm->OkE (l++m) b.ix b.tm
 |[],m,b,_,h=>h
 |x::l,m,b,⟨h1,h2,h3,h4⟩,h=>⟨h1,h2,h3,OkE.app (b:=x) h4 (by rwa [ZbH] at h)⟩
theorem OkE.left:∀ {l m:List Ey} {b:Ey},OkE (l++m) b.ix b.tm->OkE l b.ix b.tm
 |[],_,_,_=>trivial
 |_::_,_,_,⟨h1,h2,h3,h4⟩=>⟨h1,h2,h3,OkE.left h4⟩
theorem OkE.right:∀ {l m:List Ey} {b:Ey},OkE (l++m) b.ix b.tm->OkE m (lastE b l).ix (lastE b l).tm
 |[],_,_,h=>h
 |x::l,m,b,⟨_,_,_,h4⟩=>by rw [ZbH];exact OkE.right (b:=x) h4
theorem OkE.last_ix:∀ {l:List Ey} {b:Ey},OkE l b.ix b.tm->(lastE b l).ix=b.ix + l.length
 |[],b,_=>by simp [lastE]
 |x::l,b,⟨h1,_,_,h4⟩=>by rw [ZbH,OkE.last_ix (b:=x) h4,h1,List.length_cons];omega
theorem OkE.top {l:List Ey} {b:Ey} (h:OkE l b.ix b.tm) (hb:b.ix<=1099511627776):b.ix + l.length<=1099511627776:=by
 have e:=h.last_ix;cases l with
 |nil=>simpa using hb
 |cons x l=>
  have hx:=oddE_no (h.no (lastE b (x::l)) (by rw [ZbH];cases l with
   |nil=>exact List.mem_cons_self
   |cons y l=>show (y::l).getLast _∈_;exact List.mem_cons_of_mem _ (List.getLast_mem _)))
  omega
theorem Lg.tail_eq (g:Lg):g.tail=lastE g.b g.l:=by
 obtain ⟨b,l,c,a⟩:=g;cases l<;>rfl
theorem ZD.last_le {g:Lg} (h:ZD g):g.last<=1099511627776:=h.es.top h.b1
theorem ZD.len {g:Lg} (h:ZD g):(g.l.length:Int)<=1099511627776:=by
 have:=h.last_le;have:=h.b0;unfold Lg.last at *;omega
theorem ZD.tail_ix {g:Lg} (h:ZD g):g.tail.ix=g.last:=by rw [Lg.tail_eq,h.es.last_ix];rfl
theorem all_len (g:Lg):g.all.length=g.l.length + 1:=rfl
theorem Lg.at_eq {g:Lg} {i:Int} (h:g.has i=true):∃ h:(i - g.b.ix).toNat<g.all.length,g.at i=g.all[(i - g.b.ix).toNat]:=by
 unfold Lg.has Lg.last at h;simp only [decide_eq_true_eq] at h;have hl:(i - g.b.ix).toNat<g.all.length:=by rw [all_len];omega
 exact ⟨hl,by unfold Lg.at;rw [List.getD_eq_getElem?_getD,List.getElem?_eq_getElem hl];rfl⟩
theorem ZD.at_ix {g:Lg} (h:ZD g) {i:Int} (hi:g.has i=true):(g.at i).ix=i:=by
 obtain ⟨hl,e⟩:=Lg.at_eq hi;rw [e];unfold Lg.has at hi;simp only [decide_eq_true_eq] at hi;have hd:∃ d:Nat,(i - g.b.ix).toNat=d:=⟨_,rfl⟩;obtain ⟨d,hd⟩:=hd;have:g.all[d]'(hd ▸ hl)=g.all[(i - g.b.ix).toNat]:=by simp only [hd]
 rw [<-this];cases d with
 |zero=>show g.b.ix=i;omega
 |succ d=>show (g.l[d]'_).ix=i;rw [h.es.ix d (by have:=hd ▸ hl;rw [all_len] at this;omega)];omega
theorem ZD.at_no {g:Lg} (h:ZD g) {i:Int} (hi:g.has i=true) (hb:g.b.ix<i):oddE (g.at i)=false:=by
 obtain ⟨hl,e⟩:=Lg.at_eq hi;rw [e];obtain ⟨d,hd⟩:∃ d:Nat,(i - g.b.ix).toNat=d + 1:=⟨(i - g.b.ix).toNat - 1,by omega⟩;have:g.all[d + 1]'(hd ▸ hl)=g.all[(i - g.b.ix).toNat]:=by simp only [hd]
 rw [<-this];exact h.es.no _ (List.getElem_mem (l:=g.l) (n:=d) (by have:=hd ▸ hl;rw [all_len] at this;omega))
theorem ZdG:∀ (b:Ey) (l:List Ey) (m:Nat) (h:m<(b::l).length),lastE b (l.take m)=(b::l)[m]
 |b,l,0,_=>rfl
 |b,[],m + 1,h=>by simp at h
 |b,x::l,m + 1,h=>by rw [List.take_succ_cons,ZbH,ZdG x l m (by simpa using h)];rfl
theorem Lg.at_take {g:Lg} {i:Int} (h:g.has i=true):lastE g.b (g.l.take (i - g.b.ix).toNat)=g.at i:=by
 obtain ⟨hl,e⟩:=Lg.at_eq h;rw [ZdG _ _ _ (by simpa [Lg.all] using hl),e];rfl
theorem Lg.has_iff {g:Lg} {i:Int}:g.has i=true↔g.b.ix<=i/\i<=g.last:=by unfold Lg.has;simp
theorem Lg.term_is {g:Lg} {i:Int}:(g.term i).2=g.has i:=by
 unfold Lg.term;cases h:g.has i<;>simp
theorem Lg.term_at {g:Lg} {i:Int} (h:g.has i=true):(g.term i).1=(g.at i).tm:=by
 unfold Lg.term;rw [if_pos h]
theorem Lg.like {g:Lg} {x:Ey} (h:g.unlike x=false):g.has x.ix=true/\(g.at x.ix).tm=x.tm:=by
 unfold Lg.unlike at h;simp only [Bool.not_eq_false',Bool.and_eq_true,beq_iff_eq] at h;have:=Lg.term_is (g:=g) (i:=x.ix);rw [h.1] at this;exact ⟨this.symm,by rw [<-Lg.term_at this.symm];exact h.2⟩
theorem ZD.new {i t:Int} (hi:inIx i=true) (ht:inIx t=true):ZD (Lg.new i t):=by
 unfold inIx at hi ht;simp only [decide_eq_true_eq] at hi ht;exact ⟨hi.1,hi.2,ht.1,ht.2,trivial,Int.le_refl _,by simp [Lg.new,Lg.last],Int.le_refl _,Int.le_refl _⟩
theorem ZD.added {g:Lg} (h:ZD g) {l:List Ey} (ho:OkE l g.last g.tail.tm):ZD { g with l:=g.l++l }:=by
 refine ⟨h.b0,h.b1,h.t0,h.t1,?_,h.c0,?_,h.a0,h.a1⟩
 ·refine OkE.app h.es ?_
  show OkE l (lastE g.b g.l).ix (lastE g.b g.l).tm;rw [<-Lg.tail_eq,h.tail_ix];exact ho
 ·have:=h.c1;unfold Lg.last at *;simp only [List.length_append];omega
theorem ZD.add {g:Lg} (h:ZD g) (l:List Ey):ZD (g.add l).2:=by
 unfold Lg.add;split
 ·exact h
 ·split
  ·rename_i h1 h2
   exact h.added (OkE.of_fol (by simpa using h1) h2)
  ·exact h
theorem OkE.at:∀ {l:List Ey} {i t:Int} {k:Nat},OkE l i t->(h:k<=l.length)->OkE (l.drop k) (lastE ⟨i,t,0,[]⟩ (l.take k)).ix (lastE ⟨i,t,0,[]⟩ (l.take k)).tm:=λ {l i t k} h hk=>by
 have e:=List.take_append_drop k l;exact OkE.right (b:=⟨i,t,0,[]⟩) (by rw [e];exact h)
theorem ZD.mergeAt {g:Lg} (h:ZD g) {i t:Int} {l:List Ey} (ho:OkE l i t):ZD (g.mergeAt i t l).2:=by
 unfold Lg.mergeAt;split
 ·exact h
 ·rename_i hu
  have hlk:=Lg.like (g:=g) (x:=⟨i,t,0,[]⟩) (by simpa using hu);split
  ·exact h
  ·rename_i k hk
   dsimp only;split
   ·exact h
   ·rename_i hc
    obtain ⟨hk1,hk2,hk3⟩:=List.findIdx?_eq_some_iff_getElem.1 hk;have ea:(l.getD k ⟨0,0,0,[]⟩).ix=i + 1 + k:=by rw [List.getD_eq_getElem?_getD,List.getElem?_eq_getElem hk1];exact ho.ix k hk1
    rw [ea] at hc ⊢
    -- the place ahead is there, of the same term
    have hp:g.has (i + k)=true/\(g.at (i + k)).tm=(lastE ⟨i,t,0,[]⟩ (l.take k)).tm/\(lastE ⟨i,t,0,[]⟩ (l.take k)).ix=i + k:=by
     cases k with
     |zero=>exact ⟨by simpa using hlk.1,by simpa [lastE] using hlk.2,by simp [lastE]⟩
     |succ k=>
      have hk':k<l.length:=by omega
      have:=hk3 k (by omega);have:=Lg.like (g:=g) (x:=l[k]) (by simpa using this);rw [ho.ix k hk'] at this;have e2:lastE ⟨i,t,0,[]⟩ (l.take (k + 1))=l[k]:=ZdG ⟨i,t,0,[]⟩ l (k + 1) (by simp only [List.length_cons];omega);rw [e2,ho.ix k hk',show i + ((k + 1:Nat):Int)=i + 1 + k by omega];exact ⟨this.1,this.2,rfl⟩
    obtain ⟨hp1,hp2,hp3⟩:=hp;have hp4:=Lg.has_iff.1 hp1;have hc0:=h.c0;refine ⟨h.b0,h.b1,h.t0,h.t1,?_,h.c0,?_,h.a0,h.a1⟩
    ·show OkE (g.l.take _++l.drop k) _ _
     have em:(i + 1 + (k:Int) - g.b.ix - 1).toNat=(i + k - g.b.ix).toNat:=by congr 1;omega
     rw [em];have hl:OkE (g.l.take (i + k - g.b.ix).toNat) g.b.ix g.b.tm:=OkE.left (m:=g.l.drop (i + k - g.b.ix).toNat) (by rw [List.take_append_drop];exact h.es);refine OkE.app hl ?_;rw [Lg.at_take hp1,h.at_ix hp1,hp2];have:=OkE.at ho (Nat.le_of_lt hk1);rwa [hp3] at this
    ·show g.com<=g.b.ix + ((g.l.take _++l.drop k).length:Nat)
     unfold Lg.last at hp4;rw [List.length_append,List.length_take,List.length_drop];omega
theorem drop_fol:∀ {l:List Ey} {i t:Int} {k:Nat},OkE l i t->k<l.length->OkE (l.drop k) (i + k) (lastE ⟨i,t,0,[]⟩ (l.take k)).tm:=λ {l i t k} h hk=>by
 have:=OkE.at h (Nat.le_of_lt hk);have hl:OkE (l.take k) i t:=OkE.left (b:=⟨i,t,0,[]⟩) (m:=l.drop k) (by rw [List.take_append_drop];exact h);have e:=OkE.last_ix (b:=⟨i,t,0,[]⟩) hl;rw [List.length_take,Nat.min_eq_left (Nat.le_of_lt hk)] at e;rwa [e] at this
theorem OkE.low:∀ {l:List Ey} {i t t':Int},OkE l i t->(∀ x,l.head? =some x->t'<=x.tm)->OkE l i t'
 |[],_,_,_,_,_=>trivial
 |x::l,_,_,_,⟨h1,_,h3,h4⟩,h=>⟨h1,h x rfl,h3,h4⟩
theorem ZD.merge {g:Lg} (h:ZD g) (i t:Int) (l:List Ey):ZD (g.merge i t l).2:=by
 unfold Lg.merge;split
 ·exact h
 ·rename_i h1
  simp only [Bool.or_eq_true,Bool.not_eq_true',not_or,Bool.not_eq_true,Bool.not_eq_false] at h1;have ho:=OkE.of_fol h1.1 h1.2;split
  ·split
   ·exact h
   ·dsimp only
    split
    ·exact h
    ·rename_i h2 h3 h4
     refine h.mergeAt ?_;have hk:(g.b.ix - i).toNat<l.length:=by omega
     have:=drop_fol ho hk;rw [show i + (((g.b.ix - i).toNat:Nat):Int)=g.b.ix by omega] at this;refine this.low λ x hx=>?_;rw [List.getD_eq_getElem?_getD,<-List.head?_eq_getElem?,hx] at h4;simpa using h4
  ·exact h.mergeAt ho
theorem ZD.commit {g:Lg} (h:ZD g) (i:Int):ZD (g.commit i).2:=by
 unfold Lg.commit;split
 ·exact h
 ·have:=h.a1
  have:=h.c0;exact ⟨h.b0,h.b1,h.t0,h.t1,h.es,by show g.b.ix<=i;omega,by show i<=g.last;omega,h.a0,by show g.app<=i;omega⟩
theorem ZD.apply {g:Lg} (h:ZD g) (i:Int):ZD (g.apply i).2:=by
 unfold Lg.apply;split
 ·exact h
 ·have:=h.a0
  exact ⟨h.b0,h.b1,h.t0,h.t1,h.es,h.c0,h.c1,by show g.b.ix<=i;omega,by show i<=g.com;omega⟩
theorem ZD.compact {g:Lg} (h:ZD g) (i:Int):ZD (g.compact i).2:=by
 unfold Lg.compact;split
 ·exact h
 ·rename_i hh
  have h1:=h.a1;have h2:=h.c1;have hi:g.has i=true:=Lg.has_iff.2 ⟨by omega,by omega⟩;have e:=h.at_ix hi;have hl:=h.last_le;have hb:=h.b0;have hlen:(g.l.drop (i - g.b.ix).toNat).length=(g.last - i).toNat:=by rw [List.length_drop];unfold Lg.last;omega
  have hes:=OkE.at (i:=g.b.ix) (t:=g.b.tm) (k:=(i - g.b.ix).toNat) h.es (by unfold Lg.last at *;omega);have e3:∀ m:List Ey,(lastE ⟨g.b.ix,g.b.tm,0,[]⟩ m).ix=(lastE g.b m).ix/\(lastE ⟨g.b.ix,g.b.tm,0,[]⟩ m).tm=(lastE g.b m).tm:=λ m=>by cases m<;>exact ⟨rfl,rfl⟩
  rw [(e3 _).1,(e3 _).2,Lg.at_take hi] at hes;have ht:0<=(g.at i).tm/\(g.at i).tm<=1099511627776:=by
   by_cases hb:g.b.ix<i
   ·have:=oddE_no (h.at_no hi hb);omega
   ·have:i=g.b.ix:=by omega
    subst this;have e4:g.at g.b.ix=g.b:=by unfold Lg.at;simp [Lg.all]
    rw [e4];exact ⟨h.t0,h.t1⟩
  refine ⟨by show 0<=(g.at i).ix;omega,by show (g.at i).ix<=1099511627776;omega,ht.1,ht.2,hes,by show (g.at i).ix<=g.com;omega,?_,by show (g.at i).ix<=g.app;omega,h.a1⟩;show g.com<=(g.at i).ix + _;rw [hlen];omega
theorem ZD.reset {g:Lg} (h:ZD g) (i t:Int):ZD (g.reset i t).2:=by
 unfold Lg.reset;split
 ·exact h
 ·split
  ·exact h
  ·rename_i h1 _
   simp only [Bool.not_eq_true',Bool.not_eq_false,Bool.and_eq_true] at h1;exact ZD.new h1.1 h1.2
theorem Lg.get_in {g:Lg} {i m:Int}:∀ x∈g.get i m,x∈g.l:=λ x hx=>by
 unfold Lg.get at hx;split at hx
 ·cases hx
 ·rename_i h
  obtain ⟨d,hd⟩:∃ d:Nat,(i - g.b.ix).toNat=d + 1:=⟨(i - g.b.ix).toNat - 1,by omega⟩;rw [hd] at hx;exact List.mem_of_mem_drop (List.mem_of_mem_take (l:=g.l.drop d) hx)
theorem Lg.tail_at {g:Lg} {k:Nat} (h:k<g.all.length) (hk:k=g.l.length):g.all[k]=g.tail:=by
 subst hk;exact (List.getLast_eq_getElem (l:=g.all) (List.cons_ne_nil _ _)).symm
end Go.Rf
namespace Go.Proofs.YthpmfnffkjjlnaaGreat
section
open Go Go.VC Tryz
open Go.Rf (Ey Lg ZD)
variable {R R':Cx} {Hs Rest Rest2:List HP} {w:World}
theorem _root_.Go.VC.Sat.toTru {As:List HP} (hw:Sat R (As++Hs) w):Sat R (As++[VC.tru]) w:=by
 induction As generalizing R with
 |nil=>
  induction Hs generalizing R with
  |nil=>exact hw.tru
  |cons A Hs ih=>exact (hw.cons λ _ h=>ih h).absorb
 |cons A As ih=>exact hw.cons λ _ h=>ih h
theorem _root_.Go.VC.Sat.k1 {A:HP} {R1:List HP} (hw:Sat R Hs w) [a:Zfj A Hs R1]:Sat R [A,VC.tru] w:=Sat.toTru (As:=[A]) (hw.perm a.perm)
theorem _root_.Go.VC.Sat.k2 {A B:HP} {R1 R2:List HP} (hw:Sat R Hs w) [a:Zfj A Hs R1] [b:Zfj B R1 R2]:Sat R [A,B,VC.tru] w:=Sat.toTru (As:=[A,B]) ((hw.perm a.perm).cons λ _ h=>h.perm b.perm)
theorem _root_.Go.VC.ReadsN.eltM {n:Nat} {s:Sl} {α:Type} {E:List α} {g:α->List Value} {S:World->Prop} (h:ReadsN n s (E.map g) S) {k:Nat} (hk:k<E.length) {a:Addr} (ha:s.a=some a):Elt n S a k (g E[k]):=by
 have hr:=h.rngM hk (F:=λ a'=>s.a=some a'->Elt n S a' k (g E[k])) λ a' _ el _=>el;have h3:=hr.out.2.2;unfold Zb at h3;rw [ha] at h3;exact h3 rfl
theorem _root_.Go.VC.ReadsN.rngI {n:Nat} {s:Sl} {α:Type} {E:List α} {g:α->List Value} {S:World->Prop} {i:Int} (h:ReadsN n s (E.map g) S) (k:Nat) (hi:i=k) (hk:k<E.length) {F:Addr->Prop} (f:∀ a,s.a=some a->Elt n S a k (g E[k])->F a):Rng i s.len (Zb s.a F):=by
 subst hi;exact h.rngM hk f
abbrev DE4:=Sl × Ey
abbrev ZaC (e:DE4):List Value:=[.int .i64 e.2.ix,.int .i64 e.2.tm,.int .i64 e.2.kd,.slice e.1.a e.1.len e.1.cap]
abbrev Zio (e:DE4):Value:=.agg #[.int .i64 e.2.ix,.int .i64 e.2.tm,.int .i64 e.2.kd,.slice e.1.a e.1.len e.1.cap]
abbrev erE (ds:List DE4):List Ey:=ds.map (·.2)
def DsR (R:Cx) (ds:List DE4):Prop:=∀ e∈ds,SlR R.m e.1 (b8 e.2.dt)
theorem DsR.ext {ds:List DE4} (h:DsR R ds) (e:R.Ext R'):DsR R' ds:=λ x hx=>e.slR (h x hx)
theorem DsR.nil:DsR R []:=λ _ h=>by cases h
theorem DsR.app {a b:List DE4} (ha:DsR R a) (hb:DsR R b):DsR R (a++b):=λ x hx=>(List.mem_append.1 hx).elim (ha x) (hb x)
theorem DsR.one {e:DE4} (h:SlR R.m e.1 (b8 e.2.dt)):DsR R [e]:=λ x hx=>by simp at hx;subst hx;exact h
theorem DsR.take {a:List DE4} (ha:DsR R a) (n:Nat):DsR R (a.take n):=λ x hx=>ha x (List.mem_of_mem_take hx)
theorem DsR.drop {a:List DE4} (ha:DsR R a) (n:Nat):DsR R (a.drop n):=λ x hx=>ha x (List.mem_of_mem_drop hx)
theorem elE:ElN prog 46 46 52 4 48:=⟨underlying46,⟨_,underlying46⟩,by kernel_rfl⟩
theorem Zmg (e:DE4):Zah (ZaC e)=true:=rfl
theorem Zew (ds:List DE4):Zah (ds.map ZaC).flatten=true:=by
 unfold Zah;rw [List.all_eq_true];intro x hx;rw [List.mem_flatten] at hx;obtain ⟨r,hr,hx⟩:=hx;obtain ⟨e,_,rfl⟩:=List.mem_map.1 hr;exact List.all_eq_true.1 (Zmg e) x hx
theorem Zeg (ds:List DE4):Wid 4 (ds.map ZaC):=λ r hr=>by
 obtain ⟨e,_,rfl⟩:=List.mem_map.1 hr;rfl
abbrev Zao (s:Sl) (ds:List DE4):HP:=OwnN 4 s 52 (ds.map ZaC)
theorem ZgE {s:Sl} {ds:List DE4} (hw:Sat R Hs w) [te:Zfj (Zao s ds) Hs Rest2] {S:World->Prop} (hS:∀ w,S w->Sat R Hs w) {i:Int} (k:Nat) (hi:i=k) (hk:k<ds.length) {F:Addr->Prop}
  (f:∀ a,s.a=some a->Elt 4 S a k (ZaC ds[k])->F a):Rng i s.len (Zb s.a F):=
 (OwnN.readsM (T:=52) hw hS).rngI (g:=ZaC) k hi hk f
abbrev Zw (s:Sl) (com app:Int):Obj:=.cells [.slice s.a s.len s.cap,.int .i64 com,.int .i64 app].toArray 150 (0,0)
structure Zfa (R:Cx) (g:Lg) (ds:List DE4):Prop where
 e:erE ds=g.all
 d:DsR R ds
theorem Zfa.len {g:Lg} {ds:List DE4} (h:Zfa R g ds):ds.length=g.l.length + 1:=by
 have:=congrArg List.length h.e;simpa [Lg.all] using this
theorem Zfa.get {g:Lg} {ds:List DE4} (h:Zfa R g ds) {k:Nat} (hk:k<ds.length):∃ h2:k<g.all.length,ds[k].2=g.all[k]:=by
 have e:=h.e;have h2:k<g.all.length:=by rw [<-e,List.length_map];exact hk
 refine ⟨h2,?_⟩;have:(erE ds)[k]'(by rw [List.length_map];exact hk)=g.all[k]:=by simp only [e]
 rw [<-this,List.getElem_map]
theorem Zfa.ext {g:Lg} {ds:List DE4} (h:Zfa R g ds) (e:R.Ext R'):Zfa R' g ds:=⟨h.e,h.d.ext e⟩
def Zr (R:Cx) (p:Nat) (g:Lg):HP:=exs λ s:Sl=>exs λ ds:List DE4=>Zds [pur (Zfa R g ds),pts p (Zw s g.com g.app),Zao s ds]
theorem Zr.iff {R1:Cx} {p:Nat} {g:Lg}:Sat R (Zr R1 p g::Hs) w↔∃ s ds,Zfa R1 g ds/\Sat R (pts p (Zw s g.com g.app)::Zao s ds::Hs) w:=by
 constructor
 ·intro h
  obtain ⟨s,h⟩:=Sat.exs.1 h;obtain ⟨ds,h⟩:=Sat.exs.1 h;have h:=Sat.star.1 h;obtain ⟨h1,h⟩:=Sat.pur.1 h;exact ⟨s,ds,h1,h⟩
 ·rintro ⟨s,ds,h1,h⟩
  exact Sat.exs.2 ⟨s,Sat.exs.2 ⟨ds,Sat.star.2 (Sat.pur.2 ⟨h1,h⟩)⟩⟩
theorem Zr.ext {R1 R2:Cx} {p:Nat} {g:Lg} (hw:Sat R (Zr R1 p g::Hs) w) (e:R1.Ext R2):Sat R (Zr R2 p g::Hs) w:=by
 obtain ⟨s,ds,h,hw⟩:=Zr.iff.1 hw;exact Zr.iff.2 ⟨s,ds,h.ext e,hw⟩
theorem ZbM {n:Int} (hw:Sat R Hs w):Zj prog 83 #[.int .i64 n] w λ v w'=>v=.bool (Rf.inIx n)/\Sat R Hs w':=by
 apply ZpC;unfold Rf.inIx;refine Br.d (λ h=>⟨?_,hw⟩) (λ h=>⟨?_,hw⟩)
 ·by_cases h2:n<=1099511627776
  ·rw [decide_eq_true h2,decide_eq_true ⟨h,h2⟩]
  ·rw [decide_eq_false h2,decide_eq_false (λ h=>h2 h.2)]
 ·rw [decide_eq_false (λ h2=>h h2.1)]
section
variable {p:Nat} {g:Lg} {s:Sl} {com app:Int} {ds:List DE4} [tk:Zbk p Hs (Zw s com app) Rest] [te:Zfj (Zao s ds) Hs Rest2]
include tk te
theorem ZaO (hi:Zfa R' g ds) (hw:Sat R Hs w):Zj prog 99 #[.pointer (some ⟨p,0,none⟩)] w λ v w'=>v=.int .i64 g.b.ix/\Sat R Hs w':=by
 apply Zpm;refine Zb.mk rfl ⟨s,At.own (eqS hw) (by exact ⟨rfl,trivial⟩),?_⟩;refine ZgE hw (eqS hw) (ds:=ds) 0 rfl (by rw [hi.len];omega) λ a _ el=>⟨_,el.zz (by exact ⟨rfl,trivial⟩),?_,hw⟩;rw [(hi.get (k:=0) (by rw [hi.len];omega)).2];rfl
theorem Zcg (hi:Zfa R' g ds) (ok:ZD g) (hw:Sat R Hs w):Zj prog 39 #[.pointer (some ⟨p,0,none⟩)] w λ v w'=>v=.int .i64 g.last/\Sat R Hs w':=by
 apply Zp3;refine Zm hw λ w hw=>Zb.mk rfl ⟨s,At.own Zf (by exact ⟨rfl,trivial⟩),?_⟩;refine (ZaO hi hw).use ?_;rintro _ w ⟨rfl,hw⟩;refine ⟨_,rfl,hw,?_,hw⟩;have hl:=ok.last_le;have h0:=ok.b0;have hsl:s.len=ds.length:=by
  have:=OwnN.len (hw.perm te.perm);simpa using this
 unfold Lg.last at *;rw [hsl,hi.len,Zh (x:=g.b.ix + _) (by omega) (by omega)];rw [Zh (by omega) (by omega)]
 congr 1;omega
theorem Zj0 (hi:Zfa R' g ds) (ok:ZD g) (hw:Sat R Hs w):Zj prog 157 #[.pointer (some ⟨p,0,none⟩)] w λ v w'=>v=.int .i64 (g.b.ix + 1)/\Sat R Hs w':=by
 apply Zol;refine (ZaO hi hw).use ?_;rintro _ w ⟨rfl,hw⟩;have h0:=ok.b0;have h1:=ok.b1;refine ⟨_,rfl,?_,hw⟩;rw [Zh (by omega) (by omega)]
theorem Zi3 (hi:Zfa R' g ds) (ok:ZD g) (i:Int) (hw:Sat R Hs w):Zj prog 114 #[.pointer (some ⟨p,0,none⟩),.int .i64 i] w λ v w'=>v=.bool (g.has i)/\Sat R Hs w':=by
 apply Zoz;refine (ZaO hi hw).use ?_;rintro _ w ⟨rfl,hw⟩;unfold Lg.has;refine ⟨_,rfl,Br.d (λ h=>?_) (λ h=>⟨?_,hw⟩)⟩
 ·refine (Zcg hi ok hw).use ?_
  rintro _ w ⟨rfl,hw⟩;refine ⟨_,rfl,?_,hw⟩;by_cases h2:i<=g.last
  ·rw [decide_eq_true h2,decide_eq_true ⟨h,h2⟩]
  ·rw [decide_eq_false h2,decide_eq_false (λ h=>h2 h.2)]
 ·rw [decide_eq_false (λ h2=>h h2.1)]
theorem ZeL (hi:Zfa R' g ds) (ok:ZD g) {i:Int} (h:g.has i=true) (hw:Sat R Hs w):Zj prog 115 #[.pointer (some ⟨p,0,none⟩),.int .i64 i] w λ v w'=>
  v=.slice (ZbB s.a (i - g.b.ix).toNat s.cap 4) (s.len - (i - g.b.ix).toNat) (s.cap - (i - g.b.ix).toNat)/\Sat R Hs w':=by
 apply Zoy;refine Zm hw λ w hw=>Zb.mk rfl ⟨s,At.own Zf (by exact ⟨rfl,trivial⟩),?_⟩;refine (ZaO hi hw).use ?_;rintro _ w ⟨rfl,hw⟩;have hsl:s.len=ds.length:=by
  have:=OwnN.len (hw.perm te.perm);simpa using this
 have hl:=hi.len;have hh:=Rf.Lg.has_iff.1 h;have h0:=ok.b0;have h1:=ok.last_le;unfold Lg.last at *;refine ⟨_,rfl,hw,?_⟩;rw [Zh (by omega) (by omega)];exact ⟨by omega,by omega,rfl,hw⟩
end
end
section
open Go Go.VC Tryz
open Go.Rf (Ey Lg ZD)
variable {R R' R1:Cx} {Hs Rest Rest2:List HP} {w:World}
theorem _root_.Go.VC.ReadsN.take {n:Nat} {s:Sl} {rows:List (List Value)} {S:World->Prop} (h:ReadsN n s rows S) {m:Nat} (hm:m<=rows.length) (c:Nat):ReadsN n ⟨s.a,m,c⟩ (rows.take m) S:=
 ⟨by simp;omega,λ k hk=>by
  rw [List.length_take] at hk;obtain ⟨b,off,ha,hb⟩:=h.2 k (by omega);exact ⟨b,off,ha,λ j vs hp=>hb j vs (by rwa [List.getElem_take] at hp)⟩⟩
theorem _root_.Go.VC.ReadsN.sub {n:Nat} {s:Sl} {rows:List (List Value)} {S:World->Prop} (h:ReadsN n s rows S) {l m:Nat} (hl:l<=rows.length) (hm:m=l->rows.length=l) (c:Nat):ReadsN n ⟨ZbB s.a l m n,s.len - l,c⟩ (rows.drop l) S:=
 ⟨by simp [h.1],λ k hk=>by
  rw [List.length_drop] at hk;obtain ⟨b,off,ha,hb⟩:=h.2 (l + k) (by omega);refine ⟨b,off + l * n,?_,λ j vs hp=>?_⟩
  ·unfold ZbB
   rw [if_neg (λ e=>by have:=hm e;omega),ha];simp [ZG]
  ·rw [List.getElem_drop] at hp
   have:=hb j vs hp;rwa [show off + ((l + k) * n + j)=off + l * n + (k * n + j) by rw [Nat.add_mul];omega] at this⟩
structure Rdg (R:Cx) (A:HP) (n:Nat) (s:Sl) (rows:List (List Value)):Prop where
 r:∀ {R':Cx},R.Ext R'->∀ {Hs Hs':List HP} {w:World} {S:World->Prop},Sat R' (A::Hs) w->(∀ w,S w->Sat R' (A::Hs') w)->ReadsN n s rows S
theorem Rdg.own {n:Nat} {s:Sl} {T:TypeId} {rows:List (List Value)}:Rdg R (OwnN n s T rows) n s rows:=⟨λ _ _ _ _ _ hw hS=>OwnN.reads hw hS⟩
theorem Rdg.ro {n:Nat} {s:Sl} {A:HP} {rows:List (List Value)} (h:RoN n R s rows):Rdg R A n s rows:=⟨λ e _ _ _ _ _ hS=>(e.roN h).reads hS⟩
theorem Rdg.take {A:HP} {n:Nat} {s:Sl} {rows:List (List Value)} (h:Rdg R A n s rows) {m:Nat} (hm:m<=rows.length) (c:Nat):Rdg R A n ⟨s.a,m,c⟩ (rows.take m):=⟨λ e _ _ _ _ hw hS=>(h.r e hw hS).take hm c⟩
theorem Rdg.sub {A:HP} {n:Nat} {s:Sl} {rows:List (List Value)} (h:Rdg R A n s rows) {l m:Nat} (hl:l<=rows.length) (hm:m=l->rows.length=l) (c:Nat):Rdg R A n ⟨ZbB s.a l m n,s.len - l,c⟩ (rows.drop l):=⟨λ e _ _ _ _ hw hS=>(h.r e hw hS).sub hl hm c⟩
theorem Rdg.ext {A:HP} {n:Nat} {s:Sl} {rows:List (List Value)} (h:Rdg R A n s rows) (e:R.Ext R'):Rdg R' A n s rows:=⟨λ e2=>h.r (e.trans e2)⟩
theorem Rdg.rng {A:HP} {s:Sl} {ds:List DE4} (h:Rdg R A 4 s (ds.map ZaC)) (e:R.Ext R') (hw:Sat R' (A::Hs) w) {S:World->Prop} {Hs':List HP} (hS:∀ w,S w->Sat R' (A::Hs') w) {i:Int} (k:Nat) (hi:i=k) (hk:k<ds.length) {F:Addr->Prop}
  (f:∀ a,s.a=some a->Elt 4 S a k (ZaC ds[k])->F a):Rng i s.len (Zb s.a F):=(h.r e hw hS).rngI (g:=ZaC) k hi hk f
theorem Rdg.len {A:HP} {s:Sl} {ds:List DE4} (h:Rdg R A 4 s (ds.map ZaC)) (hw:Sat R (A::Hs) w):s.len=ds.length:=by
 have:=(h.r .refl hw (S:=λ w=>Sat R (A::Hs) w) λ _ h=>h).1;simpa using this
section
variable {p:Nat} {g:Lg} {s:Sl} {com app:Int} {ds:List DE4} [tk:Zbk p Hs (Zw s com app) Rest] [te:Zfj (Zao s ds) Hs Rest2]
include tk te
omit tk te in
theorem Zfa.at {R':Cx} (hi:Zfa R' g ds) {i:Int} (h:g.has i=true):∃ hk:(i - g.b.ix).toNat<ds.length,ds[(i - g.b.ix).toNat].2=g.at i:=by
 have hh:=Rf.Lg.has_iff.1 h;unfold Lg.last at hh;have hk:(i - g.b.ix).toNat<ds.length:=by rw [hi.len];omega
 obtain ⟨h1,h2⟩:=hi.get hk;obtain ⟨h3,h4⟩:=Rf.Lg.at_eq h;exact ⟨hk,by rw [h2,h4]⟩
theorem Zdd (hi:Zfa R' g ds) (ok:ZD g) (i:Int) (hw:Sat R Hs w):Zj prog 100 #[.pointer (some ⟨p,0,none⟩),.int .i64 i] w λ v w'=>v=.tuple #[.int .i64 (g.term i).1,.bool (g.term i).2]/\Sat R Hs w':=by
 apply ZoK;refine (Zi3 hi ok i hw).use ?_;rintro _ w ⟨rfl,hw⟩;refine ⟨_,rfl,Br.nb (λ h=>⟨?_,hw⟩) (λ h=>?_)⟩
 ·unfold Lg.term;rw [h];rfl
 ·refine (ZeL hi ok h hw).use ?_
  rintro _ w ⟨rfl,hw⟩;refine ⟨⟨ZbB s.a (i - g.b.ix).toNat s.cap 4,_,_⟩,rfl,?_⟩;obtain ⟨hk,hd⟩:=hi.at h;have hw2:=hw.perm te.perm;have hc:=OwnN.cap (by omega) hw2;have hsl:s.len=ds.length:=by have:=OwnN.len hw2;simpa using this
  have hr:=(OwnN.readsM (n:=4) (s:=s) (T:=52) (rows:=ds.map ZaC) hw (eqS hw)).sub (m:=s.cap) (l:=(i - g.b.ix).toNat) (by rw [List.length_map];omega) (by rw [List.length_map];omega) (s.cap - (i - g.b.ix).toNat);rw [<-List.map_drop] at hr;refine hr.rngI (g:=ZaC) 0 rfl (by rw [List.length_drop];omega) λ a _ el=>?_;refine ⟨(g.at i).tm,el.f 1 (by rw [List.getElem_drop];refine ⟨?_,trivial⟩;rw [<-hd];rfl),?_,hw⟩;unfold Lg.term;rw [if_pos h]
end
theorem Zbt {P:Program} {n bytes b:Nat} {t1 t2 ty T T':TypeId} {fr:Nat × Nat} {s:Sl} (E:ElN P t1 t2 T n bytes) {rows:List (List Value)} {x:List Value} {K:Sl->World->Prop}
  (hw:Sat R (OwnN n s T rows::pts b (.cells x.toArray T' fr)::Hs) w) (hx:x.length=n) (h1:Zah x=true) (hb:2 * (rows.length + 1) * bytes<=281474976710656) (hb':rows.length + 1<=9223372036854775807)
  (k:∀ s' w',Sat R (OwnN n s' T (rows++[x])::Hs) w'->K s' w'):
  ∃ w',∃ t:Sl,(Builtin.append_ #[t1,t2] ty #[.slice s.a s.len s.cap,.slice (some ⟨b,0,none⟩) 1 1]).run P w=.ok (.slice t.a t.len t.cap) w'/\K t w':=
 ZaZ E hw (Zjg E.hk 1 hw hx h1) (λ r hr=>by simp at hr;subst hr;exact hx) hb hb' λ s' w' h=>k s' w' (h.cons λ _ h=>h.drop)
def ZoS (R:Cx) (Hs:List HP) (es:List Ey) (v:Value) (w:World):Prop:=∃ R' t ds',R.Ext R'/\DsR R' ds'/\erE ds'=es/\v=.slice t.a t.len t.cap/\Sat R' (Zao t ds'::Hs) w
theorem Zc5 {A:HP} {s:Sl} {ds:List DE4} (hr:Rdg R A 4 s (ds.map ZaC)) (hd:DsR R ds) (hl:ds.length<=1099511627777) (hb:∀ e∈ds,e.2.dt.length<=1099511627776) (hw:Sat R (A::Hs) w):
  Zj prog 87 #[.slice s.a s.len s.cap] w (ZoS R (A::Hs) (erE ds)):=by
 apply Zpy;have hsl:=hr.len hw;refine ⟨λ out i w=>∃ (k:Nat) (R':Cx) (ds':List DE4),i=k/\k<=ds.length/\R.Ext R'/\DsR R' ds'/\erE ds'=erE (ds.take k)/\Sat R' (Zao out ds'::A::Hs) w,λ _ i _=>ds.length - i.toNat,
  ⟨0,R,[],rfl,Nat.zero_le _,.refl,.nil,rfl,OwnN.nil hw⟩,?_⟩
 clear hw;rintro _ out _ w ⟨k,R1,ds',rfl,hk,e1,hd1,he,hw⟩;refine Br.d (λ h=>?_) (λ h=>?_)
 ·have hk':k<ds.length:=by omega
  refine hr.rng e1 hw.swap (λ w h=>(eqS hw w h).swap) k rfl hk' λ a _ el=>?_;refine ⟨_,_,_,_,el.z (by exact ⟨rfl,rfl,rfl,rfl,trivial⟩),Zd hw λ b w hw=>?_⟩;refine Za hw (by kernel_rfl) rfl (by simp [Value.cells,Zc]) λ w hw=>?_;refine ⟨_,At.own (eqS hw) (by exact ⟨rfl,trivial⟩),?_⟩;have hx:=e1.slR (hd _ (List.getElem_mem hk'));have hbl:=hb _ (List.getElem_mem hk');refine (ZcD (hx.ro (by rw [List.length_map];omega)) (by omega) hw).use ?_;clear hw;rintro _ w ⟨t,rfl,hw⟩;refine ⟨t,rfl,?_⟩;obtain ⟨R2,e2,ht,hw⟩:=Own.leak hw;refine Za hw (by kernel_rfl) rfl (by simp [Value.cells,Zc]) λ w hw=>?_;refine ⟨_,_,_,_,At.own (eqS hw) (by exact ⟨rfl,rfl,rfl,rfl,trivial⟩),Zd hw λ b2 w hw=>?_⟩;have hw:Sat R2 (pts b2 (.cells (ZaC (t,ds[k].2)).toArray 52 (0,0))::pts b (.cells (ZaC (t,ds[k].2)).toArray 52 (0,0))::Zao out ds'::A::Hs) w:=hw;have hw:Sat R2 (Zao out ds'::pts b2 (.cells (ZaC (t,ds[k].2)).toArray 52 (0,0))::pts b (.cells (ZaC (t,ds[k].2)).toArray 52 (0,0))::A::Hs) w:=hw.arr;have hlen:ds'.length=k:=by have:=congrArg List.length he;simp at this;omega
  refine Zbt elE hw rfl rfl (by rw [List.length_map];omega) (by rw [List.length_map];omega) λ s2 w hw=>?_;rw [Zh (by omega) (by omega)];refine ⟨⟨k + 1,R2,ds'++[(t,ds[k].2)],by omega,hk',e1.trans e2,(hd1.ext e2).app (.one ht),?_,?_⟩,by dsimp only;omega⟩
  ·rw [List.take_succ_eq_append_getElem hk']
   simp only [erE,List.map_append] at he ⊢;rw [he];rfl
  ·unfold Zao;rw [List.map_append];exact hw.cons λ _ h=>h.drop
 ·have:k=ds.length:=by omega
  subst this;rw [List.take_length] at he;exact ⟨R1,out,ds',e1,hd1,he,rfl,hw⟩
end
end Go.Proofs.YthpmfnffkjjlnaaGreat
