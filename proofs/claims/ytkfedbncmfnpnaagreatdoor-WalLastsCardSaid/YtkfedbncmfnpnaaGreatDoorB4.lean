/- A log on a disk: its segments, how they are loaded; plain. No program. No condition. -/
import Derived.Test.YtkfedbncmfnpnaaGreatDoorB3
import Derived.Test.YtkfedbncmfnpnaaGreatDoorB2
import Derived.Laws.MakeOwn
import Derived.Maps.RangeRun
import Derived.Shelf.Strings.Builder1
import Derived.Shelf.Strings.Builder2
import Derived.Shelf.Small.Bits
import Derived.Shelf.Small.Wraps
import Derived.Shelf.Strings.BuilderF
import Derived.Shelf.Strconv.Atoi
import Derived.Shelf.Strconv.Itoa0
import Derived.Shelf.Strconv.Itoa1
import Derived.Shelf.LaysM
import Derived.Shelf.Strconv.Itoa2
import Derived.Shelf.Strconv.Itoa3
import Derived.Shelf.Sort.Plain
import Derived.Shelf.GgClosure.StringsIndexFunc
import Derived.Ground.GgwProg
import Derived.Shelf.GgClosure.StringsIndexFuncTop
import Derived.Shelf.Strings.Prefix
import Derived.Shelf.Bits.Mul64
import Derived.Shelf.Strings.Repeat
import Derived.Shelf.Slices.In.SortNone
import Derived.Test.YtkfedbncmfnpnaaGreatDoorProg
import Derived.Lib.ItoaNum
import Derived.Lib.Repeat
import Derived.Lib.Atoi
import Derived.Lib.LaidTab
import Derived.Lib.Strings
import Derived.Lib.SmallJoins
namespace Go.VC
set_option linter.unusedVariables false
set_option linter.unusedSimpArgs false
structure Sg where
  num:Nat
  next:Int
  size:Int
structure Ld where
  g:Lg
  segs:List Sg
  amiss:Option Sg
  behind:List Nat
def runL:Lg→Int→List (List Int)→Lg × Option Int
  |g,_,[]=>(g,none)
  |g,d,x::xs=>match changeL g x with
    |none=>(g,some d)
    |some g'=>runL g' (d + (8 + x.length)) xs
def nextOfSeg (prev:Option Nat) (n:Nat) (l:List (List Int)):Int:=
  match l with
  |[]=>0
  |h::_=>if prev=none∨prev.map (· + 1)=some n then headL h n else 0
def headB (n:Nat) (next:Int):List Int:=recB (hdB n next)
def loadL (rd:Nat→List Int):Option Nat→Lg→List Sg→List Nat→Ld
  |_,g,segs,[]=>⟨g,segs,none,[]⟩
  |prev,g,segs,n::rest=>
    let l:=scan (rd n)
    let next:=nextOfSeg prev n l
    if next=0∨(prev≠none∧next≠g.last + 1) then ⟨g,segs,some ⟨n,next,0⟩,rest⟩
    else
      let g1:Lg:=if prev=none then ⟨next - 1,g.l⟩ else g
      let segs1:=segs++[⟨n,next,(rd n).length⟩]
      match runL g1 (headB n next).length l.tail with
      |(g2,some d)=>⟨g2,segs1,some ⟨n,next,d⟩,rest⟩
      |(g2,none)=>if scanLen l=(rd n).length then loadL rd (some n) g2 segs1 rest else ⟨g2,segs1,some ⟨n,next,scanLen l⟩,rest⟩
theorem runL_all {b:List (List Int)}:∀ {g g':Lg} {d:Int},runs g b=some g'→runL g d b=(g',none):=by
  induction b with
  |nil=>intro g g' d h;cases h;rfl
  |cons x b ih=>
    intro g g' d h
    unfold runs at h
    unfold runL
    split at h
    · cases h
    · rename_i g1 h1
      first
        |(rw [h1];exact ih h)
        |exact ih h
theorem runL_cut {b:List (List Int)}:∀ {g g':Lg} {d e:Int},runL g d b=(g',some e)→∃ a x c,b=a++x::c∧runs g a=some g'∧e=d + scanLen a:=by
  induction b with
  |nil=>intro g g' d e h;cases h
  |cons x b ih=>
    intro g g' d e h
    unfold runL at h
    split at h
    · rename_i h1
      cases h
      exact ⟨[],x,b,rfl,rfl,by simp [scanLen]⟩
    · rename_i g1 h1
      obtain ⟨a,y,c,rfl,hr,rfl⟩:=ih h
      refine ⟨x::a,y,c,rfl,?_,?_⟩
      · unfold runs;rw [h1];exact hr
      · rw [scanLen_cons];omega
structure Sc where
  num:Nat
  next:Int
  bs:List (List Int)
def Sc.recs (c:Sc):List (List Int):=hdB c.num c.next::c.bs
def Sc.bytes (c:Sc):List Int:=recsB c.recs
def Sc.sg (c:Sc):Sg:=⟨c.num,c.next,c.bytes.length⟩
structure Sc.Ok (c:Sc):Prop where
  n0:1≤c.num
  n1:c.num≤99999999
  x0:1≤c.next
  x1:c.next≤1099511627777
  bs:∀ b∈c.bs,BodyOk b
theorem Sc.Ok.recs {c:Sc} (h:c.Ok):∀ b∈c.recs,BodyOk b:=fun b hb=>by
  rcases List.mem_cons.1 hb with rfl|hb
  · exact hdB_ok h.n1 h.x1
  · exact h.bs b hb
theorem Sc.Ok.scan {c:Sc} (h:c.Ok):scan c.bytes=c.recs:=scan_recs h.recs
inductive Chain:Option Nat→Lg→List Sc→Lg→Prop
  |nil {p:Option Nat} {g:Lg}:Chain p g [] g
  |first {g0 g1 g2:Lg} {c:Sc} {cs:List Sc}:c.Ok→g0.l=[]→runs ⟨c.next - 1,[]⟩ c.bs=some g1→Chain (some c.num) g1 cs g2→Chain none g0 (c::cs) g2
  |more {p:Nat} {g g1 g2:Lg} {c:Sc} {cs:List Sc}:c.Ok→c.num=p + 1→c.next=g.last + 1→runs g c.bs=some g1→Chain (some c.num) g1 cs g2→Chain (some p) g (c::cs) g2
def lastNum:Option Nat→List Sc→Option Nat
  |p,[]=>p
  |_,c::cs=>lastNum (some c.num) cs
theorem Chain.app {a b:List Sc}:∀ {p:Option Nat} {g g1 g2:Lg},Chain p g a g1→Chain (lastNum p a) g1 b g2→Chain p g (a++b) g2:=by
  induction a with
  |nil=>intro p g g1 g2 h h2;cases h;exact h2
  |cons c a ih=>
    intro p g g1 g2 h h2
    cases h with
    |first ho hl hr hc=>exact .first ho hl hr (ih hc h2)
    |more ho hn hx hr hc=>exact .more ho hn hx hr (ih hc h2)
theorem Chain.split {a b:List Sc}:∀ {p:Option Nat} {g g2:Lg},Chain p g (a++b) g2→∃ g1,Chain p g a g1∧Chain (lastNum p a) g1 b g2:=by
  induction a with
  |nil=>intro p g g2 h;exact ⟨g,.nil,h⟩
  |cons c a ih=>
    intro p g g2 h
    cases h with
    |first ho hl hr hc=>obtain ⟨g1,h1,h2⟩:=ih hc;exact ⟨g1,.first ho hl hr h1,h2⟩
    |more ho hn hx hr hc=>obtain ⟨g1,h1,h2⟩:=ih hc;exact ⟨g1,.more ho hn hx hr h1,h2⟩
theorem Chain.ok {cs:List Sc}:∀ {p:Option Nat} {g g2:Lg},Chain p g cs g2→∀ c∈cs,c.Ok:=by
  induction cs with
  |nil=>intro p g g2 _ c hc;cases hc
  |cons c cs ih=>
    intro p g g2 h x hx
    cases h with
    |first ho _ _ hc=>rcases List.mem_cons.1 hx with rfl|hx;exact ho;exact ih hc x hx
    |more ho _ _ _ hc=>rcases List.mem_cons.1 hx with rfl|hx;exact ho;exact ih hc x hx
theorem Chain.again {cs:List Sc}:∀ {p:Option Nat} {g g2 h:Lg},Chain p g cs g2→p≠none→h.last=g.last→∃ h2,Chain p h cs h2∧h2.last=g2.last:=by
  induction cs with
  |nil=>intro p g g2 h hc _ hl;cases hc;exact ⟨h,.nil,hl⟩
  |cons c cs ih=>
    intro p g g2 h hc hp hl
    cases hc with
    |first=>exact absurd rfl hp
    |more ho hn hx hr hc=>
      obtain ⟨h1,hr1,hl1⟩:=runs_last hr hl
      obtain ⟨h2,hc2,hl2⟩:=ih hc (by simp) hl1
      exact ⟨h2,.more ho hn (by rw [hl];exact hx) hr1 hc2,hl2⟩
theorem Chain.tail {c d:Sc} {cs:List Sc} {g g2:Lg} (h:Chain none g (c::d::cs) g2):∃ h2,Chain none ⟨0,[]⟩ (d::cs) h2∧h2.last=g2.last:=by
  cases h with
  |first ho hl hr hc=>
    cases hc with
    |more ho2 hn hx hr2 hc2=>
      obtain ⟨h1,hr1,hl1⟩:=runs_last (g2:=⟨d.next - 1,[]⟩) hr2 (by simp [Lg.last] at hx ⊢;omega)
      obtain ⟨h2,hc3,hl2⟩:=hc2.again (by simp) hl1
      exact ⟨h2,.first ho2 rfl hr1 hc3,hl2⟩
theorem Chain.start {cs:List Sc} {g h g2:Lg} (hc:Chain none g cs g2) (hcs:cs≠[]) (hl:h.l=[]):Chain none h cs g2:=by
  cases hc with
  |nil=>exact absurd rfl hcs
  |first ho _ hr hc=>exact .first ho hl hr hc
theorem load_chain {rd:Nat→List Int} {cs:List Sc}:∀ {p:Option Nat} {g g2:Lg} {segs:List Sg} {rest:List Nat},Chain p g cs g2→(∀ c∈cs,rd c.num=c.bytes)→
    loadL rd p g segs (cs.map (·.num)++rest)=loadL rd (lastNum p cs) g2 (segs++cs.map Sc.sg) rest:=by
  induction cs with
  |nil=>intro p g g2 segs rest h _;cases h;simp [lastNum]
  |cons c cs ih=>
    intro p g g2 segs rest h hrd
    have hc:=hrd c (List.mem_cons_self ..)
    have hcs:∀ x∈cs,rd x.num=x.bytes:=fun x hx=>hrd x (List.mem_cons_of_mem _ hx)
    have step:∀ {g1 g3:Lg},c.Ok→(p=none∨p.map (· + 1)=some c.num)→(p≠none→c.next=g.last + 1)→(if p=none then (⟨c.next - 1,g.l⟩:Lg) else g)=g1→runs g1 c.bs=some g3→Chain (some c.num) g3 cs g2→
        loadL rd p g segs ((c::cs).map (·.num)++rest)=loadL rd (lastNum p (c::cs)) g2 (segs++(c::cs).map Sc.sg) rest:=fun {g1 g3} ho hp hx hg hr hch=>by
      rw [List.map_cons,List.cons_append]
      conv=>lhs;unfold loadL
      simp only [hc,ho.scan]
      have hn:nextOfSeg p c.num c.recs=c.next:=by
        unfold nextOfSeg Sc.recs
        simp only
        rw [if_pos hp,head_hd ho.n1 (by have:=ho.x0;omega) ho.x1]
      simp only [hn]
      rw [if_neg (fun h=>h.elim (fun h=>by have:=ho.x0;omega) (fun h=>h.2 (hx h.1)))]
      rw [hg]
      have ht:c.recs.tail=c.bs:=rfl
      rw [ht,runL_all hr]
      simp only
      have hl:scanLen c.recs=c.bytes.length:=(recsB_len _).symm
      rw [if_pos hl,ih hch hcs]
      simp [lastNum,Sc.sg,List.append_assoc]
    cases h with
    |first ho hl hr hch=>exact step ho (.inl rfl) (fun h=>absurd rfl h) (by rw [if_pos rfl,hl]) hr hch
    |more ho hn hx hr hch=>exact step ho (.inr (by simp [hn])) (fun _=>hx) (if_neg (by simp)) hr hch
theorem Chain.nums {cs:List Sc}:∀ {p:Option Nat} {g g2:Lg},Chain p g cs g2→(∀ q,p=some q→∀ c∈cs,q<c.num)∧cs.Pairwise fun a b=>a.num<b.num:=by
  induction cs with
  |nil=>intro p g g2 _;exact ⟨fun _ _ _ hc=>(by cases hc),.nil⟩
  |cons c cs ih=>
    intro p g g2 h
    cases h with
    |first ho hl hr hc=>
      obtain ⟨h1,h2⟩:=ih hc
      exact ⟨fun _ hq=>(by cases hq),List.pairwise_cons.2 ⟨h1 _ rfl,h2⟩⟩
    |more ho hn hx hr hc=>
      obtain ⟨h1,h2⟩:=ih hc
      refine ⟨fun q hq x hx=>?_,List.pairwise_cons.2 ⟨h1 _ rfl,h2⟩⟩
      cases hq
      rcases List.mem_cons.1 hx with rfl|hx
      · omega
      · have:=h1 _ rfl x hx;omega
theorem load_cut {rd:Nat→List Int} {p:Option Nat} {g g1 g2:Lg} {segs:List Sg} {c:Sc} {k:Nat} (ho:c.Ok) (hp:p=none∨p.map (· + 1)=some c.num) (hx:p≠none→c.next=g.last + 1) (hg:(if p=none then (⟨c.next - 1,g.l⟩:Lg) else g)=g1)
    (hr:runs g1 c.bs=some g2) (hrd:rd c.num=c.bytes.take k):
    (loadL rd p g segs [c.num]=⟨g,segs,some ⟨c.num,0,0⟩,[]⟩∧k<(headB c.num c.next).length)∨
    ∃ j g3,j≤c.bs.length∧runs g1 (c.bs.take j)=some g3∧(∀ i,i≤c.bs.length→scanLen (hdB c.num c.next::c.bs.take i)≤k→i≤j)∧scanLen (hdB c.num c.next::c.bs.take j)≤(rd c.num).length∧
      ((scanLen (hdB c.num c.next::c.bs.take j)=(rd c.num).length∧rd c.num=recsB (hdB c.num c.next::c.bs.take j)∧loadL rd p g segs [c.num]=⟨g3,segs++[⟨c.num,c.next,(rd c.num).length⟩],none,[]⟩)∨
       loadL rd p g segs [c.num]=⟨g3,segs++[⟨c.num,c.next,(rd c.num).length⟩],some ⟨c.num,c.next,scanLen (hdB c.num c.next::c.bs.take j)⟩,[]⟩):=by
  obtain ⟨j,t,hj,ht,hcut,hi⟩:=take_recs c.recs k
  have hscan:scan (c.bytes.take k)=c.recs.take j:=by
    unfold Sc.bytes
    rw [ht]
    refine scan_app (fun b hb=>ho.recs b (List.mem_of_mem_take hb)) ?_
    rcases hcut with rfl|⟨d,m,h1,rfl,h3⟩
    · exact first_nil
    · obtain ⟨hlt,rfl⟩:=List.getElem?_eq_some_iff.1 h1
      exact first_cut (ho.recs _ (List.getElem_mem _)).1 h3
  cases j with
  |zero=>
    refine .inl ⟨?_,?_⟩
    · unfold loadL
      simp only [hrd,hscan,List.take_zero,nextOfSeg]
      rw [if_pos (.inl trivial)]
    · rcases Nat.lt_or_ge k (headB c.num c.next).length with h|h
      · exact h
      · have:=hi 1 (by simp [Sc.recs]) (by
          have:c.recs.take 1=[hdB c.num c.next]:=by simp [Sc.recs]
          rw [this,scanLen_cons]
          unfold headB at h
          rw [recB_len] at h
          simp [scanLen];omega)
        omega
  |succ j=>
    have hj':j≤c.bs.length:=by simpa [Sc.recs] using hj
    have er:c.recs.take (j + 1)=hdB c.num c.next::c.bs.take j:=by simp [Sc.recs]
    have hsplit:c.bs=c.bs.take j++c.bs.drop j:=(List.take_append_drop ..).symm
    obtain ⟨g3,h3⟩:∃ g3,runs g1 (c.bs.take j)=some g3:=by
      rw [hsplit,runs_app] at hr
      cases h:runs g1 (c.bs.take j) with
      |none=>rw [h] at hr;cases hr
      |some g3=>exact ⟨g3,rfl⟩
    have hlen:scanLen (hdB c.num c.next::c.bs.take j)≤(rd c.num).length:=by
      rw [hrd,←er,←recsB_len]
      unfold Sc.bytes
      rw [ht]
      simp
    refine .inr ⟨j,g3,hj',h3,fun i hi' hs=>?_,hlen,?_⟩
    · have:=hi (i + 1) (by simp [Sc.recs];omega) (by simpa [Sc.recs] using hs)
      omega
    · unfold loadL
      simp only [hrd,hscan,er]
      have hn:nextOfSeg p c.num (hdB c.num c.next::c.bs.take j)=c.next:=by
        unfold nextOfSeg
        simp only
        rw [if_pos hp,head_hd ho.n1 (by have:=ho.x0;omega) ho.x1]
      simp only [hn]
      rw [if_neg (fun h=>h.elim (fun h=>by have:=ho.x0;omega) (fun h=>h.2 (hx h.1))),hg,List.tail_cons,runL_all h3]
      simp only
      by_cases he:scanLen (hdB c.num c.next::c.bs.take j)=(c.bytes.take k).length
      · refine .inl ⟨he,?_,?_⟩
        · have h1:c.bytes.take k=recsB (hdB c.num c.next::c.bs.take j)++t:=by rw [←er];exact ht
          have h2:=congrArg List.length h1
          rw [List.length_append,recsB_len,←he] at h2
          have:t=[]:=List.length_eq_zero_iff.1 (by omega)
          rw [h1,this,List.append_nil]
        · rw [if_pos he]
          rfl
      · right
        rw [if_neg he]
end Go.VC
/- SL, part 13: appends of integers; new arrays as slices of one's own. Condition: bounds on lengths. -/
namespace Go.VC
set_option linter.unusedVariables false
set_option linter.unusedSimpArgs false
variable {P:Program} {R:Cx} {Hs Rest:List HP} {w:World} {s t:Sl} {T T2:TypeId}
theorem oneAll_k (k:IntKind) (xs:List Int):oneAll (xs.map (Value.int k))=true:=by
 induction xs with
 |nil=>rfl
 |cons x xs ih=>simp only [List.map_cons,oneAll,List.all_cons,Bool.and_eq_true];exact ⟨rfl,ih⟩
theorem appendRI {t1 t2 ty e':TypeId} {bytes n:Nat} {k:IntKind} (E:El P t1 t2 T bytes) {xs ys:List Int} {K:Sl→World→Prop} (h2:P.underlying t2=some (.slice e'))
  (hw:Sat R (Own s T (xs.map (Value.int k))::Hs) w) (hy:Ro R t (ys.map (Value.int k))) (hn:xs.length + ys.length≤n) (hb:2 * n * bytes≤281474976710656) (hb':n≤9223372036854775807)
  (kk:∀ s' w',Sat R (Own s' T ((xs++ys).map (Value.int k))::Hs) w'→K s' w'):
  ∃ w',∃ t':Sl,(Builtin.append_ #[t1,t2] ty #[.slice s.a s.len s.cap,.slice t.a t.len t.cap]).run P w=.ok (.slice t'.a t'.len t'.cap) w'∧K t' w':=by
 have hsrc:Src P 1 t2 (.slice t.a t.len t.cap) ys.length (ys.map (Value.int k)) w:=by
  have:=srcRo h2 hw hy (oneAll_k _ _)
  simpa using this
 refine append_rule E (s:=s) hw hsrc (oneAll_k _ _) ?_ (by rw [List.length_map];omega) fun s2 w hw=>kk s2 w (by simpa using hw)
 rw [List.length_map]
 have:2 * (xs.length + ys.length) * bytes≤2 * n * bytes:=Nat.mul_le_mul_right _ (by omega)
 omega
theorem appendOO {t1 t2 ty e':TypeId} {bytes n:Nat} {k:IntKind} (E:El P t1 t2 T bytes) {xs ys:List Int} {K:Sl→World→Prop} (h2:P.underlying t2=some (.slice e'))
  (hw:Sat R (Own s T (xs.map (Value.int k))::Own t T2 (ys.map (Value.int k))::Hs) w) (hn:xs.length + ys.length≤n) (hb:2 * n * bytes≤281474976710656) (hb':n≤9223372036854775807)
  (kk:∀ s' w',Sat R (Own s' T ((xs++ys).map (Value.int k))::Own t T2 (ys.map (Value.int k))::Hs) w'→K s' w'):
  ∃ w',∃ t':Sl,(Builtin.append_ #[t1,t2] ty #[.slice s.a s.len s.cap,.slice t.a t.len t.cap]).run P w=.ok (.slice t'.a t'.len t'.cap) w'∧K t' w':=by
 obtain ⟨R',hr,_,hw,back⟩:=Own.lend hw.swap (by rw [List.length_map];omega)
 exact appendRI E h2 hw hr hn hb hb' fun s' w' hw=>kk s' w' (back hw).swap
theorem Ro.ix {k:IntKind} {xs:List Int} {S:World→Prop} {i:Int} (hr:Ro R s (xs.map (Value.int k))) (hS:∀ w,S w→Sat R Hs w) (j:Nat) (hi:i=j) (hj:j<xs.length) {F:Int→Prop} (h:F xs[j]):
  Rng i s.len (NilP s.a fun a=>∃ t:Int,(At S (a.add i.toNat) [.int k t])∧F t):=by
 subst hi
 exact hr.idxK hS hj h
theorem SlR.ix {k:IntKind} {xs:List Int} {S:World→Prop} {i:Int} (hr:SlR R.m s (xs.map (Value.int k))) (hS:∀ w,S w→Sat R Hs w) (j:Nat) (hi:i=j) (hj:j<xs.length) {F:Int→Prop} (h:F xs[j]):
  Rng i s.len (NilP s.a fun a=>∃ t:Int,(At S (a.add i.toNat) [.int k t])∧F t):=by
 subst hi
 exact hr.idxK hS hj h
end Go.VC
/- SL, part 14: memory of one's own, made into memory that is only read, for good. No condition. -/
namespace Go.VC
set_option linter.unusedVariables false
set_option linter.unusedSimpArgs false
variable {P:Program} {R R' R'':Cx} {Hs Rest:List HP} {w:World} {s:Sl} {T:TypeId}
structure Cx.Ext (R R':Cx):Prop where
 m:∀ b o,R.m b=some o→R'.m b=some o
 like:R'.like R
theorem Cx.Ext.refl:R.Ext R:=⟨fun _ _ h=>h,rfl,rfl,rfl⟩
theorem Cx.Ext.trans (h:R.Ext R') (h':R'.Ext R''):R.Ext R'':=
 ⟨fun b o hb=>h'.m b o (h.m b o hb),h.like.1.trans h'.like.1,h.like.2.1.trans h'.like.2.1,h.like.2.2.trans h'.like.2.2⟩
theorem Cx.Ext.add {h:Heap}:R.Ext (R.add h):=⟨fun b o hb=>by simp only [Cx.add,Heap.add,hb],rfl,rfl,rfl⟩
theorem Cx.Ext.back (h:R.Ext R') (hw:Sat R' Hs w):Sat R Hs w:=Sat.ro_of h.m h.like hw
theorem Cx.Ext.ro {xs:List Value} (h:R.Ext R') (a:Ro R s xs):Ro R' s xs:=
 ⟨a.len,a.bound,fun hx=>let ⟨b,off,l,T,fr,h1,h2,h3⟩:=a.mem hx;⟨b,off,l,T,fr,h1,h.m _ _ h2,h3⟩⟩
theorem Cx.Ext.roN {n:Nat} {xs:List (List Value)} (h:R.Ext R') (a:RoN n R s xs):RoN n R' s xs:=
 ⟨a.wid,a.len,fun hx=>let ⟨b,off,l,T,fr,h1,h2,h3⟩:=a.mem hx;⟨b,off,l,T,fr,h1,h.m _ _ h2,h3⟩⟩
theorem Cx.Ext.slR {xs:List Value} (h:R.Ext R') (a:SlR R.m s xs):SlR R'.m s xs:=
 ⟨a.len,a.cap,fun hx=>let ⟨b,off,l,T,fr,h1,h2,h3⟩:=a.mem hx;⟨b,off,l,T,fr,h1,h.m _ _ h2,h3⟩⟩
theorem Reads.leak {xs:List Value} (h:Sat R (Reads s xs::Hs) w):∃ R':Cx,R.Ext R'∧SlR R'.m s xs∧Sat R' Hs w:=by
 obtain ⟨x,_,h1,h2,_⟩:=Reads.lend h
 exact ⟨_,.add,h1,h2⟩
theorem Own.leak {xs:List Value} (h:Sat R (Own s T xs::Hs) w):∃ R':Cx,R.Ext R'∧SlR R'.m s xs∧Sat R' Hs w:=Reads.leak (Own.reads h)
theorem OwnN.leak {n:Nat} {rows:List (List Value)} (h:Sat R (OwnN n s T rows::Hs) w):∃ R':Cx,R.Ext R'∧RoN n R' s rows∧Sat R' Hs w:=by
 obtain ⟨R',h1,⟨x,rfl⟩,h2,_⟩:=OwnN.lend h
 exact ⟨_,.add,h1,h2⟩
theorem pts.leak {b:Nat} {o:Obj} (h:Sat R (pts b o::Hs) w):∃ R':Cx,R.Ext R'∧R'.m b=some o∧Sat R' Hs w:=by
 obtain ⟨h1,h2⟩:=Sat.lend.1 h
 exact ⟨_,.add,Cx.lent h1,h2⟩
end Go.VC
/- SL, part 15: new rows of so many zeros; elements of any one cell. Condition: bounds on lengths. -/
namespace Go.VC
set_option linter.unusedVariables false
set_option linter.unusedSimpArgs false
variable {P:Program} {R:Cx} {Hs Rest:List HP} {w:World} {s:Sl} {T:TypeId}
theorem Own.ix {kd:IntKind} {xs:List Int} {S:World→Prop} {Hs':List HP} {i:Int} (hw:Sat R (Own s T (xs.map (Value.int kd))::Hs) w) (hS:∀ w,S w→Sat R (Own s T (xs.map (Value.int kd))::Hs') w) (k:Nat) (hi:i=k) (hk:k<xs.length) {F:Int→Prop} (h:F xs[k]):
  Rng i s.len (NilP s.a fun a=>∃ t:Int,(At S (a.add i.toNat) [.int kd t])∧F t):=by
 subst hi;exact Own.idx hw hS hk h
end Go.VC

/- SL, part 17: maps whose keys are ints; memory that is only read, several pieces of it lent at once. No condition. -/
namespace Go.VC
set_option linter.unusedVariables false
set_option linter.unusedSimpArgs false
variable {P:Program} {R R' R'':Cx} {Hs Rest:List HP} {w:World} {s:Sl} {T:TypeId}
instance:KeyK Int where
 enc:=Value.int .i64
 desc:=.int .i64
 same a b:=by
  show (if IntKind.i64=IntKind.i64 then some (a==b) else none)=some (a==b)
  rw [if_pos rfl]
 bits a:=by
  have:∀ n,Instr.sameBits n (.int .i64 a) (.int .i64 a)=(IntKind.i64==IntKind.i64 && a==a):=fun n=>by cases n<;>rfl
  rw [this];simp
 eq a b h:=beq_iff_eq.1 h
 check P em K a w h:=by
  show (Instr.checkKey em (9999 + 1) K (.int .i64 a)).run P w=_
  unfold Instr.checkKey
  simp [run_underlying h]
theorem Reads.out {xs:List Value} (h:Sat R (Reads s xs::Hs) w):∃ R',R.Ext R'∧SlR R'.m s xs∧Sat R' Hs w∧∀ Hs' w',Sat R' Hs' w'→Sat R (Reads s xs::Hs') w':=by
 obtain ⟨x,hd,hs,hw,hx⟩:=Reads.lend h
 exact ⟨R.add x,Cx.Ext.add,hs,hw,fun Hs' w' h=>Reads.back hd hx h⟩
end Go.VC
/- SL, part 18: a range over a map of one's own, in whatever order. No condition. -/
namespace Go.VC
set_option linter.unusedVariables false
set_option linter.unusedSimpArgs false
section
variable {α:Type} [BEq α] [KeyK α] {P:Program} {R:Cx} {Hs:List HP} {w:World}
def ItAt (r m:Nat) (es left:List (α × Value)):HP:=exs fun l:List (En α)=>exs fun c:Nat=>exs fun seen:Array Nat=>
 Star [pur (strip l=es∧StampsOk l c∧strip (l.filter fun e=>!seen.contains e.2.2)=left),pts r (.mapIter (some m) c seen c),pts m (.map (l.map mkE).toArray c)]
theorem ItAt.iff {r m:Nat} {es left:List (α × Value)}:Sat R (ItAt r m es left::Hs) w↔∃ (l:List (En α)) (c:Nat) (seen:Array Nat),(strip l=es∧StampsOk l c∧strip (l.filter fun e=>!seen.contains e.2.2)=left)∧
  Sat R (pts r (.mapIter (some m) c seen c)::pts m (.map (l.map (mkE (α:=α))).toArray c)::Hs) w:=by
 unfold ItAt
 simp only [Sat.exs]
 constructor
 ·rintro ⟨l,c,seen,h⟩
  obtain ⟨h1,h2⟩:=Sat.pur.1 (Sat.star.1 h)
  exact ⟨l,c,seen,h1,h2⟩
 ·rintro ⟨l,c,seen,h1,h2⟩
  exact ⟨l,c,seen,Sat.star.2 (Sat.pur.2 ⟨h1,h2⟩)⟩
theorem ItAt.map {r m:Nat} {es left:List (α × Value)} (hw:Sat R (ItAt r m es left::Hs) w):Sat R (MapAt m es::Hs) w:=by
 obtain ⟨l,c,seen,⟨h1,h2,_⟩,hw⟩:=ItAt.iff.1 hw
 exact MapAt.iff.2 ⟨l,c,h1,h2,hw.drop⟩
end
end Go.VC

/- SL, part 20: the next step over a string. No condition. -/
namespace Go.VC
set_option linter.unusedVariables false
set_option linter.unusedSimpArgs false
variable {R:Cx} {Hs:List HP} {w:World}
theorem dec_lo {s:ByteArray} {i:Nat} (h:(s.get! i).toNat<128):Utf8.decode s i=((s.get! i).toNat,1):=by
 unfold Utf8.decode
 simp only [Nat.add_zero]
 rw [if_pos h]
theorem dec_hi {s:ByteArray} {i:Nat} (h:¬ (s.get! i).toNat<128):128≤(Utf8.decode s i).1:=by
 unfold Utf8.decode
 simp only [Nat.add_zero]
 rw [if_neg h]
 have hr:128≤Utf8.runeError:=by decide
 repeat' split
 all_goals first|exact hr|(rename_i h1;simp only [Bool.and_eq_true,decide_eq_true_eq] at h1;dsimp only;omega)|(rename_i h1;dsimp only;omega)
theorem bytes_get {s:ByteArray} {i:Nat} (h:i<s.size):((s.get! i).toNat:Int)=(bytesL s)[i]'(by rw [bytesL_len];exact h):=by
 have h2:i<s.data.toList.length:=by simpa using h
 have e:s.get! i=s.data.toList[i]:=by
  show s.data[i]! =_
  rw [getElem!_pos s.data i (by simpa using h2)]
  simp
 rw [e]
 simp [bytesL]
theorem nextS_rule {b:Nat} {s:ByteArray} {pos:Nat} {A:Int→Int→World→Prop} {B:World→Prop} (hw:Sat R (pts b (.stringIter s pos)::Hs) w)
  (h1:pos<s.size→∀ w',Sat R (pts b (.stringIter s (pos + (Utf8.decode s pos).2))::Hs) w'→A (pos:Int) ((Utf8.decode s pos).1:Int) w') (h2:¬ pos<s.size→B w):NextS (some ⟨b,0,none⟩) A B w:=
 ⟨b,s,pos,rfl,hw.at,fun h=>h1 h _ (hw.setPts (.stringIter s (pos + (Utf8.decode s pos).2))),h2⟩
def strLeft (b:Nat) (w:World):Nat:=match w.heap[b]? with
 |some (.stringIter s pos)=>s.size - pos
 |_=>0
theorem strLeft_eq {b:Nat} {s:ByteArray} {pos:Nat} (hw:Sat R (pts b (.stringIter s pos)::Hs) w):strLeft b w=s.size - pos:=by
 unfold strLeft
 rw [hw.at]
end Go.VC
/- Names of segments: eight digits. No program. No condition. -/
namespace Go.VC
set_option linter.unusedVariables false
set_option linter.unusedSimpArgs false
def dig8 (n:Nat):List Nat:=[n / 10000000 % 10,n / 1000000 % 10,n / 100000 % 10,n / 10000 % 10,n / 1000 % 10,n / 100 % 10,n / 10 % 10,n % 10]
def digU (d:Nat):UInt8:=UInt8.ofNat (48 + d)
def nameU (n:Nat):List UInt8:=[119,97,108,45]++(dig8 n).map digU
def segName (n:Nat):ByteArray:=⟨(nameU n).toArray⟩
def scratchN:ByteArray:=ByteArray.mk #[119,97,108,46,110,101,119]
def val10 (l:List Int):Int:=l.foldl (fun n c=>n * 10 + (c - 48)) 0
def numL (l:List Int):Nat:=
 if l.take 4=[119,97,108,45]∧l.length=12∧(l.drop 4).all (fun c=>decide (48≤c) && decide (c≤57))=true then (val10 (l.drop 4)).toNat else 0
def numsOf (names:List ByteArray):List Nat:=(names.map fun k=>numL (bytesL k)).filter fun n=>decide (0<n)
theorem dig8_lt (n:Nat):∀ d∈dig8 n,d<10:=fun d hd=>by
 simp only [dig8,List.mem_cons,List.not_mem_nil,or_false] at hd
 omega
theorem digU_val {d:Nat} (h:d<10):((digU d).toNat:Int)=48 + d:=by
 unfold digU
 have:(UInt8.ofNat (48 + d)).toNat=48 + d:=by
  rw [UInt8.toNat_ofNat'];omega
 rw [this];omega
theorem nameU_bytes (n:Nat):bytesL (segName n)=[119,97,108,45]++(dig8 n).map fun d:Nat=>48 + (d:Int):=by
 unfold bytesL segName nameU
 simp only [List.map_append,List.map_map]
 congr 1
 refine List.map_congr_left fun d hd=>?_
 exact digU_val (dig8_lt n d hd)
theorem segName_size (n:Nat):(segName n).size=12:=rfl
theorem dig8_val {n:Nat} (h:n<100000000):val10 ((dig8 n).map fun d:Nat=>48 + (d:Int))=n:=by
 unfold val10 dig8
 simp only [List.map_cons,List.map_nil,List.foldl_cons,List.foldl_nil]
 omega
theorem num_name {n:Nat} (h:n<100000000):numL (bytesL (segName n))=n:=by
 rw [nameU_bytes]
 unfold numL
 have hd:([119,97,108,45]++(dig8 n).map fun d:Nat=>48 + (d:Int)).drop 4=(dig8 n).map fun d:Nat=>48 + (d:Int):=rfl
 rw [if_pos]
 ·rw [hd,dig8_val h];omega
 ·refine ⟨rfl,rfl,?_⟩
  rw [hd,List.all_eq_true]
  intro x hx
  obtain ⟨d,hm,rfl⟩:=List.mem_map.1 hx
  have:=dig8_lt n d hm
  simp;omega
theorem seg_ne_scratch (n:Nat):segName n≠scratchN:=fun h=>by
 have:=congrArg ByteArray.size h
 rw [segName_size] at this
 revert this;decide
theorem seg_inj {n m:Nat} (hn:n<100000000) (hm:m<100000000) (h:segName n=segName m):n=m:=by
 rw [←num_name hn,←num_name hm,h]
theorem lex_dig:∀ {a b:List Nat},a.length=b.length→(∀ d∈a,d<10)→(∀ d∈b,d<10)→a.foldl (fun n d=>n * 10 + d) 0<b.foldl (fun n d=>n * 10 + d) 0→a.map digU<b.map digU:=by
 have key:∀ (l:List Nat) (n:Nat),(∀ d∈l,d<10)→l.foldl (fun n d=>n * 10 + d) n=n * 10 ^ l.length + l.foldl (fun n d=>n * 10 + d) 0∧l.foldl (fun n d=>n * 10 + d) 0<10 ^ l.length:=fun l=>by
  induction l with
  |nil=>intro n _;simp
  |cons x l ih=>
   intro n h
   have hl:=fun d hd=>h d (List.mem_cons_of_mem _ hd)
   have hx:=h x (List.mem_cons_self ..)
   simp only [List.foldl_cons,Nat.zero_mul,Nat.zero_add,List.length_cons]
   obtain ⟨h1,h2⟩:=ih (n * 10 + x) hl
   obtain ⟨h3,_⟩:=ih x hl
   rw [h1,h3,Nat.pow_succ]
   have hm:x * 10 ^ l.length≤9 * 10 ^ l.length:=Nat.mul_le_mul_right _ (by omega)
   constructor
   ·rw [Nat.add_mul,Nat.mul_assoc,Nat.mul_comm 10 (10 ^ l.length)];omega
   ·omega
 intro a
 induction a with
 |nil=>intro b hl _ _ h;cases b with
  |nil=>simp at h
  |cons=>simp at hl
 |cons x a ih=>
  intro b hl ha hb h
  cases b with
  |nil=>simp at hl
  |cons y b=>
   have hla:=fun d hd=>ha d (List.mem_cons_of_mem _ hd)
   have hlb:=fun d hd=>hb d (List.mem_cons_of_mem _ hd)
   have hx:=ha x (List.mem_cons_self ..)
   have hy:=hb y (List.mem_cons_self ..)
   simp only [List.length_cons,Nat.add_right_cancel_iff] at hl
   simp only [List.foldl_cons,Nat.zero_mul,Nat.zero_add] at h
   obtain ⟨h1,h2⟩:=key a x hla
   obtain ⟨h3,h4⟩:=key b y hlb
   rw [h1,h3,hl] at h
   rw [hl] at h2
   have hU:∀ d,d<10→(digU d).toNat=48 + d:=fun d hd=>by have:=digU_val hd;omega
   rcases Nat.lt_trichotomy x y with hxy|rfl|hxy
   ·refine List.cons_lt_cons_iff.2 (.inl ?_)
    rw [UInt8.lt_iff_toNat_lt,hU x hx,hU y hy];omega
   ·exact List.cons_lt_cons_iff.2 (.inr ⟨rfl,ih hl hla hlb (by omega)⟩)
   ·exfalso
    have:(y + 1) * 10 ^ b.length≤x * 10 ^ b.length:=Nat.mul_le_mul_right _ hxy
    rw [Nat.add_mul,Nat.one_mul] at this
    omega
theorem dig8_num {n:Nat} (h:n<100000000):(dig8 n).foldl (fun n d=>n * 10 + d) 0=n:=by
 unfold dig8
 simp only [List.foldl_cons,List.foldl_nil]
 omega
theorem seg_lt {n m:Nat} (hm:m<100000000) (h:n<m):(segName n).data.toList<(segName m).data.toList:=by
 show nameU n<nameU m
 have:=lex_dig (a:=dig8 n) (b:=dig8 m) rfl (dig8_lt n) (dig8_lt m) (by rw [dig8_num (by omega),dig8_num hm];exact h)
 unfold nameU
 simp only [List.cons_append,List.nil_append]
 exact List.cons_lt_cons_iff.2 (.inr ⟨rfl,List.cons_lt_cons_iff.2 (.inr ⟨rfl,List.cons_lt_cons_iff.2 (.inr ⟨rfl,List.cons_lt_cons_iff.2 (.inr ⟨rfl,this⟩)⟩)⟩)⟩)
theorem nums_seg {l:List Nat} (h:∀ n∈l,1≤n∧n<100000000):numsOf (l.map segName)=l:=by
 unfold numsOf
 rw [List.map_map]
 have e:l.map ((fun k=>numL (bytesL k)) ∘ segName)=l:=by
  conv=>rhs;rw [←List.map_id l]
  exact List.map_congr_left fun n hn=>num_name (h n hn).2
 rw [e]
 exact List.filter_eq_self.2 fun n hn=>by have:=h n hn;simp;omega
end Go.VC
/- Disks: names, bytes, what changes leave, crashes. No program but for two of slices' functions. Condition: bounds on lengths. -/
namespace Go.Proofs.YtkfedbncmfnpnaaGreatDoor
set_option linter.unusedVariables false
set_option linter.unusedSimpArgs false
open Go Go.VC
variable {R:Cx} {Hs Rest:List HP} {w:World}
instance memDec (k:ByteArray) (l:List ByteArray):Decidable (k∈l):=@List.instDecidableMemOfLawfulBEq ByteArray instBEqOfDecidableEq inferInstance k l
theorem index_spec {s:Sl} {l:List ByteArray} {k:ByteArray} (hs:Ro R s (l.map Value.string)) (hw:Sat R Hs w):
  Gets Tryz.prog 124 #[.slice s.a s.len s.cap,.string k] w fun v w'=>(∃ n:Int,v=.int .i64 n∧(k∈l↔0≤n))∧Sat R Hs w':=by
 have hlen:s.len=l.length:=by have:=hs.len;simpa using this
 have hbd:l.length≤9223372036854775807:=by have:=hs.bound;simpa using this
 apply call124
 refine ⟨fun t w=>∃ j:Nat,t=j∧j≤l.length∧k ∉ l.take j∧Sat R Hs w,fun t _=>l.length - t.toNat,⟨0,rfl,by omega,by simp,hw⟩,?_⟩
 rintro _ _ w ⟨j,rfl,hj,hno,hw⟩
 refine Br.d (fun h=>?_) (fun h=>?_)
 ·have hjl:j<l.length:=by omega
  have:=Ro.idxStr (S:=fun w'=>w'=w) hs (eqS hw) (k:=j) hjl (F:=fun t=>t=l[j]) rfl
  obtain ⟨h0,h1,this⟩:=this.out
  obtain ⟨a,ha,t,hat,rfl⟩:=this.out
  refine Rng.mk h0 h1 (NilP.mk ha ⟨_,hat,?_⟩)
  rw [str_eql]
  refine Br.d (fun h=>?_) (fun h=>?_)
  ·exact ⟨⟨j,rfl,⟨fun _=>by omega,fun _=>by rw [h];exact List.getElem_mem _⟩⟩,hw⟩
  ·rw [wrap64 (by omega) (by omega)]
   refine ⟨⟨j + 1,by omega,by omega,?_,hw⟩,by dsimp only;omega⟩
   rw [List.take_succ_eq_append_getElem hjl,List.mem_append]
   rintro (h2|h2)
   ·exact hno h2
   ·simp at h2;exact h h2
 ·have:j=l.length:=by omega
  subst this
  rw [List.take_length] at hno
  exact ⟨⟨-1,rfl,⟨fun h=>absurd h hno,fun h=>by omega⟩⟩,hw⟩
theorem contains_spec {s:Sl} {l:List ByteArray} {k:ByteArray} (hs:Ro R s (l.map Value.string)) (hw:Sat R Hs w):
  Gets Tryz.prog 85 #[.slice s.a s.len s.cap,.string k] w fun v w'=>v=.bool (decide (k∈l))∧Sat R Hs w':=by
 apply call85
 refine (index_spec hs hw).use ?_
 rintro _ w ⟨⟨n,rfl,hn⟩,hw⟩
 refine ⟨n,rfl,?_,hw⟩
 congr 1
 rw [decide_eq_decide]
 exact hn.symm
def Byt (l:List Int):Prop:=∀ x∈l,0≤x∧x<256
def ByOk (fs:Fs):Prop:=∀ e∈fs,Byt e.2.b
theorem Byt.app {a b:List Int} (ha:Byt a) (hb:Byt b):Byt (a++b):=fun x hx=>(List.mem_append.1 hx).elim (ha x) (hb x)
theorem updM_mem {k:ByteArray} {g:Fl→Fl}:∀ {l:Fs} {e},e∈updM k g l→∃ e0∈l,e=e0∨e=(e0.1,g e0.2)
 |[],_,h=>by cases h
 |a::l,e,h=>by
  unfold updM at h
  split at h
  ·rcases List.mem_cons.1 h with rfl|h
   ·exact ⟨a,List.mem_cons_self ..,.inr rfl⟩
   ·exact ⟨e,List.mem_cons_of_mem _ h,.inl rfl⟩
  ·rcases List.mem_cons.1 h with rfl|h
   ·exact ⟨_,List.mem_cons_self ..,.inl rfl⟩
   ·obtain ⟨e0,h0,h1⟩:=updM_mem h
    exact ⟨e0,List.mem_cons_of_mem _ h0,h1⟩
theorem by_upd {k:ByteArray} {g:Fl→Fl} {fs:Fs} (h:ByOk fs) (hg:∀ f,Byt f.b→Byt (g f).b):ByOk (updM k g fs):=fun e he=>by
 obtain ⟨e0,h0,rfl|rfl⟩:=updM_mem he
 ·exact h _ h0
 ·exact hg _ (h _ h0)
theorem by_ensure {fs:Fs} (h:ByOk fs) (k:ByteArray):ByOk (ensure k fs):=by
 unfold ensure
 split
 ·exact h
 ·intro e he
  rcases List.mem_append.1 he with he|he
  ·exact h e he
  ·simp at he;subst he;exact fun _ h=>by cases h
theorem by_append {st:DS} (h:ByOk st.fs) (k:ByteArray) {xs:List Int} (hx:Byt xs):ByOk (appendD st k xs).1.fs:=by
 have hc:=(chg_fs st (nameOk k)).1
 unfold appendD doing
 split
 ·show ByOk (appendG (chg st (nameOk k)).1 k xs).1.fs
  unfold appendG
  split
  ·rw [hc];exact h
  ·simp only [putB]
   rw [hc]
   exact by_upd (by_ensure h k) fun f hf=>hf.app hx
 ·rw [hc];exact h
theorem by_sync {st:DS} (h:ByOk st.fs) (k:ByteArray):ByOk (syncD st k).1.fs:=by
 have hc:=(chg_fs st (nameOk k)).1
 unfold syncD doing
 split
 ·unfold syncG
  split
  ·simp only;rw [hc];exact by_upd h fun f hf=>hf
  ·rw [hc];exact h
 ·rw [hc];exact h
theorem by_del {fs:Fs} (h:ByOk fs) (k:ByteArray):ByOk (delM k fs):=fun e he=>h e ((delM_sub k fs).subset he)
theorem by_unlink {st:DS} (h:ByOk st.fs) (k:ByteArray):ByOk (unlinkD st k).1.fs:=by
 have hc:=(chg_fs st (nameOk k)).1
 unfold unlinkD doing
 split
 ·unfold unlinkG
  split
  ·simp only;rw [hc];exact by_del h k
  ·rw [hc];exact h
 ·rw [hc];exact h
theorem getM_mem {β:Type} {k:ByteArray}:∀ {l:List (ByteArray × β)} {v:β},getM k l=some v→∃ k',(k',v)∈l:=fun {l v} h=>by
 obtain ⟨a,b,rfl,_⟩:=getM_split h
 exact ⟨k,by simp⟩
theorem by_read {st:DS} (h:ByOk st.fs) (k:ByteArray):Byt (readD st k).1:=by
 unfold readD
 split
 ·exact fun _ h=>by cases h
 ·split
  ·exact fun _ h=>by cases h
  ·split
   ·exact fun _ h=>by cases h
   ·rename_i f hf
    obtain ⟨k',hm⟩:=getM_mem hf
    exact h _ hm
theorem scan_mem:∀ (n:Nat) (bs:List Int),bs.length≤n→∀ x∈scan bs,x.length≤65536∧∀ y∈x,y∈bs:=fun n=>by
 induction n with
 |zero=>
  intro bs h x hx
  cases hf:first bs with
  |none=>rw [scan_none hf] at hx;cases hx
  |some b=>have:=(first_len hf).1;omega
 |succ n ih=>
  intro bs h x hx
  cases hf:first bs with
  |none=>rw [scan_none hf] at hx;cases hx
  |some b=>
   obtain ⟨h1,h2,h3,_⟩:=first_len hf
   rw [scan_some hf] at hx
   rcases List.mem_cons.1 hx with rfl|hx
   ·exact ⟨h2,fun y hy=>by rw [h3] at hy;exact List.mem_of_mem_drop (List.mem_of_mem_take hy)⟩
   ·obtain ⟨h4,h5⟩:=ih _ (by simp;omega) x hx
    exact ⟨h4,fun y hy=>List.mem_of_mem_drop (h5 y hy)⟩
theorem chg_calm {st:DS} (ha:st.arm=-1) (hf:st.fail=-1) (ho:st.off=false):chg st true=(st,0):=by
 obtain ⟨room,fs,fail,arm,off⟩:=st
 simp only at ha hf ho
 subst ha hf ho
 simp [chg,metN]
theorem updM_len {β:Type} (k:ByteArray) (g:β→β) (l:List (ByteArray × β)):(updM k g l).length=l.length:=by
 have:=congrArg List.length (updM_keys k g l);simpa using this
theorem doing_len {st:DS} {ok:Bool} {g:DS→DS × Int} {m:Nat} (h:∀ st,(g st).1.fs.length≤st.fs.length + m):(doing st ok g).1.fs.length≤st.fs.length + m:=by
 unfold doing
 have:=(chg_fs st ok).1
 split
 ·have h2:=h (chg st ok).1;rw [this] at h2;exact h2
 ·rw [this];omega
theorem append_len (st:DS) (k:ByteArray) (xs:List Int):(appendD st k xs).1.fs.length≤st.fs.length + 1:=by
 refine doing_len fun st=>?_
 unfold appendG;split
 ·simp
 ·simp only [putB,updM_len]
  unfold ensure;split<;>simp
theorem sync_len (st:DS) (k:ByteArray):(syncD st k).1.fs.length≤st.fs.length:=by
 refine doing_len (m:=0) fun st=>?_
 unfold syncG;split
 ·simp only [updM_len];simp
 ·simp
theorem crash_len (st:DS) (keep:List Int):(crashD st keep).fs.length=st.fs.length:=by
 have:=congrArg List.length (crashL_keys (namesOf st.fs) keep st.fs);simpa [crashD] using this
theorem getM_upd_ne {β:Type} {k k2:ByteArray} {g:β→β} (hne:k2≠k):∀ {l:List (ByteArray × β)},getM k2 (updM k g l)=getM k2 l
 |[]=>rfl
 |e::l=>by
  simp only [updM]
  by_cases h:k=e.1
  ·rw [if_pos (by rw [←h];exact ba_rfl k)]
   simp only [getM]
   rw [if_neg (by rw [←h,ba_ne hne];simp),if_neg (by rw [←h,ba_ne hne];simp)]
  ·rw [if_neg (by rw [ba_ne h];simp)]
   simp only [getM]
   rw [getM_upd_ne hne]
theorem getM_app_left {β:Type} {k:ByteArray} {v:β}:∀ {a b:List (ByteArray × β)},getM k a=some v→getM k (a++b)=some v
 |[],_,h=>by cases h
 |e::a,b,h=>by
  simp only [getM] at h
  rw [List.cons_append]
  simp only [getM]
  split at h
  ·rename_i hk;rw [if_pos hk];exact h
  ·rename_i hk;rw [if_neg hk];exact getM_app_left h
theorem getM_app_none {β:Type} {k:ByteArray}:∀ {a b:List (ByteArray × β)},getM k a=none→getM k (a++b)=getM k b
 |[],_,_=>rfl
 |e::a,b,h=>by
  simp only [getM] at h
  split at h
  ·cases h
  ·rename_i hk
   rw [List.cons_append]
   simp only [getM]
   rw [if_neg hk]
   exact getM_app_none h
theorem getM_one_ne {β:Type} {k k2:ByteArray} {v:β} (hne:k2≠k):getM k2 [(k,v)]=none:=by
 simp only [getM];rw [if_neg (by rw [ba_ne hne];simp)]
theorem getM_one {β:Type} {k:ByteArray} {v:β}:getM k [(k,v)]=some v:=by
 simp only [getM];rw [if_pos (ba_rfl k)]
theorem getM_snoc_ne {β:Type} {k k2:ByteArray} {v:β} {l:List (ByteArray × β)} (hne:k2≠k):getM k2 (l++[(k,v)])=getM k2 l:=by
 cases h:getM k2 l with
 |none=>rw [getM_app_none h,getM_one_ne hne]
 |some x=>exact getM_app_left h
theorem getM_ensure_ne {k k2:ByteArray} {fs:Fs} (hne:k2≠k):getM k2 (ensure k fs)=getM k2 fs:=by
 unfold ensure
 split
 ·rfl
 ·exact getM_snoc_ne hne
theorem notin_names {k:ByteArray} {fs:Fs}:k ∉ namesOf fs↔getM k fs=none:=by
 rw [mem_names]
 exact ⟨getM_of_notin,notin_of_getM⟩
theorem doing_get {st:DS} {ok:Bool} {g:DS→DS × Int} {k:ByteArray} (h:∀ st,getM k (g st).1.fs=getM k st.fs):getM k (doing st ok g).1.fs=getM k st.fs:=by
 unfold doing
 split
 ·rw [h,(chg_fs st ok).1]
 ·rw [(chg_fs st ok).1]
theorem append_get {st:DS} {k k2:ByteArray} {xs:List Int} (hne:k2≠k):getM k2 (appendD st k xs).1.fs=getM k2 st.fs:=by
 refine doing_get fun st=>?_
 unfold appendG
 split
 ·rfl
 ·show getM k2 (putB k xs st.fs)=_
  unfold putB
  rw [getM_upd_ne hne,getM_ensure_ne hne]
theorem sync_get {st:DS} {k k2:ByteArray} (hne:k2≠k):getM k2 (syncD st k).1.fs=getM k2 st.fs:=by
 refine doing_get fun st=>?_
 unfold syncG
 split
 ·exact getM_upd_ne hne
 ·rfl
theorem unlink_get {st:DS} {k k2:ByteArray} (hne:k2≠k):getM k2 (unlinkD st k).1.fs=getM k2 st.fs:=by
 refine doing_get fun st=>?_
 unfold unlinkG
 split
 ·exact getM_del_ne hne
 ·rfl
theorem doing_ok {st:DS} {ok:Bool} {g:DS→DS × Int} (h:(doing st ok g).2=0):(chg st ok).2=0∧doing st ok g=g (chg st ok).1:=by
 unfold doing at h ⊢
 split
 ·rename_i h1;exact ⟨h1,rfl⟩
 ·rename_i h1;rw [if_neg h1] at h;exact absurd h h1
theorem doing_err {st:DS} {ok:Bool} {g:DS→DS × Int} (hg:∀ st,(g st).2≠0→(g st).1.fs=st.fs) (h:(doing st ok g).2≠0):(doing st ok g).1.fs=st.fs:=by
 unfold doing at h ⊢
 split
 ·rename_i h1;rw [if_pos h1] at h;rw [hg _ h,(chg_fs st ok).1]
 ·exact (chg_fs st ok).1
theorem append_err {st:DS} {k:ByteArray} {xs:List Int} (h:(appendD st k xs).2≠0):(appendD st k xs).1.fs=st.fs:=by
 refine doing_err (fun st h=>?_) h
 unfold appendG at h ⊢
 split
 ·rfl
 ·rename_i h1;rw [if_neg h1] at h;exact absurd rfl h
theorem sync_err {st:DS} {k:ByteArray} (h:(syncD st k).2≠0):(syncD st k).1.fs=st.fs:=by
 refine doing_err (fun st h=>?_) h
 unfold syncG at h ⊢
 split
 ·rename_i h1;rw [if_pos h1] at h;exact absurd rfl h
 ·rfl
theorem append_new {st:DS} {k:ByteArray} {xs:List Int} (hk:getM k st.fs=none) (h:(appendD st k xs).2=0):getM k (appendD st k xs).1.fs=some ⟨xs,0⟩:=by
 obtain ⟨_,e⟩:=doing_ok h
 have e:appendD st k xs=appendG (chg st (nameOk k)).1 k xs:=e
 rw [e] at h ⊢
 have hf:=(chg_fs st (nameOk k)).1
 generalize (chg st (nameOk k)).1=st' at *
 unfold appendG at h ⊢
 split
 ·rename_i h1;rw [if_pos h1] at h;cases h
 ·show getM k (putB k xs st'.fs)=_
  have he:getM k (ensure k st'.fs)=some ⟨[],0⟩:=by
   unfold ensure
   rw [hf,hk]
   rw [if_neg (by simp)]
   rw [getM_app_none hk,getM_one]
  unfold putB
  rw [getM_upd he];rfl
theorem sync_done {st:DS} {k:ByteArray} {f:Fl} (hk:getM k st.fs=some f) (h:(syncD st k).2=0):getM k (syncD st k).1.fs=some ⟨f.b,f.b.length⟩:=by
 obtain ⟨_,e⟩:=doing_ok h
 have e:syncD st k=syncG k (chg st (nameOk k)).1:=e
 rw [e]
 have hf:=(chg_fs st (nameOk k)).1
 generalize (chg st (nameOk k)).1=st' at *
 unfold syncG
 rw [hf,hk,if_pos (show (some f).isSome=true from rfl)]
 exact getM_upd hk
theorem unlink_done {st:DS} (u:Uni st.fs) {k:ByteArray} (h:(unlinkD st k).2=0):getM k (unlinkD st k).1.fs=none:=by
 obtain ⟨_,e⟩:=doing_ok h
 have e:unlinkD st k=unlinkG k (chg st (nameOk k)).1:=e
 rw [e] at h ⊢
 have hf:=(chg_fs st (nameOk k)).1
 generalize (chg st (nameOk k)).1=st' at *
 unfold unlinkG at h ⊢
 split
 ·show getM k (delM k st'.fs)=none
  rw [hf]
  exact getM_del_self k u
 ·rename_i h1;rw [if_neg h1] at h;cases h
structure Calm (st:DS):Prop where
 arm:st.arm=-1
 fail:st.fail=-1
 off:st.off=false
theorem doing_calm {st:DS} (c:Calm st) {g:DS→DS × Int}:doing st true g=g st:=by
 unfold doing
 rw [chg_calm c.arm c.fail c.off];rfl
theorem append_calm {st:DS} (c:Calm st) {k:ByteArray} {xs:List Int} (hk:nameOk k=true) (hr:total st.fs + xs.length≤st.room):(appendD st k xs).2=0∧Calm (appendD st k xs).1∧total (appendD st k xs).1.fs=total st.fs + xs.length∧(appendD st k xs).1.room=st.room:=by
 unfold appendD
 rw [hk,doing_calm c]
 unfold appendG
 rw [if_neg (by omega)]
 exact ⟨rfl,⟨c.arm,c.fail,c.off⟩,putB_total k xs st.fs,rfl⟩
theorem sync_calm {st:DS} (c:Calm st) {k:ByteArray} {f:Fl} (hk:nameOk k=true) (hf:getM k st.fs=some f):(syncD st k).2=0∧Calm (syncD st k).1∧total (syncD st k).1.fs=total st.fs∧(syncD st k).1.room=st.room:=by
 unfold syncD
 rw [hk,doing_calm c]
 unfold syncG
 rw [hf,if_pos (show (some f).isSome=true from rfl)]
 exact ⟨rfl,⟨c.arm,c.fail,c.off⟩,updM_total (g:=fun f:Fl=>{ f with sure:=f.b.length }) (fun _=>rfl) _,rfl⟩
theorem rename_calm {st:DS} (c:Calm st) (u:Uni st.fs) {k kt:ByteArray} {f:Fl} (hne:k≠kt) (hk:nameOk k=true) (ht:nameOk kt=true) (hf:getM k st.fs=some f):(renameD st k kt).2=0∧Calm (renameD st k kt).1∧total (renameD st k kt).1.fs≤total st.fs∧(renameD st k kt).1.room=st.room:=by
 unfold renameD
 rw [hk,ht,show (true && true)=true from rfl,doing_calm c]
 unfold renameG
 rw [hf]
 simp only
 rw [if_neg hne]
 refine ⟨rfl,⟨c.arm,c.fail,c.off⟩,?_,rfl⟩
 show total (delM k (delM kt st.fs)++[(kt,f)])≤total st.fs
 rw [total_app,total_cons,total_nil]
 have h1:=total_get (k:=k) (f:=f) (fs:=delM kt st.fs) (by rw [getM_del_ne hne];exact hf)
 have h2:=delM_total kt st.fs
 simp only
 omega
theorem cutF_whole (kp:Option Int) (b:List Int):cutF kp ⟨b,b.length⟩=⟨b,b.length⟩:=by
 have:stay kp ⟨b,b.length⟩=0:=by
  unfold stay
  split
  ·rfl
  ·simp only;omega
 unfold cutF
 rw [this]
 simp
theorem crashL_get {k:ByteArray} {b:List Int}:∀ (ks:List ByteArray) (keep:List Int) {fs:Fs},getM k fs=some ⟨b,b.length⟩→getM k (crashL ks keep fs)=some ⟨b,b.length⟩
 |[],_,_,h=>h
 |x::ks,keep,fs,h=>by
  rw [crashL]
  refine crashL_get ks keep.tail ?_
  by_cases hx:k=x
  ·subst hx
   rw [getM_upd h,cutF_whole]
  ·rw [getM_upd_ne hx,h]
theorem crash_calm (st:DS) (keep:List Int):Calm (crashD st keep):=⟨rfl,rfl,rfl⟩
theorem read_get {st:DS} {k:ByteArray} {f:Fl} (ho:st.off=false) (hk:nameOk k=true) (h:getM k st.fs=some f):readD st k=(f.b,0):=by
 unfold readD
 rw [ho,hk,h];rfl
end Go.Proofs.YtkfedbncmfnpnaaGreatDoor
/- A log on a disk, plain: what the program's functions reckon. No program. Condition: none. -/
namespace Go.Proofs.YtkfedbncmfnpnaaGreatDoor
set_option linter.unusedVariables false
set_option linter.unusedSimpArgs false
open Go Go.VC
def loadD (st:DS):Ld:=loadL (fun n=>(readD st (segName n)).1) none ⟨0,[]⟩ [] (numsOf (namesOf st.fs))
structure Wl where
 g:Lg
 segs:List Sg
def thenD (x:DS × Int) (f:DS→DS × Int):DS × Int:=if x.2=0 then f x.1 else x
def makeD (st:DS) (n:Nat) (next:Int):DS × Int:=thenD (appendD st (segName n) (headB n next)) fun st=>syncD st (segName n)
def inSegs (segs:List Sg) (n:Nat):Bool:=segs.any fun s=>decide (s.num=n)
def mendD (st:DS) (segs:List Sg) (s:Sg):DS × Int:=
 if s.next=0∨inSegs segs s.num=false then unlinkD st (segName s.num)
 else if (readD st (segName s.num)).2≠0 then (st,(readD st (segName s.num)).2)
 else thenD (thenD (appendD st scratchN ((readD st (segName s.num)).1.take s.size.toNat)) fun st=>syncD st scratchN) fun st=>renameD st scratchN (segName s.num)
def setSize (segs:List Sg) (z:Int):List Sg:=match segs[segs.length - 1]? with|some s=>segs.set (segs.length - 1) ⟨s.num,s.next,z⟩|none=>segs
def mendSegs (segs:List Sg) (s:Sg):List Sg:=if s.next=0∨inSegs segs s.num=false then segs else setSize segs s.size
def unlinksD:DS→List Nat→DS × Int
 |st,[]=>(st,0)
 |st,n::ns=>thenD (unlinkD st (segName n)) fun st=>unlinksD st ns
def recoverD (st:DS):DS × Int:=
 let ld:=loadD st
 thenD (thenD (thenD (if scratchN∈namesOf st.fs then unlinkD st scratchN else (st,0)) fun st=>match ld.amiss with|some s=>mendD st ld.segs s|none=>(st,0))
  fun st=>unlinksD st ld.behind) fun st=>if ld.segs=[] then makeD st 1 1 else (st,0)
def openedW (st:DS):Wl:=
 let ld:=loadD st
 ⟨ld.g,if ld.segs=[] then [⟨1,1,(headB 1 1).length⟩] else match ld.amiss with
  |some s=>mendSegs ld.segs s
  |none=>ld.segs⟩
def openErr (st:DS) (limit:Int):Int:=if limit<32∨limit>65536 then 1 else if st.off then 5 else (recoverD st).2
def openD (st:DS) (limit:Int):DS:=if limit<32∨limit>65536 then st else if st.off then st else (recoverD st).1
end Go.Proofs.YtkfedbncmfnpnaaGreatDoor
/- Segments on a disk: how they are found; plain. No program. Condition: none. -/
namespace Go.Proofs.YtkfedbncmfnpnaaGreatDoor
set_option linter.unusedVariables false
set_option linter.unusedSimpArgs false
open Go Go.VC
theorem seg_nameOk (n:Nat):nameOk (segName n)=true:=by
 unfold nameOk
 rw [nameU_bytes,segName_size]
 simp only [List.all_append,Bool.and_eq_true,decide_eq_true_eq,List.all_eq_true]
 refine ⟨by decide,by decide,fun x hx=>?_⟩
 obtain ⟨d,hd,rfl⟩:=List.mem_map.1 hx
 have:=dig8_lt n d hd
 unfold okCh
 simp;omega
theorem scratch_nameOk:nameOk scratchN=true:=by decide +kernel
theorem getM_of_mem {β:Type} {k:ByteArray} {v:β}:∀ {l:List (ByteArray × β)},(l.map (·.1)).Nodup→(k,v)∈l→getM k l=some v
 |[],_,h=>by cases h
 |e::l,u,h=>by
  unfold getM
  rw [List.map_cons,List.nodup_cons] at u
  rcases List.mem_cons.1 h with rfl|h
  ·rw [if_pos (ba_rfl _)]
  ·rw [if_neg,getM_of_mem u.2 h]
   intro he
   have hk:k=e.1:=(MapKept.bytes_beq _ _).1 he
   exact u.1 (hk ▸ List.mem_map_of_mem (f:=(·.1)) h)
abbrev segFs (f:Sc→Fl) (cs:List Sc):Fs:=cs.map fun c=>(segName c.num,f c)
theorem segFs_srt {f:Sc→Fl} {cs:List Sc} (h:cs.Pairwise fun a b=>a.num<b.num) (hb:∀ c∈cs,c.num<100000000):Srt (segFs f cs):=by
 unfold Srt segFs
 rw [List.pairwise_map]
 exact h.imp_of_mem fun ha hb' hab=>seg_lt (hb _ hb') hab
theorem segFs_uni {f:Sc→Fl} {cs:List Sc} (h:cs.Pairwise fun a b=>a.num<b.num) (hb:∀ c∈cs,c.num<100000000):Uni (segFs f cs):=by
 unfold Uni segFs
 rw [List.map_map]
 unfold List.Nodup
 rw [List.pairwise_map]
 exact h.imp_of_mem fun ha hb' hab he=>by have:=seg_inj (hb _ ha) (hb _ hb') he;omega
theorem seg_names {st:DS} {f:Sc→Fl} {cs:List Sc} (hp:st.fs.Perm (segFs f cs)) (h:cs.Pairwise fun a b=>a.num<b.num) (hb:∀ c∈cs,c.num<100000000):namesOf st.fs=(cs.map (·.num)).map segName:=by
 rw [names_srt hp (segFs_srt h hb)]
 simp
theorem seg_nums {st:DS} {f:Sc→Fl} {cs:List Sc} (hp:st.fs.Perm (segFs f cs)) (h:cs.Pairwise fun a b=>a.num<b.num) (hb:∀ c∈cs,1≤c.num∧c.num<100000000):numsOf (namesOf st.fs)=cs.map (·.num):=by
 rw [seg_names hp h fun c hc=>(hb c hc).2]
 refine nums_seg fun n hn=>?_
 obtain ⟨c,hc,rfl⟩:=List.mem_map.1 hn
 exact hb c hc
theorem seg_noscratch {st:DS} {f:Sc→Fl} {cs:List Sc} (hp:st.fs.Perm (segFs f cs)) (h:cs.Pairwise fun a b=>a.num<b.num) (hb:∀ c∈cs,c.num<100000000):scratchN ∉ namesOf st.fs:=by
 rw [seg_names hp h hb]
 intro hm
 obtain ⟨n,_,hn⟩:=List.mem_map.1 hm
 exact seg_ne_scratch n hn
theorem seg_get {st:DS} {f:Sc→Fl} {cs:List Sc} (hp:st.fs.Perm (segFs f cs)) (h:cs.Pairwise fun a b=>a.num<b.num) (hb:∀ c∈cs,c.num<100000000) {c:Sc} (hc:c∈cs):getM (segName c.num) st.fs=some (f c):=by
 have u:=segFs_uni (f:=f) h hb
 rw [getM_perm hp (uni_perm hp.symm u)]
 exact getM_of_mem u (List.mem_map_of_mem (f:=fun c=>(segName c.num,f c)) hc)
theorem seg_read {st:DS} {f:Sc→Fl} {cs:List Sc} (hoff:st.off=false) (hp:st.fs.Perm (segFs f cs)) (h:cs.Pairwise fun a b=>a.num<b.num) (hb:∀ c∈cs,c.num<100000000) {c:Sc} (hc:c∈cs):readD st (segName c.num)=((f c).b,0):=
 read_get hoff (seg_nameOk _) (seg_get hp h hb hc)
theorem chain_bd {cs:List Sc} {p:Option Nat} {g g2:Lg} (hc:Chain p g cs g2):∀ c∈cs,1≤c.num∧c.num<100000000:=fun c h=>by
 have:=hc.ok c h
 exact ⟨this.n0,by have:=this.n1;omega⟩
theorem loadD_full {st:DS} {f:Sc→Fl} {cs:List Sc} {g:Lg} (hoff:st.off=false) (hp:st.fs.Perm (segFs f cs)) (hf:∀ c∈cs,(f c).b=c.bytes) (hc:Chain none ⟨0,[]⟩ cs g):loadD st=⟨g,cs.map Sc.sg,none,[]⟩:=by
 have hpw:=hc.nums.2
 have hb:=chain_bd hc
 unfold loadD
 rw [seg_nums hp hpw hb]
 have:=load_chain (rd:=fun n=>(readD st (segName n)).1) (segs:=[]) (rest:=[]) hc fun c h=>by
  rw [seg_read hoff hp hpw (fun c h=>(hb c h).2) h]
  exact hf c h
 rw [List.append_nil] at this
 rw [this]
 unfold loadL
 simp
end Go.Proofs.YtkfedbncmfnpnaaGreatDoor
/-
  DERIVED: THE SHELF's CONTRACTS AT THIS DUMP, IN PLAIN WORDS (tools/lay-plain.mjs out of 'TryzShelf.lean', which tools/lay-shelf.mjs wrote): THE SAME DECLARATIONS UNDER THE SAME NAMES: 'import', 'namespace', 'open', 'def', 'theorem' AND NOTHING ELSE: no command of the shelf's: FOR A HAND-IN. Each laying: the table of numbers ('.._ren') and one theorem, a field a fact of the dump's own or the kernel's comparison; each contract: ONE APPLICATION.
-/
namespace Go.Proofs
set_option linter.unusedVariables false
set_option linter.unusedSimpArgs false
open Go.Shelf
def Tryz.lays103_ren:Go.Shelf.Ren:=⟨fun|103=>150|210=>184|206=>181|n=>n,fun|9=>9|4=>4|24=>170|3=>3|n=>n,fun|n=>n⟩
theorem Tryz.lays103:Go.Proofs.Lays.n103 Tryz.prog Tryz.lays103_ren:={
  mixed:=by kernel_rfl
  f103:=Tryz.func150.trans (congrArg some (by kernel_rfl))
  f206:=Tryz.func181.trans (congrArg some (by kernel_rfl))
  f210:=Tryz.func184.trans (congrArg some (by kernel_rfl))
  t3:=Tryz.underlying3
  a3:=Tryz.isAgg3
  z3:=Tryz.sizeOf3
  v3:=Tryz.zeroValue3
  t4:=Tryz.underlying4
  a4:=Tryz.isAgg4
  z4:=Tryz.sizeOf4
  v4:=Tryz.zeroValue4
  t9:=Tryz.underlying9
  a9:=Tryz.isAgg9
  z9:=Tryz.sizeOf9
  v9:=Tryz.zeroValue9
  t24:=Tryz.underlying170
  a24:=Tryz.isAgg170
  z24:=Tryz.sizeOf170
  v24:=Tryz.zeroValue170 }
open Go.RowKit in
theorem Tryz.strings_CutPrefix (s p:ByteArray) (w:World):
    Calls Tryz.prog 150 #[.string s,.string p] w fun e w'=>e=.returned (.tuple #[.string ⟨(Lib.trimPrefix s.data.toList p.data.toList).toArray⟩,.bool (Lib.hasPrefix s.data.toList p.data.toList)])∧w'=w:=Any.strings_CutPrefix Tryz.lays103 s p w
def Tryz.lays172_ren:Go.Shelf.Ren:=⟨fun|172=>153|244=>186|245=>187|247=>216|279=>217|280=>218|281=>219|282=>220|287=>238|316=>239|171=>105|205=>240|321=>244|322=>245|243=>143|246=>178|283=>209|284=>210|285=>211|286=>212|129=>165|317=>234|318=>235|319=>236|320=>237|337=>242|338=>243|n=>n,fun|9=>9|3=>3|75=>167|76=>168|4=>4|5=>5|167=>231|37=>53|0=>0|85=>232|2=>2|168=>234|53=>148|175=>253|46=>159|210=>257|127=>201|145=>267|143=>265|21=>21|171=>224|173=>226|212=>250|51=>182|20=>20|213=>251|232=>268|233=>269|80=>98|n=>n,fun|15=>2|16=>3|17=>0|18=>4|19=>5|n=>n⟩
theorem Tryz.lays172:Go.Proofs.Lays.n172 Tryz.prog Tryz.lays172_ren:={
  mixed:=by kernel_rfl
  f129:=Tryz.func165.trans (congrArg some (by kernel_rfl))
  f171:=Tryz.func105.trans (congrArg some (by kernel_rfl))
  f172:=Tryz.func153.trans (congrArg some (by kernel_rfl))
  f205:=Tryz.func240.trans (congrArg some (by kernel_rfl))
  f243:=Tryz.func143.trans (congrArg some (by kernel_rfl))
  f244:=Tryz.func186.trans (congrArg some (by kernel_rfl))
  f245:=Tryz.func187.trans (congrArg some (by kernel_rfl))
  f246:=Tryz.func178.trans (congrArg some (by kernel_rfl))
  f247:=Tryz.func216.trans (congrArg some (by kernel_rfl))
  f279:=Tryz.func217.trans (congrArg some (by kernel_rfl))
  f280:=Tryz.func218.trans (congrArg some (by kernel_rfl))
  f281:=Tryz.func219.trans (congrArg some (by kernel_rfl))
  f282:=Tryz.func220.trans (congrArg some (by kernel_rfl))
  f283:=Tryz.func209.trans (congrArg some (by kernel_rfl))
  f284:=Tryz.func210.trans (congrArg some (by kernel_rfl))
  f285:=Tryz.func211.trans (congrArg some (by kernel_rfl))
  f286:=Tryz.func212.trans (congrArg some (by kernel_rfl))
  f287:=Tryz.func238.trans (congrArg some (by kernel_rfl))
  f316:=Tryz.func239.trans (congrArg some (by kernel_rfl))
  f317:=Tryz.func234.trans (congrArg some (by kernel_rfl))
  f318:=Tryz.func235.trans (congrArg some (by kernel_rfl))
  f319:=Tryz.func236.trans (congrArg some (by kernel_rfl))
  f320:=Tryz.func237.trans (congrArg some (by kernel_rfl))
  f321:=Tryz.func244.trans (congrArg some (by kernel_rfl))
  f322:=Tryz.func245.trans (congrArg some (by kernel_rfl))
  f337:=Tryz.func242.trans (congrArg some (by kernel_rfl))
  f338:=Tryz.func243.trans (congrArg some (by kernel_rfl))
  t0:=Tryz.underlying0
  a0:=Tryz.isAgg0
  z0:=Tryz.sizeOf0
  v0:=Tryz.zeroValue0
  t2:=Tryz.underlying2
  a2:=Tryz.isAgg2
  z2:=Tryz.sizeOf2
  v2:=Tryz.zeroValue2
  t3:=Tryz.underlying3
  a3:=Tryz.isAgg3
  z3:=Tryz.sizeOf3
  v3:=Tryz.zeroValue3
  t4:=Tryz.underlying4
  a4:=Tryz.isAgg4
  z4:=Tryz.sizeOf4
  v4:=Tryz.zeroValue4
  t5:=Tryz.underlying5
  a5:=Tryz.isAgg5
  z5:=Tryz.sizeOf5
  v5:=Tryz.zeroValue5
  t9:=Tryz.underlying9
  a9:=Tryz.isAgg9
  z9:=Tryz.sizeOf9
  v9:=Tryz.zeroValue9
  t20:=Tryz.underlying20
  a20:=Tryz.isAgg20
  z20:=Tryz.sizeOf20
  v20:=Tryz.zeroValue20
  t21:=Tryz.underlying21
  a21:=Tryz.isAgg21
  z21:=Tryz.sizeOf21
  v21:=Tryz.zeroValue21
  t37:=Tryz.underlying53
  a37:=Tryz.isAgg53
  z37:=Tryz.sizeOf53
  v37:=Tryz.zeroValue53
  t46:=Tryz.underlying159
  a46:=Tryz.isAgg159
  z46:=Tryz.sizeOf159
  v46:=Tryz.zeroValue159
  t51:=Tryz.underlying182
  a51:=Tryz.isAgg182
  z51:=Tryz.sizeOf182
  v51:=Tryz.zeroValue182
  t53:=Tryz.underlying148
  a53:=Tryz.isAgg148
  z53:=Tryz.sizeOf148
  v53:=Tryz.zeroValue148
  t75:=Tryz.underlying167
  a75:=Tryz.isAgg167
  z75:=Tryz.sizeOf167
  v75:=Tryz.zeroValue167
  t76:=Tryz.underlying168
  a76:=Tryz.isAgg168
  z76:=Tryz.sizeOf168
  v76:=Tryz.zeroValue168
  t85:=Tryz.underlying232
  a85:=Tryz.isAgg232
  z85:=Tryz.sizeOf232
  v85:=Tryz.zeroValue232
  t127:=Tryz.underlying201
  a127:=Tryz.isAgg201
  z127:=Tryz.sizeOf201
  v127:=Tryz.zeroValue201
  t143:=Tryz.underlying265
  a143:=Tryz.isAgg265
  z143:=Tryz.sizeOf265
  v143:=Tryz.zeroValue265
  t145:=Tryz.underlying267
  a145:=Tryz.isAgg267
  z145:=Tryz.sizeOf267
  v145:=Tryz.zeroValue267
  t167:=Tryz.underlying231
  a167:=Tryz.isAgg231
  z167:=Tryz.sizeOf231
  v167:=Tryz.zeroValue231
  t168:=Tryz.underlying234
  a168:=Tryz.isAgg234
  z168:=Tryz.sizeOf234
  v168:=Tryz.zeroValue234
  t171:=Tryz.underlying224
  a171:=Tryz.isAgg224
  z171:=Tryz.sizeOf224
  v171:=Tryz.zeroValue224
  t173:=Tryz.underlying226
  a173:=Tryz.isAgg226
  z173:=Tryz.sizeOf226
  v173:=Tryz.zeroValue226
  t175:=Tryz.underlying253
  a175:=Tryz.isAgg253
  z175:=Tryz.sizeOf253
  v175:=Tryz.zeroValue253
  t210:=Tryz.underlying257
  a210:=Tryz.isAgg257
  z210:=Tryz.sizeOf257
  v210:=Tryz.zeroValue257
  t212:=Tryz.underlying250
  a212:=Tryz.isAgg250
  z212:=Tryz.sizeOf250
  v212:=Tryz.zeroValue250
  t213:=Tryz.underlying251
  a213:=Tryz.isAgg251
  z213:=Tryz.sizeOf251
  t232:=Tryz.underlying268
  a232:=Tryz.isAgg268
  z232:=Tryz.sizeOf268
  v232:=Tryz.zeroValue268
  t233:=Tryz.underlying269
  a233:=Tryz.isAgg269
  z233:=Tryz.sizeOf269
  v233:=Tryz.zeroValue269
  g15:=by kernel_rfl
  g16:=by kernel_rfl
  g17:=by kernel_rfl
  g18:=by kernel_rfl
  g19:=by kernel_rfl }
open Go.RowKit in
theorem Tryz.strconv_Atoi (s:ByteArray) (n:Int) (hl:s.size≤18) (h:Lib.atoi s.data.toList=some n) (w:World):
    Calls Tryz.prog 153 #[.string s] w fun e w'=>e=.returned (.tuple #[.int .i64 n,.nilIface])∧∃ t,w'=Lib.bytesWorld w 5 t:=Any.strconv_Atoi Tryz.lays172 s n hl h w
def Tryz.laysM171_ren:Go.Shelf.Ren:=⟨fun|171=>105|243=>143|246=>178|283=>209|284=>210|285=>211|286=>212|129=>165|317=>234|318=>235|319=>236|320=>237|337=>242|338=>243|n=>n,fun|3=>3|9=>9|2=>2|4=>4|171=>224|0=>0|53=>148|37=>53|5=>5|173=>226|212=>250|51=>182|20=>20|213=>251|46=>159|232=>268|233=>269|n=>n,fun|17=>0|18=>4|19=>5|n=>n⟩
theorem Tryz.laysM171:Go.Proofs.LaysM.n171 Tryz.prog Tryz.laysM171_ren:={
  mixed:=by kernel_rfl
  f129:=Tryz.func165.trans (congrArg some (by kernel_rfl))
  f171:=Tryz.func105.trans (congrArg some (by kernel_rfl))
  f243:=Tryz.func143.trans (congrArg some (by kernel_rfl))
  f246:=Tryz.func178.trans (congrArg some (by kernel_rfl))
  f283:=Tryz.func209.trans (congrArg some (by kernel_rfl))
  f284:=Tryz.func210.trans (congrArg some (by kernel_rfl))
  f285:=Tryz.func211.trans (congrArg some (by kernel_rfl))
  f286:=Tryz.func212.trans (congrArg some (by kernel_rfl))
  f317:=Tryz.func234.trans (congrArg some (by kernel_rfl))
  f318:=Tryz.func235.trans (congrArg some (by kernel_rfl))
  f319:=Tryz.func236.trans (congrArg some (by kernel_rfl))
  f320:=Tryz.func237.trans (congrArg some (by kernel_rfl))
  f337:=Tryz.func242.trans (congrArg some (by kernel_rfl))
  f338:=Tryz.func243.trans (congrArg some (by kernel_rfl))
  t0:=Tryz.underlying0
  a0:=Tryz.isAgg0
  z0:=Tryz.sizeOf0
  v0:=Tryz.zeroValue0
  t2:=Tryz.underlying2
  a2:=Tryz.isAgg2
  z2:=Tryz.sizeOf2
  v2:=Tryz.zeroValue2
  t3:=Tryz.underlying3
  a3:=Tryz.isAgg3
  z3:=Tryz.sizeOf3
  v3:=Tryz.zeroValue3
  t4:=Tryz.underlying4
  a4:=Tryz.isAgg4
  z4:=Tryz.sizeOf4
  v4:=Tryz.zeroValue4
  t5:=Tryz.underlying5
  a5:=Tryz.isAgg5
  z5:=Tryz.sizeOf5
  v5:=Tryz.zeroValue5
  t9:=Tryz.underlying9
  a9:=Tryz.isAgg9
  z9:=Tryz.sizeOf9
  v9:=Tryz.zeroValue9
  t20:=Tryz.underlying20
  a20:=Tryz.isAgg20
  z20:=Tryz.sizeOf20
  v20:=Tryz.zeroValue20
  t37:=Tryz.underlying53
  a37:=Tryz.isAgg53
  z37:=Tryz.sizeOf53
  v37:=Tryz.zeroValue53
  t46:=Tryz.underlying159
  a46:=Tryz.isAgg159
  z46:=Tryz.sizeOf159
  v46:=Tryz.zeroValue159
  t51:=Tryz.underlying182
  a51:=Tryz.isAgg182
  z51:=Tryz.sizeOf182
  v51:=Tryz.zeroValue182
  t53:=Tryz.underlying148
  a53:=Tryz.isAgg148
  z53:=Tryz.sizeOf148
  v53:=Tryz.zeroValue148
  t171:=Tryz.underlying224
  a171:=Tryz.isAgg224
  z171:=Tryz.sizeOf224
  v171:=Tryz.zeroValue224
  t173:=Tryz.underlying226
  a173:=Tryz.isAgg226
  z173:=Tryz.sizeOf226
  v173:=Tryz.zeroValue226
  t212:=Tryz.underlying250
  a212:=Tryz.isAgg250
  z212:=Tryz.sizeOf250
  v212:=Tryz.zeroValue250
  t213:=Tryz.underlying251
  a213:=Tryz.isAgg251
  z213:=Tryz.sizeOf251
  t232:=Tryz.underlying268
  a232:=Tryz.isAgg268
  z232:=Tryz.sizeOf268
  v232:=Tryz.zeroValue268
  t233:=Tryz.underlying269
  a233:=Tryz.isAgg269
  z233:=Tryz.sizeOf269
  v233:=Tryz.zeroValue269
  g17:=by kernel_rfl
  g18:=by kernel_rfl
  g19:=by kernel_rfl
  i0:=by kernel_rfl
  i2:=by kernel_rfl
  i3:=by kernel_rfl
  i4:=by kernel_rfl
  i5:=by kernel_rfl
  i9:=by kernel_rfl
  i20:=by kernel_rfl
  i37:=by kernel_rfl
  i46:=by kernel_rfl
  i51:=by kernel_rfl
  i53:=by kernel_rfl
  i171:=by kernel_rfl
  i173:=by kernel_rfl
  i212:=by kernel_rfl
  i232:=by kernel_rfl
  i233:=by kernel_rfl
  m17:=by kernel_rfl
  m18:=by kernel_rfl
  m19:=by kernel_rfl }
open Go.RowKit Go.Sort Go.Lib in
theorem Tryz.strconv_Itoa (n : Int) (h0 : -9223372036854775808 ≤ n) (h1 : n ≤ 9223372036854775807) (w : World) (htab : Lib.TabIs Tryz.prog w "internal/strconv.uint64pow10" .u64 Lib.pow10Tab) :
    Calls Tryz.prog 105 #[.int .i64 n] w fun e w'=>e=.returned (.string ⟨(Lib.itoa n).toArray⟩)∧∃ k os,w'=grow (w.drewN k) os:=Any.strconv_Itoa Tryz.laysM171 n h0 h1 w htab
def Tryz.lays105_ren:Go.Shelf.Ren:=⟨fun|105=>106|212=>144|99=>145|165=>146|166=>147|170=>148|169=>149|263=>179|264=>180|206=>181|240=>182|241=>183|276=>213|277=>214|n=>n,fun|9=>9|3=>3|4=>4|20=>20|0=>0|46=>159|109=>160|5=>5|72=>165|76=>168|51=>182|146=>197|53=>148|148=>199|70=>163|37=>53|75=>167|127=>201|164=>228|80=>98|n=>n,fun|n=>n⟩
theorem Tryz.lays105:Go.Proofs.Lays.n105 Tryz.prog Tryz.lays105_ren:={
  mixed:=by kernel_rfl
  f99:=Tryz.func145.trans (congrArg some (by kernel_rfl))
  f105:=Tryz.func106.trans (congrArg some (by kernel_rfl))
  f165:=Tryz.func146.trans (congrArg some (by kernel_rfl))
  f166:=Tryz.func147.trans (congrArg some (by kernel_rfl))
  f169:=Tryz.func149.trans (congrArg some (by kernel_rfl))
  f170:=Tryz.func148.trans (congrArg some (by kernel_rfl))
  f206:=Tryz.func181.trans (congrArg some (by kernel_rfl))
  f212:=Tryz.func144.trans (congrArg some (by kernel_rfl))
  f240:=Tryz.func182.trans (congrArg some (by kernel_rfl))
  f241:=Tryz.func183.trans (congrArg some (by kernel_rfl))
  f263:=Tryz.func179.trans (congrArg some (by kernel_rfl))
  f264:=Tryz.func180.trans (congrArg some (by kernel_rfl))
  f276:=Tryz.func213.trans (congrArg some (by kernel_rfl))
  f277:=Tryz.func214.trans (congrArg some (by kernel_rfl))
  t0:=Tryz.underlying0
  a0:=Tryz.isAgg0
  z0:=Tryz.sizeOf0
  v0:=Tryz.zeroValue0
  t3:=Tryz.underlying3
  a3:=Tryz.isAgg3
  z3:=Tryz.sizeOf3
  v3:=Tryz.zeroValue3
  t4:=Tryz.underlying4
  a4:=Tryz.isAgg4
  z4:=Tryz.sizeOf4
  v4:=Tryz.zeroValue4
  t5:=Tryz.underlying5
  a5:=Tryz.isAgg5
  z5:=Tryz.sizeOf5
  v5:=Tryz.zeroValue5
  t9:=Tryz.underlying9
  a9:=Tryz.isAgg9
  z9:=Tryz.sizeOf9
  v9:=Tryz.zeroValue9
  t20:=Tryz.underlying20
  a20:=Tryz.isAgg20
  z20:=Tryz.sizeOf20
  v20:=Tryz.zeroValue20
  t37:=Tryz.underlying53
  a37:=Tryz.isAgg53
  z37:=Tryz.sizeOf53
  v37:=Tryz.zeroValue53
  t46:=Tryz.underlying159
  a46:=Tryz.isAgg159
  z46:=Tryz.sizeOf159
  v46:=Tryz.zeroValue159
  t51:=Tryz.underlying182
  a51:=Tryz.isAgg182
  z51:=Tryz.sizeOf182
  v51:=Tryz.zeroValue182
  t53:=Tryz.underlying148
  a53:=Tryz.isAgg148
  z53:=Tryz.sizeOf148
  v53:=Tryz.zeroValue148
  t70:=Tryz.underlying163
  a70:=Tryz.isAgg163
  z70:=Tryz.sizeOf163
  v70:=Tryz.zeroValue163
  t72:=Tryz.underlying165
  a72:=Tryz.isAgg165
  z72:=Tryz.sizeOf165
  v72:=Tryz.zeroValue165
  t75:=Tryz.underlying167
  a75:=Tryz.isAgg167
  z75:=Tryz.sizeOf167
  v75:=Tryz.zeroValue167
  t76:=Tryz.underlying168
  a76:=Tryz.isAgg168
  z76:=Tryz.sizeOf168
  v76:=Tryz.zeroValue168
  t109:=Tryz.underlying160
  a109:=Tryz.isAgg160
  z109:=Tryz.sizeOf160
  v109:=Tryz.zeroValue160
  t127:=Tryz.underlying201
  a127:=Tryz.isAgg201
  z127:=Tryz.sizeOf201
  v127:=Tryz.zeroValue201
  t146:=Tryz.underlying197
  a146:=Tryz.isAgg197
  z146:=Tryz.sizeOf197
  v146:=Tryz.zeroValue197
  t148:=Tryz.underlying199
  a148:=Tryz.isAgg199
  z148:=Tryz.sizeOf199
  v148:=Tryz.zeroValue199
  t164:=Tryz.underlying228
  a164:=Tryz.isAgg228
  z164:=Tryz.sizeOf228
  v164:=Tryz.zeroValue228 }
theorem Tryz.Builder_Extra_105:Builder.Extra Tryz.prog Tryz.lays105_ren:={
  sizeBuilder:=by kernel_rfl
  liesBuilder:=by kernel_rfl
  t5:=Tryz.underlying5
  a5:=Tryz.isAgg5
  z5:=Tryz.sizeOf5
  v5:=Tryz.zeroValue5
  infoByte:=by kernel_rfl
  cellsByte:=by kernel_rfl
  sizeByte:=by kernel_rfl
  neB5:=by decide }
open Go.RowKit Go.Lib in
theorem Tryz.strings_Repeat (s:ByteArray) (c:Nat) (w:World) (hc:c≤9223372036854775807) (hlen:s.size * c≤140737488355328):
    Calls Tryz.prog 106 #[.string s,.int .i64 c] w fun e w'=>e=.returned (.string ⟨(Lib.repeatL s.data.toList c).toArray⟩)∧Below w.heap.size w w':=Any.strings_Repeat Tryz.lays105 Tryz.Builder_Extra_105 s c w hc hlen
end Go.Proofs
/- Names of segments: as the program writes and reads them. No program. No condition. -/
namespace Go.VC
set_option linter.unusedVariables false
set_option linter.unusedSimpArgs false
open Go
def padD:Nat→Nat→List UInt8
 |0,_=>[]
 |k + 1,n=>padD k (n / 10)++[digU (n % 10)]
theorem padD_zero:∀ k,padD k 0=Lib.repeatL [48] k
 |0=>rfl
 |k + 1=>by
  unfold padD
  rw [Nat.zero_div,padD_zero k]
  have:Lib.repeatL [48] (k + 1)=Lib.repeatL [48] k++Lib.repeatL [48] 1:=Lib.repeatL_add _ _ _
  rw [this]
  rfl
theorem pad_dec:∀ (k n:Nat),1≤k→n<10 ^ k→Lib.repeatL [48] (k - (Lib.decDigits n).length)++Lib.decDigits n=padD k n
 |0,_,h,_=>by omega
 |k + 1,n,_,h=>by
  rw [Lib.decDigits]
  split
  ·rename_i h10
   have e:k + 1 - [UInt8.ofNat (48 + n)].length=k:=rfl
   rw [e]
   unfold padD
   rw [show n / 10=0 by omega,padD_zero,show n % 10=n by omega]
   rfl
  ·rename_i h10
   have hk:1≤k:=by
    rcases Nat.eq_zero_or_pos k with rfl|hk
    ·simp at h;omega
    ·exact hk
   have:=pad_dec k (n / 10) hk (by rw [Nat.pow_succ] at h;omega)
   unfold padD
   rw [←this]
   simp only [List.length_append,List.length_cons,List.length_nil,Nat.zero_add,Nat.add_sub_add_right,List.append_assoc]
   rfl
theorem pad8 (n:Nat):padD 8 n=(dig8 n).map digU:=by
 simp only [padD,dig8,List.map_cons,List.map_nil,List.nil_append,List.cons_append,Nat.div_div_eq_div_mul]
theorem dec_len:∀ (k n:Nat),1≤k→n<10 ^ k→(Lib.decDigits n).length≤k
 |0,_,h,_=>by omega
 |k + 1,n,_,h=>by
  rw [Lib.decDigits]
  split
  ·simp
  ·rename_i h10
   have hk:1≤k:=by
    rcases Nat.eq_zero_or_pos k with rfl|hk
    ·simp at h;omega
    ·exact hk
   have:=dec_len k (n / 10) hk (by rw [Nat.pow_succ] at h;omega)
   simp;omega
theorem seg_parts {n:Nat} (h:n<100000000):ByteArray.mk #[119,97,108,45]++⟨(Lib.repeatL (ByteArray.mk #[48]).data.toList (8 - (Lib.decDigits n).length)).toArray⟩++⟨(Lib.decDigits n).toArray⟩=segName n:=by
 have hp:=pad_dec 8 n (by omega) (by simpa using h)
 rw [pad8] at hp
 unfold segName nameU
 rw [←hp]
 apply ByteArray.ext
 simp only [ByteArray.data_append]
 apply Array.ext'
 simp
end Go.VC
/- Names of segments: what the program's functions give. Condition: numbers of at most eight digits; the library's table of powers is laid. -/
namespace Go.Proofs.YtkfedbncmfnpnaaGreatDoor
set_option linter.unusedVariables false
set_option linter.unusedSimpArgs false
open Go Go.VC
variable {R R':Cx} {Hs Rest:List HP} {w:World}
def PowR (R : Cx) : Prop := ∀ (Hs : List HP) (w : World), Sat R Hs w → Lib.TabIs Tryz.prog w "internal/strconv.uint64pow10" .u64 Lib.pow10Tab
theorem PowR.ext (h:PowR R) (e:R.Ext R'):PowR R':=fun Hs w hw=>h Hs w (e.back hw)
theorem itoa_spec {n:Nat} (hp:PowR R) (hn:n<100000000) (hw:Sat R Hs w):Gets Tryz.prog 105 #[.int .i64 n] w fun v w'=>v=.string ⟨(Lib.decDigits n).toArray⟩∧Sat R Hs w':=by
 refine (Tryz.strconv_Itoa n (by omega) (by omega) w (hp Hs w hw)).mono ?_
 rintro e w' ⟨rfl,k,os,rfl⟩
 refine ⟨_,rfl,?_,?_⟩
 ·unfold Lib.itoa
  rw [if_neg (by omega),Int.toNat_natCast]
 ·have h1:Sat R Hs (w.drewN k):=hw.keeps ⟨rfl,rfl,rfl,fun _ _=>rfl⟩
  have:=Sat.grows os.toList h1
  simpa using this
theorem repeat_spec {c:Nat} (hc:c≤8) (hw:Sat R Hs w):Gets Tryz.prog 106 #[.string (ByteArray.mk #[48]),.int .i64 c] w fun v w'=>v=.string ⟨(Lib.repeatL (ByteArray.mk #[48]).data.toList c).toArray⟩∧Sat R Hs w':=by
 refine (Tryz.strings_Repeat (ByteArray.mk #[48]) c w (by omega) (by show 1 * c≤_;omega)).mono ?_
 rintro e w' ⟨rfl,hb⟩
 exact ⟨_,rfl,rfl,hw.keeps (Keeps.of_below hb)⟩
theorem name_spec {n:Nat} {x z:Int} (hp:PowR R) (hn:n<100000000) (hw:Sat R Hs w):Gets Tryz.prog 57 #[.agg #[.int .i64 n,.int .i64 x,.int .i64 z]] w fun v w'=>v=.string (segName n)∧Sat R Hs w':=by
 apply call57
 refine new_rule hw fun b w hw=>?_
 refine ⟨_,At.own (eqS hw) (by exact ⟨rfl,trivial⟩),?_⟩
 refine (itoa_spec hp hn hw).use ?_
 rintro _ w ⟨rfl,hw⟩
 have hl:=dec_len 8 n (by omega) (by simpa using hn)
 have hs:(ByteArray.mk (Lib.decDigits n).toArray).size=(Lib.decDigits n).length:=by simp [ByteArray.size]
 refine ⟨_,rfl,?_⟩
 have e8:IntKind.i64.wrap (8 - ((ByteArray.mk (Lib.decDigits n).toArray).size:Int))=((8 - (Lib.decDigits n).length:Nat):Int):=by rw [hs,wrap64 (by omega) (by omega)];omega
 rw [e8]
 refine (repeat_spec (by omega) hw).use ?_
 rintro _ w ⟨rfl,hw⟩
 have hs2:(ByteArray.mk (Lib.repeatL (ByteArray.mk #[48]).data.toList (8 - (Lib.decDigits n).length)).toArray).size=8 - (Lib.decDigits n).length:=by simp [ByteArray.size,Lib.repeatL_length]
 have e4:(ByteArray.mk #[119,97,108,45]).size=4:=rfl
 refine ⟨_,rfl,?_,?_,?_⟩
 ·rw [hs2,e4];omega
 ·rw [ByteArray.size_append,hs,hs2,e4];omega
 ·rw [seg_parts hn]
  exact ⟨rfl,hw.drop⟩
end Go.Proofs.YtkfedbncmfnpnaaGreatDoor
/- A log on a disk: records as bytes; what a record does to the log in memory. Condition: bounds on lengths. -/
namespace Go.Proofs.YtkfedbncmfnpnaaGreatDoor
set_option linter.unusedVariables false
set_option linter.unusedSimpArgs false
open Go Go.VC
variable {R R':Cx} {Hs Rest:List HP} {w:World}
def nums8 (l:List Int):List Int:=(l.map fun x=>numB x.toNat).flatten
theorem nums8_take {l:List Int} {k:Nat} (hk:k<l.length):nums8 (l.take (k + 1))=nums8 (l.take k)++numB l[k].toNat:=by
 unfold nums8
 rw [List.take_add_one,List.getElem?_eq_getElem hk,List.map_append,List.flatten_append]
 simp
theorem nums8_len:∀ {l:List Int},(∀ x∈l,0≤x∧x<9223372036854775808)→(nums8 l).length≤9 * l.length
 |[],_=>by simp [nums8]
 |x::l,h=>by
  have h1:=h x (List.mem_cons_self ..)
  have:=numB_len (n:=x.toNat) (by omega)
  have h2:=nums8_len fun y hy=>h y (List.mem_cons_of_mem _ hy)
  unfold nums8 at h2 ⊢
  simp only [List.map_cons,List.flatten_cons,List.length_append,List.length_cons]
  omega
theorem nums8_bd {l:List Int} (h:∀ x∈l,0≤x∧x<9223372036854775808):∀ x∈nums8 l,0≤x∧x<256:=fun x hx=>by
 unfold nums8 at hx
 rw [List.mem_flatten] at hx
 obtain ⟨r,hr,hx⟩:=hx
 obtain ⟨y,hy,rfl⟩:=List.mem_map.1 hr
 have:=h y hy
 exact numB_bd (by omega) x hx
theorem textB_bd {d:List Int} (hl:d.length≤4096) (h:∀ x∈d,0≤x∧x<256):∀ x∈textB d,0≤x∧x<256:=mem_app4 (numB_bd (by omega)) h
theorem textB_len {d:List Int} (hl:d.length≤4096):(textB d).length≤9 + d.length:=by
 have:=numB_len (n:=d.length) (by omega)
 unfold textB
 simp only [List.length_append]
 omega
theorem ro_new {b n:Nat} {xs:List Value} {T:TypeId} (hl:xs.length≤9223372036854775807) (hn:n=xs.length) (hc:R.m b=.none):Ro (R.add (Heap.one b (.cells xs.toArray T (0,0)))) ⟨some ⟨b,0,none⟩,n,n⟩ xs:=by
 subst hn
 exact ⟨rfl,hl,fun _=>⟨b,0,_,T,(0,0),rfl,Cx.lent hc,fun i v h=>by simpa using h⟩⟩
def encB (xs:List Int) (t:Option (List Int)):List Int:=recB (nums8 xs++match t with|some d=>textB d|none=>[])
theorem encoded_spec {sd sl:Sl} {xs:List Int} {t:Option (List Int)} (hx:∀ x∈xs,0≤x∧x<9223372036854775808) (hxl:xs.length≤10) (hd:∀ d,t=some d→Ro R sd (b8 d)∧d.length≤4096∧∀ x∈d,0≤x∧x<256) (hl:Ro R sl (xs.map (Value.int .i64))) (hw:Sat R Hs w):
  Gets Tryz.prog 64 #[.slice sd.a sd.len sd.cap,.bool t.isSome,.slice sl.a sl.len sl.cap] w fun v w'=>∃ s:Sl,v=.slice s.a s.len s.cap∧Sat R (Own s 5 (b8 (encB xs t))::Hs) w':=by
 have hsl:sl.len=xs.length:=by have:=hl.len;simpa using this
 apply call64
 refine ⟨fun b i w=>∃ k:Nat,i=k∧k≤xs.length∧Sat R (Own b 5 (b8 (nums8 (xs.take k)))::Hs) w,fun _ i _=>xs.length - i.toNat,⟨0,rfl,by omega,Own.nil hw⟩,?_⟩
 clear hw
 rintro _ b _ w ⟨k,rfl,hk,hw⟩
 refine Br.d (fun h=>?_) (fun h=>?_)
 ·have hk':k<xs.length:=by omega
  refine hl.ix (eqS hw) k rfl hk' ?_
  have hxk:=hx xs[k] (List.getElem_mem _)
  rw [wrapU64 hxk.1 (by omega),show xs[k]=((xs[k].toNat:Nat):Int) by omega]
  refine (number_spec (by omega) hw).use ?_
  rintro _ w ⟨s,rfl,hw⟩
  refine ⟨s,rfl,?_⟩
  have hn:=numB_len (n:=xs[k].toNat) (by omega)
  have hn2:=nums8_len (l:=xs.take k) fun y hy=>hx y (List.mem_of_mem_take hy)
  have hn3:(xs.take k).length=k:=by simp;omega
  refine appendOO elB8 (s:=b) (t:=s) (n:=200) Tryz.underlying53 hw.swap (by omega) (by omega) (by omega) fun s2 w hw=>?_
  rw [←nums8_take hk'] at hw
  exact ⟨⟨k + 1,by rw [wrap64 (by omega) (by omega)];omega,by omega,hw.swap.drop⟩,by dsimp only;rw [wrap64 (by omega) (by omega)];omega⟩
 ·have:k=xs.length:=by omega
  subst this
  rw [List.take_length] at hw
  have hn2:=nums8_len hx
  have hnb:=nums8_bd hx
  cases t with
  |none=>
   refine Br.f rfl ?_
   have hlen:=Own.len hw
   obtain ⟨R1,hr1,_,hw,back⟩:=Own.lend hw (by rw [List.length_map];omega)
   refine (rput_spec hnb hr1 hw).use ?_
   rintro _ w (⟨h,_⟩|⟨_,t,rfl,hw⟩)
   ·omega
   refine ⟨t,0,rfl,t,rfl,?_⟩
   unfold encB
   rw [List.append_nil]
   exact (back hw).drop
  |some d=>
   obtain ⟨hd1,hd2,hd3⟩:=hd d rfl
   refine Br.t rfl ?_
   refine (ftext_spec hd1 (by omega) hw).use ?_
   rintro _ w ⟨s,rfl,hw⟩
   have hn4:=textB_len hd2
   refine ⟨s,rfl,?_⟩
   refine appendOO elB8 (s:=b) (t:=s) (n:=5000) Tryz.underlying53 hw.swap (by omega) (by omega) (by omega) fun s2 w hw=>?_
   have hw:=hw.swap.drop
   have hbb:∀ x∈nums8 xs++textB d,0≤x∧x<256:=mem_app4 hnb (textB_bd hd2 hd3)
   obtain ⟨R1,hr1,_,hw,back⟩:=Own.lend hw (by rw [List.length_map,List.length_append];omega)
   refine (rput_spec hbb hr1 hw).use ?_
   rintro _ w (⟨h,_⟩|⟨_,t,rfl,hw⟩)
   ·rw [List.length_append] at h;omega
   exact ⟨t,0,rfl,t,rfl,(back hw).drop⟩
theorem encB_hd (n:Nat) (x:Int):encB [0,n,x] none=headB n x:=by
 unfold encB headB hdB nums8
 simp
theorem encB_ent (x:Ey):encB [1,x.ix,x.tm,x.kd] (some x.dt)=recB (entB x):=by
 unfold encB entB nums8
 simp
theorem encB_cut (x:Int):encB [2,x] none=recB (cutB x):=by
 unfold encB cutB nums8
 simp
theorem encB_res (x:Int):encB [3,x] none=recB (resB x):=by
 unfold encB resB nums8
 simp
end Go.Proofs.YtkfedbncmfnpnaaGreatDoor
/- The formulas of functions of this seat's translation, printed by a program of mine off the translation; each is proved equal to 'fnF' of the function's body, so it is enough for the call. No condition. -/
namespace Go.Proofs.YtkfedbncmfnpnaaGreatDoor
open Go Go.VC
set_option linter.unusedVariables false
set_option maxRecDepth 10000
def B22 (f:Option Addr) (K:Value→World→Prop) (w:World):Prop:=
 NilP f fun b=>
 ∃ e:Bool,(At (fun a=>a=w) ⟨b.block,b.off + 5,none⟩ [.bool e])∧
 Br e
 (K (.int .i64 0) w)
 (NilP f fun c=>
 ∃ d:Int,(At (fun a=>a=w) ⟨c.block,c.off + 2,none⟩ [.int .i64 d])∧
 K (.int .i64 (IntKind.i64.wrap (d + 1))) w)
theorem call22 (a:Option Addr) (K:Value→World→Prop) (w:World) (h:B22 a K w):Gets Tryz.prog 22 #[.pointer a] w K:=cq (sk:=.leaf) Tryz.func22 (by kernel_rfl) (by kernel_rfl) (by kernel_rfl) h
def B24 (e:Option Addr) (K:Value→World→Prop) (w:World):Prop:=
 NilP e fun a=>
 ∃ d:Bool,(At (fun g=>g=w) ⟨a.block,a.off + 5,none⟩ [.bool d])∧
 Br d
 (K (.int .i64 0) w)
 (NilP e fun b=>
 Calls Tryz.prog 52 #[.pointer ((some ⟨b.block,b.off + 2,none⟩))] w fun f i=>
 ∃ c:Int,(f=.returned (.int .i64 c))∧
 K (.int .i64 c) i)
theorem call24 (a:Option Addr) (K:Value→World→Prop) (w:World) (h:B24 a K w):Gets Tryz.prog 24 #[.pointer a] w K:=cq (sk:=.leaf) Tryz.func24 (by kernel_rfl) (by kernel_rfl) (by kernel_rfl) h
def B59 (x:Int) (y:Int) (z:Int) (k:Sl) (K:Value→World→Prop) (w:World):Prop:=
 New (.cells #[.int .i64 x,.int .i64 y,.int .i64 z,.slice k.a k.len k.cap] 55 (0,0)) (fun g u=>
 New (.cells #[.int .i64 0,.int .i64 0,.int .i64 0,.slice none 0 0] 55 (0,0)) (fun l s=>
 ∃ b:Sl,(At (fun f=>f=s) ⟨g,0 + 3,none⟩ [.slice b.a b.len b.cap])∧
 Calls Tryz.prog 98 #[.slice b.a b.len b.cap] s fun t v=>
 ∃ c:Sl,(t=.returned (.slice c.a c.len c.cap))∧
 ∃ i:World,((Instr.storeAt 53 (.pointer ((some ⟨g,0 + 3,none⟩))) (.slice c.a c.len c.cap)).run Tryz.prog v=.ok () i)∧
 ∃ m:Int,∃ n:Int,∃ o:Int,∃ d:Sl,(At (fun f=>f=i) ⟨g,0,none⟩ [.int .i64 m,.int .i64 n,.int .i64 o,.slice d.a d.len d.cap])∧
 ∃ j:World,((Instr.storeAt 55 (.pointer ((some ⟨l,0,none⟩))) (.agg #[.int .i64 m,.int .i64 n,.int .i64 o,.slice d.a d.len d.cap])).run Tryz.prog i=.ok () j)∧
 ∃ p:Int,∃ q:Int,∃ r:Int,∃ e:Sl,(At (fun f=>f=j) ⟨l,0,none⟩ [.int .i64 p,.int .i64 q,.int .i64 r,.slice e.a e.len e.cap])∧
 K (.agg #[.int .i64 p,.int .i64 q,.int .i64 r,.slice e.a e.len e.cap]) j) u) w
theorem call59 (c:Int) (d:Int) (e:Int) (b:Sl) (K:Value→World→Prop) (w:World) (h:B59 c d e b K w):Gets Tryz.prog 59 #[.agg #[.int .i64 c,.int .i64 d,.int .i64 e,.slice b.a b.len b.cap]] w K:=cq (sk:=.leaf) Tryz.func59 (by kernel_rfl) (by kernel_rfl) (by kernel_rfl) h
def B21 (n:Option Addr) (c:Int) (e:Int) (K:Value→World→Prop) (w:World):Prop:=
 ∃ (t:World→Prop),(NilP n fun v=>
 ∃ D:Bool,(At (fun i=>i=w) ⟨v.block,v.off + 5,none⟩ [.bool D])∧
 Br D
 (K (.slice none 0 0) w)
 (NilP n fun x=>
 ∃ E:Int,(At (fun i=>i=w) ⟨x.block,x.off + 2,none⟩ [.int .i64 E])∧
 Br (decide (c≤E))
 (K (.slice none 0 0) w)
 (NilP n fun y=>
 Calls Tryz.prog 52 #[.pointer ((some ⟨y.block,y.off + 2,none⟩))] w fun Y q=>
 ∃ F:Int,(Y=.returned (.int .i64 F))∧
 Br (decide (c>F))
 (K (.slice none 0 0) q)
 (Br (decide (e<1))
 (K (.slice none 0 0) q)
 (t  q)))))∧
 ∀ (ae:Env)  (T:World),t  T→
 Drw T fun u aa=>
 NilP n fun z=>
 ∃ b:Sl,(At u ⟨z.block,z.off + 2 + 1,none⟩ [.slice b.a b.len b.cap])∧
 NilP n fun A=>
 ∃ d:Int,(At u ⟨A.block,A.off + 2,none⟩ [.int .i64 d])∧
 ((0:Int)≤IntKind.i64.wrap (IntKind.i64.wrap (c - 1) - d))∧
 ((IntKind.i64.wrap (IntKind.i64.wrap (c - 1) - d):Int)≤(↑b.len:Int))∧
 ((0:Int)≤if (↑(b.len - (IntKind.i64.wrap (IntKind.i64.wrap (c - 1) - d)).toNat):Int)<e then (↑(b.len - (IntKind.i64.wrap (IntKind.i64.wrap (c - 1) - d)).toNat):Int) else e)∧
 ((if (↑(b.len - (IntKind.i64.wrap (IntKind.i64.wrap (c - 1) - d)).toNat):Int)<e then (↑(b.len - (IntKind.i64.wrap (IntKind.i64.wrap (c - 1) - d)).toNat):Int) else e:Int)≤(↑(b.cap - (IntKind.i64.wrap (IntKind.i64.wrap (c - 1) - d)).toNat):Int))∧
 ∃ (p:Sl→Int→World→Prop) (U:Sl→Int→World→Nat),(p ⟨none,0,0⟩ 0 aa)∧∀ (af:Env) (f:Sl) (g:Int) (o:World),p f g o→
 Br (decide (g<(↑(if (↑(b.len - (IntKind.i64.wrap (IntKind.i64.wrap (c - 1) - d)).toNat):Int)<e then (↑(b.len - (IntKind.i64.wrap (IntKind.i64.wrap (c - 1) - d)).toNat):Int) else e).toNat:Int)))
 (Rng g ((if (↑(b.len - (IntKind.i64.wrap (IntKind.i64.wrap (c - 1) - d)).toNat):Int)<e then (↑(b.len - (IntKind.i64.wrap (IntKind.i64.wrap (c - 1) - d)).toNat):Int) else e).toNat) (NilP (cutA b.a (IntKind.i64.wrap (IntKind.i64.wrap (c - 1) - d)).toNat b.cap 4) fun V=>
 ∃ G:Int,∃ H:Int,∃ I:Int,∃ j:Sl,(At (fun i=>i=o) (Addr.add V (mulS g.toNat 4)) [.int .i64 G,.int .i64 H,.int .i64 I,.slice j.a j.len j.cap])∧
 New (.cells #[.int .i64 0,.int .i64 0,.int .i64 0,.slice none 0 0] 55 (0,0)) (fun C ab=>
 ∃ r:World,((Instr.storeAt 55 (.pointer ((some ⟨C,0,none⟩))) (.agg #[.int .i64 G,.int .i64 H,.int .i64 I,.slice j.a j.len j.cap])).run Tryz.prog ab=.ok () r)∧
 ∃ J:Int,∃ L:Int,∃ M:Int,∃ k:Sl,(At (fun i=>i=r) ⟨C,0,none⟩ [.int .i64 J,.int .i64 L,.int .i64 M,.slice k.a k.len k.cap])∧
 Calls Tryz.prog 59 #[.agg #[.int .i64 J,.int .i64 L,.int .i64 M,.slice k.a k.len k.cap]] r fun Z ac=>
 ∃ N:Int,∃ O:Int,∃ Q:Int,∃ l:Sl,(Z=.returned (.agg #[.int .i64 N,.int .i64 O,.int .i64 Q,.slice l.a l.len l.cap]))∧
 New (.cells #[.int .i64 N,.int .i64 O,.int .i64 Q,.slice l.a l.len l.cap] 55 (0,0)) (fun X ad=>
 ∃ s:World,∃ m:Sl,((Builtin.append_ #[40,40] 40 #[.slice f.a f.len f.cap,.slice ((some ⟨X,0,none⟩)) 1 1]).run Tryz.prog ad=.ok (.slice m.a m.len m.cap) s)∧
 (p m (IntKind.i64.wrap (g + 1)) s)∧U m (IntKind.i64.wrap (g + 1)) s<U f g o) ac) o))
 (K (.slice f.a f.len f.cap) o)
def sk21:Sk:=(.seq .leaf (.cut [] [] [6,11,12,13,14,15,16,17,18,19,20,21,22,23,24,25,26,27,28,29,30,31,32,33,34,35] .leaf (.seq .leaf (.seq .leaf (.seq (.seq .leaf (.block (.loop [7,57] [.sl,(.int .i64)] [7,10,57,58,59,60,61,62,63,64,65,66] .leaf))) .leaf)))))
theorem call21 (c:Option Addr) (a:Int) (b:Int) (K:Value→World→Prop) (w:World) (h:B21 c a b K w):Gets Tryz.prog 21 #[.pointer c,.int .i64 a,.int .i64 b] w K:=cq (sk:=sk21) Tryz.func21 (by kernel_rfl) (by kernel_rfl) (by kernel_rfl) h
def B53 (e:Option Addr) (i:Value) (K:Value→World→Prop) (w:World):Prop:=
 NilP e fun c=>
 ∃ d:Bool,(At (fun j=>j=w) ⟨c.block,c.off + 5,none⟩ [.bool d])∧
 Br d
 (K (.int .i64 8) w)
 (CalW Tryz.prog cl i [] w fun g k=>
 ∃ a:Int,(g=.returned (.int .i64 a))∧
 NilP e fun b=>
 ∃ f:World,((Instr.storeAt 4 (.pointer ((some ⟨b.block,b.off + 5,none⟩))) (.bool (a !=0))).run Tryz.prog k=.ok () f)∧
 K (.int .i64 a) f)
theorem call53 (b:Option Addr) (a:Value) (K:Value→World→Prop) (w:World) (h:B53 b a K w):Gets Tryz.prog 53 #[.pointer b,a] w K:=cq (sk:=.leaf) Tryz.func53 (by kernel_rfl) (by kernel_rfl) (by kernel_rfl) h
def B61 (g:Option Addr) (K:Value→World→Prop) (w:World):Prop:=
 Drw w fun d j=>
 NilP g fun e=>
 ∃ c:Sl,(At d ⟨e.block,e.off + 4,none⟩ [.slice c.a c.len c.cap])∧
 NilP g fun f=>
 ∃ b:Sl,(At d ⟨f.block,f.off + 4,none⟩ [.slice b.a b.len b.cap])∧
 Rng (IntKind.i64.wrap ((↑b.len:Int) - 1)) c.len (NilP c.a fun i=>
 K (.pointer ((some (Addr.add i (mulS (IntKind.i64.wrap ((↑b.len:Int) - 1)).toNat 3))))) j)
theorem call61 (a:Option Addr) (K:Value→World→Prop) (w:World) (h:B61 a K w):Gets Tryz.prog 61 #[.pointer a] w K:=cq (sk:=.leaf) Tryz.func61 (by kernel_rfl) (by kernel_rfl) (by kernel_rfl) h
def B63 (f:Option Addr) (c:Sl) (K:Value→World→Prop) (w:World):Prop:=
 Drw w fun b E=>
 NilP f fun x=>
 ∃ q:Option Addr,(At b (Addr.add x 0) [.pointer q])∧
 Calls Tryz.prog 61 #[.pointer f] E fun y r=>
 ∃ k:Option Addr,(y=.returned (.pointer k))∧
 (b r)∧
 NilP k fun v=>
 ∃ l:Int,∃ m:Int,∃ n:Int,(At b v [.int .i64 l,.int .i64 m,.int .i64 n])∧
 Calls Tryz.prog 57 #[.agg #[.int .i64 l,.int .i64 m,.int .i64 n]] r fun z s=>
 ∃ o:ByteArray,(z=.returned (.string o))∧
 (b s)∧
 Calls Tryz.prog 35 #[.pointer q,.string o,.slice c.a c.len c.cap] s fun A g=>
 ∃ d:Int,(A=.returned (.int .i64 d))∧
 (b g)∧
 Br (d==0)
 (Calls Tryz.prog 61 #[.pointer f] g fun C t=>
 ∃ e:Option Addr,(C=.returned (.pointer e))∧
 NilP e fun i=>
 ∃ p:Int,(At (fun D=>D=t) ⟨i.block,i.off + 2,none⟩ [.int .i64 p])∧
 NilP e fun j=>
 ∃ u:World,((Instr.storeAt 3 (.pointer ((some ⟨j.block,j.off + 2,none⟩))) (.int .i64 (IntKind.i64.wrap (p + (↑c.len:Int))))).run Tryz.prog t=.ok () u)∧
 K (.int .i64 d) u)
 (K (.int .i64 d) g)
theorem call63 (c:Option Addr) (b:Sl) (K:Value→World→Prop) (w:World) (h:B63 c b K w):Gets Tryz.prog 63 #[.pointer c,.slice b.a b.len b.cap] w K:=cq (sk:=.leaf) Tryz.func63 (by kernel_rfl) (by kernel_rfl) (by kernel_rfl) h
def B50 (n:Int) (o:Int) (p:Int) (f:Sl) (K:Value→World→Prop) (w:World):Prop:=
 New (.cells #[.int .i64 n,.int .i64 o,.int .i64 p,.slice f.a f.len f.cap] 55 (0,0)) (fun d b=>
 ∃ l:Int,(At (fun c=>c=b) ⟨d,0,none⟩ [.int .i64 l])∧
 Br (decide (l ≥ 1))
 (∃ m:Int,(At (fun c=>c=b) ⟨d,0,none⟩ [.int .i64 m])∧
 Br (decide (m≤1099511627776))
 (∃ g:Int,(At (fun c=>c=b) ⟨d,0 + 1,none⟩ [.int .i64 g])∧
 Br (decide (g ≥ 0))
 (∃ i:Int,(At (fun c=>c=b) ⟨d,0 + 1,none⟩ [.int .i64 i])∧
 Br (decide (i≤1099511627776))
 (∃ j:Int,(At (fun c=>c=b) ⟨d,0 + 2,none⟩ [.int .i64 j])∧
 Br (decide (j ≥ 0))
 (∃ k:Int,(At (fun c=>c=b) ⟨d,0 + 2,none⟩ [.int .i64 k])∧
 Br (decide (k≤7))
 (∃ e:Sl,(At (fun c=>c=b) ⟨d,0 + 3,none⟩ [.slice e.a e.len e.cap])∧
 K (.bool (decide ((↑e.len:Int)≤4096))) b)
 (K (.bool false) b))
 (K (.bool false) b))
 (K (.bool false) b))
 (K (.bool false) b))
 (K (.bool false) b))
 (K (.bool false) b)) w
theorem call50 (c:Int) (d:Int) (e:Int) (b:Sl) (K:Value→World→Prop) (w:World) (h:B50 c d e b K w):Gets Tryz.prog 50 #[.agg #[.int .i64 c,.int .i64 d,.int .i64 e,.slice b.a b.len b.cap]] w K:=cq (sk:=.leaf) Tryz.func50 (by kernel_rfl) (by kernel_rfl) (by kernel_rfl) h
def B18 (N:Option Addr) (o:Sl) (K:Value→World→Prop) (w:World):Prop:=
 New (.cells #[.pointer N] 31 (0,0)) (fun j O=>
 New (.cells #[.slice o.a o.len o.cap] 40 (0,0)) (fun n i=>
 ∃ F:Option Addr,(At (fun b=>b=i) ⟨j,0,none⟩ [.pointer F])∧
 NilP F fun q=>
 ∃ t:Bool,(At (fun b=>b=i) ⟨q.block,q.off + 5,none⟩ [.bool t])∧
 Br t
 (K (.int .i64 8) i)
 (∃ d:Sl,(At (fun b=>b=i) ⟨n,0,none⟩ [.slice d.a d.len d.cap])∧
 Calls Tryz.prog 51 #[.slice d.a d.len d.cap,.func (.func 49) #[] #[]] i fun J p=>
 ∃ u:Bool,(J=.returned (.bool u))∧
 Br u
 (K (.int .i64 1) p)
 (∃ e:Sl,(At (fun b=>b=p) ⟨n,0,none⟩ [.slice e.a e.len e.cap])∧
 ∃ (l:Int→World→Prop) (H:Int→World→Nat),(l 0 p)∧∀ (V:Env) (c:Int) (g:World),l c g→
 Br (decide (c<(↑e.len:Int)))
 (Rng c e.len (NilP e.a fun I=>
 ∃ v:Int,∃ x:Int,∃ y:Int,∃ f:Sl,(At (fun b=>b=g) (Addr.add I (mulS c.toNat 4)) [.int .i64 v,.int .i64 x,.int .i64 y,.slice f.a f.len f.cap])∧
 New (.cells #[.int .i64 0,.int .i64 0,.int .i64 0,.slice none 0 0] 55 (0,0)) (fun s Q=>
 ∃ G:World,((Instr.storeAt 55 (.pointer ((some ⟨s,0,none⟩))) (.agg #[.int .i64 v,.int .i64 x,.int .i64 y,.slice f.a f.len f.cap])).run Tryz.prog Q=.ok () G)∧
 Drw G fun m T=>
 ∃ z:Int,(At m ⟨s,0,none⟩ [.int .i64 z])∧
 ∃ A:Option Addr,(At m ⟨j,0,none⟩ [.pointer A])∧
 NilP A fun r=>
 Calls Tryz.prog 52 #[.pointer ((some ⟨r.block,r.off + 2,none⟩))] T fun L k=>
 ∃ C:Int,(L=.returned (.int .i64 C))∧
 (m k)∧
 Br (z !=IntKind.i64.wrap (IntKind.i64.wrap (C + 1) + c))
 (K (.int .i64 7) k)
 ((l (IntKind.i64.wrap (c + 1)) k)∧H (IntKind.i64.wrap (c + 1)) k<H c g)) g))
 (∃ D:Option Addr,(At (fun b=>b=g) ⟨j,0,none⟩ [.pointer D])∧
 Calls Tryz.prog 53 #[.pointer D,.func (.func 54) #[] #[.pointer ((some ⟨n,0,none⟩)),.pointer ((some ⟨j,0,none⟩))]] g fun M U=>
 ∃ E:Int,(M=.returned (.int .i64 E))∧
 K (.int .i64 E) U)))) O) w
def sk18:Sk:=(.seq .leaf (.seq .leaf (.seq .leaf (.seq (.seq .leaf (.block (.loop [19] [(.int .i64)] [4,6,7,19,20,21,22,23,24,25,26,27,28,29,30,31,32,33,34] .leaf))) .leaf))))
theorem call18 (c:Option Addr) (b:Sl) (K:Value→World→Prop) (w:World) (h:B18 c b K w):Gets Tryz.prog 18 #[.pointer c,.slice b.a b.len b.cap] w K:=cq (sk:=sk18) Tryz.func18 (by kernel_rfl) (by kernel_rfl) (by kernel_rfl) h
def B49 (n:Int) (o:Int) (p:Int) (c:Sl) (K:Value→World→Prop) (w:World):Prop:=
 New (.cells #[.int .i64 n,.int .i64 o,.int .i64 p,.slice c.a c.len c.cap] 55 (0,0)) (fun j i=>
 ∃ d:Int,∃ e:Int,∃ f:Int,∃ b:Sl,(At (fun l=>l=i) ⟨j,0,none⟩ [.int .i64 d,.int .i64 e,.int .i64 f,.slice b.a b.len b.cap])∧
 Calls Tryz.prog 50 #[.agg #[.int .i64 d,.int .i64 e,.int .i64 f,.slice b.a b.len b.cap]] i fun k m=>
 ∃ g:Bool,(k=.returned (.bool g))∧
 K (.bool (!g)) m) w
theorem call49 (c:Int) (d:Int) (e:Int) (b:Sl) (K:Value→World→Prop) (w:World) (h:B49 c d e b K w):Gets Tryz.prog 49 #[.agg #[.int .i64 c,.int .i64 d,.int .i64 e,.slice b.a b.len b.cap]] w K:=cq (sk:=.leaf) Tryz.func49 (by kernel_rfl) (by kernel_rfl) (by kernel_rfl) h
def B54 (z:Option Addr) (A:Option Addr) (K:Value→World→Prop) (w:World):Prop:=
 NilP z fun y=>
 ∃ f:Sl,(At (fun c=>c=w) y [.slice f.a f.len f.cap])∧
 ∃ (j:Int→World→Prop) (u:Int→World→Nat),(j 0 w)∧∀ (E:Env) (b:Int) (g:World),j b g→
 Br (decide (b<(↑f.len:Int)))
 (Rng b f.len (NilP f.a fun v=>
 ∃ n:Int,∃ o:Int,∃ p:Int,∃ d:Sl,(At (fun c=>c=g) (Addr.add v (mulS b.toNat 4)) [.int .i64 n,.int .i64 o,.int .i64 p,.slice d.a d.len d.cap])∧
 New (.cells #[.int .i64 0,.int .i64 0,.int .i64 0,.slice none 0 0] 55 (0,0)) (fun m D=>
 ∃ i:World,((Instr.storeAt 55 (.pointer ((some ⟨m,0,none⟩))) (.agg #[.int .i64 n,.int .i64 o,.int .i64 p,.slice d.a d.len d.cap])).run Tryz.prog D=.ok () i)∧
 NilP A fun x=>
 ∃ q:Option Addr,(At (fun c=>c=i) x [.pointer q])∧
 ∃ r:Int,∃ s:Int,∃ t:Int,∃ e:Sl,(At (fun c=>c=i) ⟨m,0,none⟩ [.int .i64 r,.int .i64 s,.int .i64 t,.slice e.a e.len e.cap])∧
 Calls Tryz.prog 55 #[.pointer q,.agg #[.int .i64 r,.int .i64 s,.int .i64 t,.slice e.a e.len e.cap]] i fun C l=>
 ∃ k:Int,(C=.returned (.int .i64 k))∧
 Br (k !=0)
 (K (.int .i64 k) l)
 ((j (IntKind.i64.wrap (b + 1)) l)∧u (IntKind.i64.wrap (b + 1)) l<u b g)) g))
 (K (.int .i64 0) g)
def sk54:Sk:=(.seq .leaf (.seq (.seq .leaf (.block (.loop [8] [(.int .i64)] [2,4,5,8,9,10,11,12,13,14,15,16,17,18] .leaf))) .leaf))
theorem call54 (a:Option Addr) (b:Option Addr) (K:Value→World→Prop) (w:World) (h:B54 a b K w):Gets Tryz.prog 54 #[.pointer a,.pointer b] w K:=cq (sk:=sk54) Tryz.func54 (by kernel_rfl) (by kernel_rfl) (by kernel_rfl) h
def B55 (av:Option Addr) (a1:Int) (a2:Int) (a3:Int) (u:Sl) (K:Value→World→Prop) (w:World):Prop:=
 New (.cells #[.pointer av] 31 (0,0)) (fun d aw=>
 New (.cells #[.int .i64 a1,.int .i64 a2,.int .i64 a3,.slice u.a u.len u.cap] 55 (0,0)) (fun l ae=>
 ∃ (o:World→Prop),(∃ X:Option Addr,(At (fun r=>r=ae) ⟨d,0,none⟩ [.pointer X])∧
 Calls Tryz.prog 61 #[.pointer X] ae fun ao af=>
 ∃ Y:Option Addr,(ao=.returned (.pointer Y))∧
 NilP Y fun ak=>
 ∃ z:Int,∃ A:Int,∃ C:Int,(At (fun r=>r=af) ak [.int .i64 z,.int .i64 A,.int .i64 C])∧
 New (.cells #[.int .i64 0,.int .i64 0,.int .i64 0] 96 (0,0)) (fun m az=>
 ∃ ag:World,((Instr.storeAt 96 (.pointer ((some ⟨m,0,none⟩))) (.agg #[.int .i64 z,.int .i64 A,.int .i64 C])).run Tryz.prog az=.ok () ag)∧
 Drw ag fun p ah=>
 ∃ D:Int,(At p ⟨m,0 + 2,none⟩ [.int .i64 D])∧
 ∃ E:Option Addr,(At p ⟨d,0,none⟩ [.pointer E])∧
 NilP E fun v=>
 ∃ F:Int,(At p ⟨v.block,v.off + 1,none⟩ [.int .i64 F])∧
 Br (decide (D ≥ F))
 (New (.cells #[.func (.func 101) #[] #[.pointer ((some ⟨d,0,none⟩)),.pointer ((some ⟨m,0,none⟩))],.func (.func 102) #[] #[.pointer ((some ⟨d,0,none⟩)),.pointer ((some ⟨m,0,none⟩))]] 52 (0,0)) (fun al a0=>
 Calls Tryz.prog 90 #[.slice ((some ⟨al,0,none⟩)) 2 2] a0 fun ap ai=>
 ∃ q:Int,(ap=.returned (.int .i64 q))∧
 Br (q !=0)
 (K (.int .i64 q) ai)
 (o  ai)) ah)
 (o  ah)) af)∧
 ∀ (a4:Env)  (aj:World),o  aj→
 Drw aj fun b ax=>
 ∃ G:Option Addr,(At b ⟨d,0,none⟩ [.pointer G])∧
 ∃ e:Sl,(At b ⟨l,0 + 3,none⟩ [.slice e.a e.len e.cap])∧
 ∃ H:Int,(At b ⟨l,0,none⟩ [.int .i64 H])∧
 ∃ I:Int,(At b ⟨l,0 + 1,none⟩ [.int .i64 I])∧
 ∃ J:Int,(At b ⟨l,0 + 2,none⟩ [.int .i64 J])∧
 New (.cells #[.int .i64 1,.int .i64 H,.int .i64 I,.int .i64 J] 3 (0,0)) (fun am Z=>
 (b Z)∧
 Calls Tryz.prog 64 #[.slice e.a e.len e.cap,.bool true,.slice ((some ⟨am,0,none⟩)) 4 4] Z fun aq aa=>
 ∃ f:Sl,(aq=.returned (.slice f.a f.len f.cap))∧
 (b aa)∧
 Calls Tryz.prog 63 #[.pointer G,.slice f.a f.len f.cap] aa fun ar s=>
 ∃ n:Int,(ar=.returned (.int .i64 n))∧
 (b s)∧
 Br (n==0)
 (Drw s fun c ay=>
 ∃ L:Option Addr,(At c ⟨d,0,none⟩ [.pointer L])∧
 ∃ M:Option Addr,(At c ⟨d,0,none⟩ [.pointer M])∧
 NilP M fun x=>
 ∃ g:Sl,(At c ⟨x.block,x.off + 2 + 1,none⟩ [.slice g.a g.len g.cap])∧
 ∃ N:Int,∃ O:Int,∃ Q:Int,∃ i:Sl,(At c ⟨l,0,none⟩ [.int .i64 N,.int .i64 O,.int .i64 Q,.slice i.a i.len i.cap])∧
 Calls Tryz.prog 59 #[.agg #[.int .i64 N,.int .i64 O,.int .i64 Q,.slice i.a i.len i.cap]] ay fun au ab=>
 ∃ T:Int,∃ U:Int,∃ V:Int,∃ j:Sl,(au=.returned (.agg #[.int .i64 T,.int .i64 U,.int .i64 V,.slice j.a j.len j.cap]))∧
 (c ab)∧
 New (.cells #[.int .i64 T,.int .i64 U,.int .i64 V,.slice j.a j.len j.cap] 55 (0,0)) (fun an ac=>
 (c ac)∧
 ∃ t:World,∃ k:Sl,((Builtin.append_ #[40,40] 40 #[.slice g.a g.len g.cap,.slice ((some ⟨an,0,none⟩)) 1 1]).run Tryz.prog ac=.ok (.slice k.a k.len k.cap) t)∧
 (c t)∧
 NilP L fun y=>
 ∃ ad:World,((Instr.storeAt 40 (.pointer ((some ⟨y.block,y.off + 2 + 1,none⟩))) (.slice k.a k.len k.cap)).run Tryz.prog t=.ok () ad)∧
 K (.int .i64 n) ad) ab)
 (K (.int .i64 n) s)) ax) aw) w
def sk55:Sk:=(.seq .leaf (.cut [] [] [4,5,6,8,9,10,11,12,13,14,15,16,17,18,19,20,21,22,23,24,25] .leaf .leaf))
theorem call55 (c:Option Addr) (d:Int) (e:Int) (f:Int) (b:Sl) (K:Value→World→Prop) (w:World) (h:B55 c d e f b K w):Gets Tryz.prog 55 #[.pointer c,.agg #[.int .i64 d,.int .i64 e,.int .i64 f,.slice b.a b.len b.cap]] w K:=cq (sk:=sk55) Tryz.func55 (by kernel_rfl) (by kernel_rfl) (by kernel_rfl) h
def B101 (o:Option Addr) (p:Option Addr) (K:Value→World→Prop) (w:World):Prop:=
 Drw w fun a s=>
 NilP o fun l=>
 ∃ b:Option Addr,(At a l [.pointer b])∧
 NilP b fun m=>
 ∃ c:Option Addr,(At a (Addr.add m 0) [.pointer c])∧
 NilP p fun n=>
 ∃ d:Int,∃ e:Int,∃ f:Int,(At a n [.int .i64 d,.int .i64 e,.int .i64 f])∧
 Calls Tryz.prog 57 #[.agg #[.int .i64 d,.int .i64 e,.int .i64 f]] s fun q j=>
 ∃ g:ByteArray,(q=.returned (.string g))∧
 (a j)∧
 Calls Tryz.prog 37 #[.pointer c,.string g] j fun r k=>
 ∃ i:Int,(r=.returned (.int .i64 i))∧
 (a k)∧
 K (.int .i64 i) k
theorem call101 (a:Option Addr) (b:Option Addr) (K:Value→World→Prop) (w:World) (h:B101 a b K w):Gets Tryz.prog 101 #[.pointer a,.pointer b] w K:=cq (sk:=.leaf) Tryz.func101 (by kernel_rfl) (by kernel_rfl) (by kernel_rfl) h
def B102 (c:Option Addr) (o:Option Addr) (K:Value→World→Prop) (w:World):Prop:=
 Drw w fun a r=>
 NilP c fun l=>
 ∃ f:Option Addr,(At a l [.pointer f])∧
 NilP o fun m=>
 ∃ g:Int,(At a (Addr.add m 0) [.int .i64 g])∧
 NilP c fun n=>
 ∃ i:Option Addr,(At a n [.pointer i])∧
 NilP i fun b=>
 Calls Tryz.prog 52 #[.pointer ((some ⟨b.block,b.off + 2,none⟩))] r fun p j=>
 ∃ d:Int,(p=.returned (.int .i64 d))∧
 (a j)∧
 Calls Tryz.prog 89 #[.pointer f,.int .i64 (IntKind.i64.wrap (g + 1)),.int .i64 (IntKind.i64.wrap (d + 1))] j fun q k=>
 ∃ e:Int,(q=.returned (.int .i64 e))∧
 (a k)∧
 K (.int .i64 e) k
theorem call102 (a:Option Addr) (b:Option Addr) (K:Value→World→Prop) (w:World) (h:B102 a b K w):Gets Tryz.prog 102 #[.pointer a,.pointer b] w K:=cq (sk:=.leaf) Tryz.func102 (by kernel_rfl) (by kernel_rfl) (by kernel_rfl) h
def B26 (H:Option Addr) (G:Int) (K:Value→World→Prop) (w:World):Prop:=
 New (.cells #[.pointer H] 31 (0,0)) (fun b I=>
 New (.cells #[.int .i64 G] 3 (0,0)) (fun d e=>
 ∃ z:Option Addr,(At (fun c=>c=e) ⟨b,0,none⟩ [.pointer z])∧
 NilP z fun m=>
 ∃ A:Bool,(At (fun c=>c=e) ⟨m.block,m.off + 5,none⟩ [.bool A])∧
 Br A
 (K (.int .i64 8) e)
 (Drw e fun a C=>
 ∃ n:Int,(At a ⟨d,0,none⟩ [.int .i64 n])∧
 ∃ o:Option Addr,(At a ⟨b,0,none⟩ [.pointer o])∧
 NilP o fun j=>
 ∃ p:Int,(At a ⟨j.block,j.off + 2,none⟩ [.int .i64 p])∧
 Br (decide (n≤p))
 (K (.int .i64 7) C)
 (∃ q:Int,(At a ⟨d,0,none⟩ [.int .i64 q])∧
 ∃ r:Option Addr,(At a ⟨b,0,none⟩ [.pointer r])∧
 NilP r fun k=>
 Calls Tryz.prog 52 #[.pointer ((some ⟨k.block,k.off + 2,none⟩))] C fun D i=>
 ∃ s:Int,(D=.returned (.int .i64 s))∧
 (a i)∧
 Br (decide (q>IntKind.i64.wrap (s + 1)))
 (K (.int .i64 7) i)
 (Drw i fun g J=>
 ∃ t:Int,(At g ⟨d,0,none⟩ [.int .i64 t])∧
 ∃ u:Option Addr,(At g ⟨b,0,none⟩ [.pointer u])∧
 NilP u fun l=>
 Calls Tryz.prog 52 #[.pointer ((some ⟨l.block,l.off + 2,none⟩))] J fun E f=>
 ∃ v:Int,(E=.returned (.int .i64 v))∧
 (g f)∧
 Br (t==IntKind.i64.wrap (v + 1))
 (K (.int .i64 0) f)
 (∃ x:Option Addr,(At (fun c=>c=f) ⟨b,0,none⟩ [.pointer x])∧
 Calls Tryz.prog 53 #[.pointer x,.func (.func 62) #[] #[.pointer ((some ⟨b,0,none⟩)),.pointer ((some ⟨d,0,none⟩))]] f fun F L=>
 ∃ y:Int,(F=.returned (.int .i64 y))∧
 K (.int .i64 y) L))))) I) w
theorem call26 (b:Option Addr) (a:Int) (K:Value→World→Prop) (w:World) (h:B26 b a K w):Gets Tryz.prog 26 #[.pointer b,.int .i64 a] w K:=cq (sk:=.leaf) Tryz.func26 (by kernel_rfl) (by kernel_rfl) (by kernel_rfl) h
def B62 (g:Option Addr) (p:Option Addr) (K:Value→World→Prop) (w:World):Prop:=
 Drw w fun f M=>
 NilP g fun F=>
 ∃ t:Option Addr,(At f F [.pointer t])∧
 NilP p fun G=>
 ∃ u:Int,(At f G [.int .i64 u])∧
 New (.cells #[.int .i64 2,.int .i64 u] 3 (0,0)) (fun H v=>
 (f v)∧
 Calls Tryz.prog 64 #[.slice none 0 0,.bool false,.slice ((some ⟨H,0,none⟩)) 2 2] v fun I x=>
 ∃ e:Sl,(I=.returned (.slice e.a e.len e.cap))∧
 (f x)∧
 Calls Tryz.prog 63 #[.pointer t,.slice e.a e.len e.cap] x fun J l=>
 ∃ k:Int,(J=.returned (.int .i64 k))∧
 (f l)∧
 Br (k==0)
 (Drw l fun b N=>
 NilP g fun A=>
 ∃ q:Option Addr,(At b A [.pointer q])∧
 NilP g fun C=>
 ∃ r:Option Addr,(At b C [.pointer r])∧
 NilP r fun m=>
 ∃ c:Sl,(At b ⟨m.block,m.off + 2 + 1,none⟩ [.slice c.a c.len c.cap])∧
 NilP p fun D=>
 ∃ i:Int,(At b D [.int .i64 i])∧
 NilP g fun E=>
 ∃ s:Option Addr,(At b E [.pointer s])∧
 NilP s fun n=>
 ∃ j:Int,(At b ⟨n.block,n.off + 2,none⟩ [.int .i64 j])∧
 ((0:Int)≤IntKind.i64.wrap (IntKind.i64.wrap (i - 1) - j))∧
 ((IntKind.i64.wrap (IntKind.i64.wrap (i - 1) - j):Int)≤(↑c.cap:Int))∧
 Calls Tryz.prog 65 #[.slice c.a ((IntKind.i64.wrap (IntKind.i64.wrap (i - 1) - j)).toNat) c.cap] N fun L y=>
 ∃ d:Sl,(L=.returned (.slice d.a d.len d.cap))∧
 (b y)∧
 NilP q fun o=>
 ∃ z:World,((Instr.storeAt 40 (.pointer ((some ⟨o.block,o.off + 2 + 1,none⟩))) (.slice d.a d.len d.cap)).run Tryz.prog y=.ok () z)∧
 K (.int .i64 k) z)
 (K (.int .i64 k) l)) M
theorem call62 (a:Option Addr) (b:Option Addr) (K:Value→World→Prop) (w:World) (h:B62 a b K w):Gets Tryz.prog 62 #[.pointer a,.pointer b] w K:=cq (sk:=.leaf) Tryz.func62 (by kernel_rfl) (by kernel_rfl) (by kernel_rfl) h
def B27 (o:Option Addr) (n:Int) (K:Value→World→Prop) (w:World):Prop:=
 New (.cells #[.pointer o] 31 (0,0)) (fun d p=>
 New (.cells #[.int .i64 n] 3 (0,0)) (fun c b=>
 ∃ k:Option Addr,(At (fun a=>a=b) ⟨d,0,none⟩ [.pointer k])∧
 NilP k fun e=>
 ∃ l:Bool,(At (fun a=>a=b) ⟨e.block,e.off + 5,none⟩ [.bool l])∧
 Br l
 (K (.int .i64 8) b)
 (∃ f:Int,(At (fun a=>a=b) ⟨c,0,none⟩ [.int .i64 f])∧
 Br (decide (f<1))
 (K (.int .i64 1) b)
 (∃ g:Int,(At (fun a=>a=b) ⟨c,0,none⟩ [.int .i64 g])∧
 Br (decide (g>1099511627776))
 (K (.int .i64 1) b)
 (∃ i:Option Addr,(At (fun a=>a=b) ⟨d,0,none⟩ [.pointer i])∧
 Calls Tryz.prog 53 #[.pointer i,.func (.func 66) #[] #[.pointer ((some ⟨d,0,none⟩)),.pointer ((some ⟨c,0,none⟩))]] b fun m q=>
 ∃ j:Int,(m=.returned (.int .i64 j))∧
 K (.int .i64 j) q)))) p) w
theorem call27 (b:Option Addr) (a:Int) (K:Value→World→Prop) (w:World) (h:B27 b a K w):Gets Tryz.prog 27 #[.pointer b,.int .i64 a] w K:=cq (sk:=.leaf) Tryz.func27 (by kernel_rfl) (by kernel_rfl) (by kernel_rfl) h
def B66 (i:Option Addr) (j:Option Addr) (K:Value→World→Prop) (w:World):Prop:=
 Drw w fun c z=>
 NilP i fun t=>
 ∃ m:Option Addr,(At c t [.pointer m])∧
 NilP j fun u=>
 ∃ n:Int,(At c u [.int .i64 n])∧
 New (.cells #[.int .i64 3,.int .i64 n] 3 (0,0)) (fun v o=>
 (c o)∧
 Calls Tryz.prog 64 #[.slice none 0 0,.bool false,.slice ((some ⟨v,0,none⟩)) 2 2] o fun x p=>
 ∃ b:Sl,(x=.returned (.slice b.a b.len b.cap))∧
 (c p)∧
 Calls Tryz.prog 63 #[.pointer m,.slice b.a b.len b.cap] p fun y d=>
 ∃ e:Int,(y=.returned (.int .i64 e))∧
 (c d)∧
 Br (e==0)
 (NilP i fun r=>
 ∃ k:Option Addr,(At (fun f=>f=d) r [.pointer k])∧
 NilP j fun s=>
 ∃ l:Int,(At (fun f=>f=d) s [.int .i64 l])∧
 NilP k fun g=>
 ∃ q:World,((Instr.storeAt 83 (.pointer ((some ⟨g.block,g.off + 2,none⟩))) (.agg #[.int .i64 (IntKind.i64.wrap (l - 1)),.slice none 0 0])).run Tryz.prog d=.ok () q)∧
 K (.int .i64 e) q)
 (K (.int .i64 e) d)) z
theorem call66 (a:Option Addr) (b:Option Addr) (K:Value→World→Prop) (w:World) (h:B66 a b K w):Gets Tryz.prog 66 #[.pointer a,.pointer b] w K:=cq (sk:=.leaf) Tryz.func66 (by kernel_rfl) (by kernel_rfl) (by kernel_rfl) h
def B23 (g:Option Addr) (K:Value→World→Prop) (w:World):Prop:=
 New (.cells #[.pointer g] 31 (0,0)) (fun a d=>
 ∃ b:Option Addr,(At (fun f=>f=d) ⟨a,0,none⟩ [.pointer b])∧
 Calls Tryz.prog 53 #[.pointer b,.func (.func 60) #[] #[.pointer ((some ⟨a,0,none⟩))]] d fun e i=>
 ∃ c:Int,(e=.returned (.int .i64 c))∧
 K (.int .i64 c) i) w
theorem call23 (a:Option Addr) (K:Value→World→Prop) (w:World) (h:B23 a K w):Gets Tryz.prog 23 #[.pointer a] w K:=cq (sk:=.leaf) Tryz.func23 (by kernel_rfl) (by kernel_rfl) (by kernel_rfl) h
def B60 (b:Option Addr) (K:Value→World→Prop) (w:World):Prop:=
 Drw w fun a x=>
 NilP b fun p=>
 ∃ e:Option Addr,(At a p [.pointer e])∧
 NilP e fun q=>
 ∃ f:Option Addr,(At a (Addr.add q 0) [.pointer f])∧
 NilP b fun r=>
 ∃ g:Option Addr,(At a r [.pointer g])∧
 Calls Tryz.prog 61 #[.pointer g] x fun t m=>
 ∃ i:Option Addr,(t=.returned (.pointer i))∧
 (a m)∧
 NilP i fun s=>
 ∃ j:Int,∃ k:Int,∃ l:Int,(At a s [.int .i64 j,.int .i64 k,.int .i64 l])∧
 Calls Tryz.prog 57 #[.agg #[.int .i64 j,.int .i64 k,.int .i64 l]] m fun u n=>
 ∃ c:ByteArray,(u=.returned (.string c))∧
 (a n)∧
 Calls Tryz.prog 37 #[.pointer f,.string c] n fun v o=>
 ∃ d:Int,(v=.returned (.int .i64 d))∧
 (a o)∧
 K (.int .i64 d) o
theorem call60 (a:Option Addr) (K:Value→World→Prop) (w:World) (h:B60 a K w):Gets Tryz.prog 60 #[.pointer a] w K:=cq (sk:=.leaf) Tryz.func60 (by kernel_rfl) (by kernel_rfl) (by kernel_rfl) h
def B65 (c:Sl) (K:Value→World→Prop) (w:World):Prop:=
 Br c.a.isNone
 (K (.slice none 0 0) w)
 (New (.cells #[] 55 (0,0)) (fun e f=>
 ∃ d:World,∃ b:Sl,((Builtin.append_ #[40,40] 40 #[.slice ((some ⟨e,0,none⟩)) 0 0,.slice c.a c.len c.cap]).run Tryz.prog f=.ok (.slice b.a b.len b.cap) d)∧
 K (.slice b.a b.len b.cap) d) w)
theorem call65 (b:Sl) (K:Value→World→Prop) (w:World) (h:B65 b K w):Gets Tryz.prog 65 #[.slice b.a b.len b.cap] w K:=cq (sk:=.leaf) Tryz.func65 (by kernel_rfl) (by kernel_rfl) (by kernel_rfl) h
def B51 (b:Sl) (e:Value) (K:Value→World→Prop) (w:World):Prop:=
 Calls Tryz.prog 100 #[.slice b.a b.len b.cap,e] w fun d f=>
 ∃ c:Int,(d=.returned (.int .i64 c))∧
 K (.bool (decide (c ≥ 0))) f
theorem call51 (b:Sl) (c:Value) (K:Value→World→Prop) (w:World) (h:B51 b c K w):Gets Tryz.prog 51 #[.slice b.a b.len b.cap,c] w K:=cq (sk:=.leaf) Tryz.func51 (by kernel_rfl) (by kernel_rfl) (by kernel_rfl) h
def B100 (f:Sl) (p:Value) (K:Value→World→Prop) (w:World):Prop:=
 ∃ (e:Int→World→Prop) (m:Int→World→Nat),(e 0 w)∧∀ (r:Env) (b:Int) (d:World),e b d→
 Br (decide (b<(↑f.len:Int)))
 (Rng b f.len (NilP f.a fun n=>
 ∃ i:Int,∃ j:Int,∃ k:Int,∃ c:Sl,(At (fun q=>q=d) (Addr.add n (mulS b.toNat 4)) [.int .i64 i,.int .i64 j,.int .i64 k,.slice c.a c.len c.cap])∧
 CalW Tryz.prog cl p [.agg #[.int .i64 i,.int .i64 j,.int .i64 k,.slice c.a c.len c.cap]] d fun o g=>
 ∃ l:Bool,(o=.returned (.bool l))∧
 Br l
 (K (.int .i64 b) g)
 ((e (IntKind.i64.wrap (b + 1)) g)∧m (IntKind.i64.wrap (b + 1)) g<m b d)))
 (K (.int .i64 ((-1))) d)
def sk100:Sk:=(.seq .leaf (.seq (.seq .leaf (.block (.loop [8] [(.int .i64)] [4,5,8,9,10,11,12,13,14,15,16,17,18] .leaf))) .leaf))
theorem call100 (b:Sl) (c:Value) (K:Value→World→Prop) (w:World) (h:B100 b c K w):Gets Tryz.prog 100 #[.slice b.a b.len b.cap,c] w K:=cq (sk:=sk100) Tryz.func100 (by kernel_rfl) (by kernel_rfl) (by kernel_rfl) h
end Go.Proofs.YtkfedbncmfnpnaaGreatDoor
/- A log on a disk, in memory: its cells, its entries; what a record does. Condition: bounds on lengths. -/
namespace Go.Proofs.YtkfedbncmfnpnaaGreatDoor
set_option linter.unusedVariables false
set_option linter.unusedSimpArgs false
open Go Go.VC
variable {R R':Cx} {Hs Rest:List HP} {w:World}
theorem _root_.Go.VC.Sat.k1 {A:HP} {R1:List HP} (hw:Sat R Hs w) [a:Take A Hs R1]:Sat R [A,VC.tru] w:=Sat.toTru (As:=[A]) (hw.perm a.perm)
theorem _root_.Go.VC.Sat.k2 {A B:HP} {R1 R2:List HP} (hw:Sat R Hs w) [a:Take A Hs R1] [b:Take B R1 R2]:Sat R [A,B,VC.tru] w:=Sat.toTru (As:=[A,B]) ((hw.perm a.perm).cons fun _ h=>h.perm b.perm)
theorem _root_.Go.VC.ReadsN.eltM {n:Nat} {s:Sl} {α:Type} {E:List α} {g:α→List Value} {S:World→Prop} (h:ReadsN n s (E.map g) S) {k:Nat} (hk:k<E.length) {a:Addr} (ha:s.a=some a):Elt n S a k (g E[k]):=by
 have hr:=h.rngM hk (F:=fun a'=>s.a=some a'→Elt n S a' k (g E[k])) fun a' _ el _=>el
 have h3:=hr.out.2.2
 unfold NilP at h3
 rw [ha] at h3
 exact h3 rfl
abbrev DE4:=Sl × Ey
abbrev eRow (e:DE4):List Value:=[.int .i64 e.2.ix,.int .i64 e.2.tm,.int .i64 e.2.kd,.slice e.1.a e.1.len e.1.cap]
abbrev eVal (e:DE4):Value:=.agg #[.int .i64 e.2.ix,.int .i64 e.2.tm,.int .i64 e.2.kd,.slice e.1.a e.1.len e.1.cap]
abbrev erE (ds:List DE4):List Ey:=ds.map (·.2)
def DsR (R:Cx) (ds:List DE4):Prop:=∀ e∈ds,SlR R.m e.1 (b8 e.2.dt)
theorem DsR.ext {ds:List DE4} (h:DsR R ds) (e:R.Ext R'):DsR R' ds:=fun x hx=>e.slR (h x hx)
theorem DsR.nil:DsR R []:=fun _ h=>by cases h
theorem DsR.app {a b:List DE4} (ha:DsR R a) (hb:DsR R b):DsR R (a++b):=fun x hx=>(List.mem_append.1 hx).elim (ha x) (hb x)
theorem DsR.one {e:DE4} (h:SlR R.m e.1 (b8 e.2.dt)):DsR R [e]:=fun x hx=>by simp at hx;subst hx;exact h
theorem DsR.take {a:List DE4} (ha:DsR R a) (n:Nat):DsR R (a.take n):=fun x hx=>ha x (List.mem_of_mem_take hx)
theorem DsR.drop {a:List DE4} (ha:DsR R a) (n:Nat):DsR R (a.drop n):=fun x hx=>ha x (List.mem_of_mem_drop hx)
theorem elE:ElN Tryz.prog 40 40 55 4 48:=⟨Tryz.underlying40,⟨_,Tryz.underlying40⟩,by kernel_rfl⟩
theorem elG:ElN Tryz.prog 84 84 96 3 24:=⟨Tryz.underlying84,⟨_,Tryz.underlying84⟩,by kernel_rfl⟩
theorem one_eRow (e:DE4):oneAll (eRow e)=true:=rfl
theorem one_eRows (ds:List DE4):oneAll (ds.map eRow).flatten=true:=by
 unfold oneAll
 rw [List.all_eq_true]
 intro x hx
 rw [List.mem_flatten] at hx
 obtain ⟨r,hr,hx⟩:=hx
 obtain ⟨e,_,rfl⟩:=List.mem_map.1 hr
 exact List.all_eq_true.1 (one_eRow e) x hx
theorem wid_eRows (ds:List DE4):Wid 4 (ds.map eRow):=fun r hr=>by
 obtain ⟨e,_,rfl⟩:=List.mem_map.1 hr
 rfl
abbrev wCells (d:Nat) (lim base:Int) (s sg:Sl) (brk:Bool):Obj:=
 .cells [.pointer (some ⟨d,0,none⟩),.int .i64 lim,.int .i64 base,.slice s.a s.len s.cap,.slice sg.a sg.len sg.cap,.bool brk].toArray 86 (0,0)
abbrev EntO (s:Sl) (ds:List DE4):HP:=OwnN 4 s 55 (ds.map eRow)
theorem last_spec {p d:Nat} {lim base:Int} {s sg:Sl} {brk:Bool} (h0:0≤base) (h1:base≤2199023255552) (h2:s.len≤1099511627776) (hw:Sat R Hs w) [tk:TakeP p Hs (wCells d lim base s sg brk) Rest]:
  Gets Tryz.prog 52 #[.pointer (some ⟨p,2,none⟩)] w fun v w'=>v=.int .i64 (base + s.len)∧Sat R Hs w':=by
 apply call52
 refine drw_rule hw fun w hw=>?_
 refine NilP.mk rfl ⟨base,(by rw [add_off];exact At.own selfS (by exact ⟨rfl,trivial⟩)),NilP.mk rfl ⟨s,At.own selfS (by exact ⟨rfl,trivial⟩),?_⟩⟩
 rw [wrap64 (by omega) (by omega)]
 exact ⟨rfl,hw⟩
theorem clonE_spec {s:Sl} {ds:List DE4} (hr:RoN 4 R s (ds.map eRow)) (hl:ds.length≤1000000000000) (hw:Sat R Hs w):
  Gets Tryz.prog 65 #[.slice s.a s.len s.cap] w fun v w'=>∃ t:Sl,v=.slice t.a t.len t.cap∧Sat R (EntO t ds::Hs) w':=by
 apply call65
 refine Br.mk (fun h=>?_) (fun h=>?_)
 ·have:ds=[]:=by
   cases ds with
   |nil=>rfl
   |cons e ds=>
    obtain ⟨b,off,l,T,fr,ha,_⟩:=hr.mem (by simp)
    rw [ha] at h;cases h
  subst this
  exact ⟨⟨none,0,0⟩,rfl,OwnN.nil hw⟩
 ·refine new_rule hw fun b w hw=>?_
  have hlen:=hr.len
  have hsrc:=srcRoN (P:=Tryz.prog) ⟨_,Tryz.underlying40⟩ hw hr (one_eRows ds)
  refine appendN0_rule (b:=b) elE hw hsrc (wid_eRows ds) (by rw [List.length_map];omega) (by rw [List.length_map];omega) fun t w hw=>?_
  exact ⟨t,rfl,hw⟩
end Go.Proofs.YtkfedbncmfnpnaaGreatDoor
/- A log on a disk, in memory: what a record does to the log. Condition: bounds on lengths. -/
namespace Go.Proofs.YtkfedbncmfnpnaaGreatDoor
set_option linter.unusedVariables false
set_option linter.unusedSimpArgs false
open Go Go.VC
variable {R R':Cx} {Hs Rest:List HP} {w:World}
theorem pushN_in {P:Program} {n bytes b:Nat} {t1 t2 ty T T':TypeId} {fr:Nat × Nat} {s:Sl} (E:ElN P t1 t2 T n bytes) {rows:List (List Value)} {x:List Value} {K:Sl→World→Prop}
  (hw:Sat R (OwnN n s T rows::pts b (.cells x.toArray T' fr)::Hs) w) (hx:x.length=n) (h1:oneAll x=true) (hb:2 * (rows.length + 1) * bytes≤281474976710656) (hb':rows.length + 1≤9223372036854775807)
  (k:∀ s' w',Sat R (OwnN n s' T (rows++[x])::Hs) w'→K s' w'):
  ∃ w',∃ t:Sl,(Builtin.append_ #[t1,t2] ty #[.slice s.a s.len s.cap,.slice (some ⟨b,0,none⟩) 1 1]).run P w=.ok (.slice t.a t.len t.cap) w'∧K t w':=
 appendN_rule E hw (SrcN_one E.hk 1 hw hx h1) (fun r hr=>by simp at hr;subst hr;exact hx) hb hb' fun s' w' h=>k s' w' (h.cons fun _ h=>h.drop)
theorem index_spec2 {r:Nat} {rd:Rd} (hb:∀ x∈rd.bs,0≤x∧x<256) (hw:Sat R (RdAt r rd::Hs) w):
  Gets Tryz.prog 156 #[.pointer (some ⟨r,0,none⟩)] w fun v w'=>v=.int .i64 (rdNum 1099511627777 rd).1∧Sat R (RdAt r (rdNum 1099511627777 rd).2::Hs) w':=by
 apply call156
 refine (rnum_spec hb hw).use ?_
 rintro _ w ⟨rfl,hw⟩
 have hv:=rdNum_val (most:=1099511627777) hb (by omega)
 refine ⟨_,rfl,?_⟩
 rw [wrap64 (by omega) (by omega)]
 exact ⟨rfl,hw⟩
def ChgQ (R:Cx) (Hs:List HP) (p d:Nat) (lim base:Int) (sg:Sl) (brk:Bool) (es:List Ey) (o:Option Lg) (v:Value) (w:World):Prop:=
 ∃ R' base' s' ds',R.Ext R'∧DsR R' ds'∧v=.bool o.isSome∧(o.getD ⟨base,es⟩)=⟨base',erE ds'⟩∧Sat R' (pts p (wCells d lim base' s' sg brk)::EntO s' ds'::Hs) w
theorem ChgQ.no {p d:Nat} {lim base:Int} {s sg:Sl} {brk:Bool} {ds:List DE4} {o:Option Lg} (hd:DsR R ds) (ho:o=none) (hw:Sat R (pts p (wCells d lim base s sg brk)::EntO s ds::Hs) w):ChgQ R Hs p d lim base sg brk (erE ds) o (.bool false) w:=
 ⟨R,base,s,ds,.refl,hd,by rw [ho];rfl,by rw [ho];rfl,hw⟩
theorem ChgQ.yes {p d:Nat} {lim base base':Int} {s sg:Sl} {brk:Bool} {ds':List DE4} {es:List Ey} {o:Option Lg} (e:R.Ext R') (hd:DsR R' ds') (ho:o=some ⟨base',erE ds'⟩) (hw:Sat R' (pts p (wCells d lim base' s sg brk)::EntO s ds'::Hs) w):ChgQ R Hs p d lim base sg brk es o (.bool true) w:=
 ⟨R',base',s,ds',e,hd,by rw [ho];rfl,by rw [ho];rfl,hw⟩
theorem ChgQ.ext {p d:Nat} {lim base:Int} {sg:Sl} {brk:Bool} {es:List Ey} {o:Option Lg} {v:Value} (e:R.Ext R') (h:ChgQ R' Hs p d lim base sg brk es o v w):ChgQ R Hs p d lim base sg brk es o v w:=
 let ⟨R2,b,s,ds,e2,h2⟩:=h;⟨R2,b,s,ds,e.trans e2,h2⟩
theorem addE_spec {p d r:Nat} {lim base:Int} {s sg:Sl} {brk:Bool} {ds:List DE4} {rd:Rd} (h0:0≤base) (h1:base≤1099511627776) (hl:ds.length≤100000000000) (hd:DsR R ds) (hb:∀ x∈rd.bs,0≤x∧x<256) (hbl:rd.bs.length≤1099511627776)
  (hw:Sat R (RdAt r rd::pts p (wCells d lim base s sg brk)::EntO s ds::Hs) w):
  Gets Tryz.prog 158 #[.pointer (some ⟨p,2,none⟩),.pointer (some ⟨r,0,none⟩)] w (ChgQ R Hs p d lim base sg brk (erE ds) (addR ⟨base,erE ds⟩ rd)):=by
 apply call158
 refine (index_spec2 hb hw).use ?_
 clear hw
 rintro _ w ⟨rfl,hw⟩
 have hv1:=rdNum_val (most:=1099511627777) hb (by omega)
 have hb1:=rdNum_bd (most:=1099511627777) hb
 have hn1:=rdNum_len (most:=1099511627777) (rd:=rd)
 obtain ⟨i,hi⟩:∃ i,i=rdNum 1099511627777 rd:=⟨_,rfl⟩
 rw [←hi] at hw hv1 hb1 hn1 ⊢
 refine ⟨_,rfl,?_⟩
 refine (rnum_spec hb1 hw).use ?_
 clear hw
 rintro _ w ⟨rfl,hw⟩
 have hv2:=rdNum_val (most:=1099511627776) hb1 (by omega)
 have hb2:=rdNum_bd (most:=1099511627776) hb1
 have hn2:=rdNum_len (most:=1099511627776) (rd:=i.2)
 obtain ⟨t,ht⟩:∃ t,t=rdNum 1099511627776 i.2:=⟨_,rfl⟩
 rw [←ht] at hw hv2 hb2 hn2 ⊢
 refine ⟨_,rfl,?_⟩
 refine (rnum_spec hb2 hw).use ?_
 clear hw
 rintro _ w ⟨rfl,hw⟩
 have hv3:=rdNum_val (most:=7) hb2 (by omega)
 have hb3:=rdNum_bd (most:=7) hb2
 have hn3:=rdNum_len (most:=7) (rd:=t.2)
 obtain ⟨k,hk⟩:∃ k,k=rdNum 7 t.2:=⟨_,rfl⟩
 rw [←hk] at hw hv3 hb3 hn3 ⊢
 refine ⟨_,rfl,new_rule hw fun b w hw=>?_⟩
 rw [wrap64 (x:=t.1) (by omega) (by omega),wrap64 (x:=k.1) (by omega) (by omega)]
 refine store_rule hw (by kernel_rfl) rfl (by simp [Value.cells,putL_len]) fun w hw=>?_
 have hw:Sat R (RdAt r k.2::pts b (.cells [.int .i64 i.1,.int .i64 t.1,.int .i64 k.1,.slice none 0 0].toArray 55 (0,0))::pts p (wCells d lim base s sg brk)::EntO s ds::Hs) w:=Sat.swap hw
 refine (rtext_spec (most:=4096) (by omega) (by omega) hb3 hw).use ?_
 clear hw
 rintro _ w ⟨sd,rfl,hw⟩
 obtain ⟨x,hx⟩:∃ x,x=rdText 4096 k.2:=⟨_,rfl⟩
 rw [←hx] at hw
 obtain ⟨R1,e1,hsd,hw⟩:=Own.leak hw
 have hd:=hd.ext e1
 refine ⟨sd,rfl,?_⟩
 refine store_rule hw (by kernel_rfl) rfl (by simp [Value.cells,putL_len]) fun w hw=>?_
 have hw:Sat R1 (pts b (.cells [.int .i64 i.1,.int .i64 t.1,.int .i64 k.1,.slice sd.a sd.len sd.cap].toArray 55 (0,0))::RdAt r x.2::pts p (wCells d lim base s sg brk)::EntO s ds::Hs) w:=hw
 have eA:addR ⟨base,erE ds⟩ rd=if rdWhole x.2=true∧i.1≤1099511627776∧i.1=base + (ds.length:Int) + 1 then some ⟨base,erE ds++[⟨i.1,t.1,k.1,x.1⟩]⟩ else none:=by
  subst hx hk ht hi
  unfold addR Lg.last
  simp only [List.length_map]
 rw [eA]
 have hsl:s.len=ds.length:=by
  have h2:Sat R1 (EntO s ds::pts b (.cells [.int .i64 i.1,.int .i64 t.1,.int .i64 k.1,.slice sd.a sd.len sd.cap].toArray 55 (0,0))::RdAt r x.2::pts p (wCells d lim base s sg brk)::Hs) w:=hw.arr
  have:=OwnN.len h2;simpa using this
 have out:∀ {w},¬ (rdWhole x.2=true∧i.1≤1099511627776∧i.1=base + (ds.length:Int) + 1)→Sat R1 (pts b (.cells [.int .i64 i.1,.int .i64 t.1,.int .i64 k.1,.slice sd.a sd.len sd.cap].toArray 55 (0,0))::RdAt r x.2::pts p (wCells d lim base s sg brk)::EntO s ds::Hs) w→
   ChgQ R Hs p d lim base sg brk (erE ds) (if rdWhole x.2=true∧i.1≤1099511627776∧i.1=base + (ds.length:Int) + 1 then some ⟨base,erE ds++[⟨i.1,t.1,k.1,x.1⟩]⟩ else none) (.bool false) w:=fun h hw=>
  .ext e1 (.no hd (if_neg h) hw.drop.drop)
 refine ⟨fun w=>(rdWhole x.2=true∧i.1≤1099511627776∧i.1=base + (ds.length:Int) + 1)∧Sat R1 (pts b (.cells [.int .i64 i.1,.int .i64 t.1,.int .i64 k.1,.slice sd.a sd.len sd.cap].toArray 55 (0,0))::RdAt r x.2::pts p (wCells d lim base s sg brk)::EntO s ds::Hs) w,?_,?_⟩
 ·refine drw_rule hw fun w hw=>?_
  refine (whole_spec hw.swap).use ?_
  clear hw
  rintro _ w ⟨rfl,hw⟩
  have hw:=hw.swap
  refine ⟨_,rfl,hw,Br.nb (fun h=>out (fun h2=>by rw [h] at h2;cases h2.1) hw) (fun h=>?_)⟩
  refine ⟨_,At.own selfS (by exact ⟨rfl,trivial⟩),Br.d (fun h2=>out (fun h3=>by omega) hw) (fun h2=>?_)⟩
  refine ⟨_,At.own selfS (by exact ⟨rfl,trivial⟩),?_⟩
  refine (last_spec (p:=p) h0 (by omega) (by omega) hw).use ?_
  clear hw
  rintro _ w ⟨rfl,hw⟩
  refine ⟨_,rfl,hw,?_⟩
  rw [wrap64 (by omega) (by omega),hsl]
  exact Br.ne (fun h3=>out (fun h4=>h3 h4.2.2) hw) (fun h3=>⟨⟨h,by omega,h3⟩,hw⟩)
 ·clear hw
  rintro _ w ⟨hc,hw⟩
  refine drw_rule' (Sat R1 [pts b (.cells [.int .i64 i.1,.int .i64 t.1,.int .i64 k.1,.slice sd.a sd.len sd.cap].toArray 55 (0,0)),pts p (wCells d lim base s sg brk),VC.tru]) hw (fun w hw=>hw.k2) fun w hw=>?_
  refine NilP.mk rfl ⟨s,At.own selfS (by exact ⟨rfl,trivial⟩),i.1,t.1,k.1,sd,At.own selfS (by exact ⟨rfl,rfl,rfl,rfl,trivial⟩),new_rule hw fun b2 w hw=>⟨hw.k2,?_⟩⟩
  have hw:Sat R1 (EntO s ds::pts b2 (.cells (eRow (sd,⟨i.1,t.1,k.1,x.1⟩)).toArray 55 (0,0))::pts b (.cells [.int .i64 i.1,.int .i64 t.1,.int .i64 k.1,.slice sd.a sd.len sd.cap].toArray 55 (0,0))::RdAt r x.2::pts p (wCells d lim base s sg brk)::Hs) w:=hw.arr
  refine pushN_in elE hw rfl rfl (by rw [List.length_map];omega) (by rw [List.length_map];omega) fun s2 w hw=>?_
  have hw:Sat R1 (pts p (wCells d lim base s sg brk)::pts b (.cells [.int .i64 i.1,.int .i64 t.1,.int .i64 k.1,.slice sd.a sd.len sd.cap].toArray 55 (0,0))::RdAt r x.2::OwnN 4 s2 55 (ds.map eRow++[eRow (sd,⟨i.1,t.1,k.1,x.1⟩)])::Hs) w:=hw.arr
  refine ⟨hw.k2,NilP.mk rfl ?_⟩
  refine store_rule hw (by kernel_rfl) rfl (by simp [Value.cells,putL_len]) fun w hw=>?_
  have hw:Sat R1 (pts p (wCells d lim base s2 sg brk)::pts b (.cells [.int .i64 i.1,.int .i64 t.1,.int .i64 k.1,.slice sd.a sd.len sd.cap].toArray 55 (0,0))::RdAt r x.2::OwnN 4 s2 55 (ds.map eRow++[eRow (sd,⟨i.1,t.1,k.1,x.1⟩)])::Hs) w:=hw
  refine .yes (base':=base) (ds':=ds++[(sd,⟨i.1,t.1,k.1,x.1⟩)]) (s:=s2) e1 (hd.app (.one hsd)) ?_ ?_
  ·rw [if_pos hc];simp [erE]
  ·unfold EntO;rw [List.map_append];exact hw.cons fun _ h=>h.drop.drop
end Go.Proofs.YtkfedbncmfnpnaaGreatDoor
/- A log on a disk, in memory: cuts, resets, any record; a segment's head. Condition: bounds on lengths. -/
namespace Go.Proofs.YtkfedbncmfnpnaaGreatDoor
set_option linter.unusedVariables false
set_option linter.unusedSimpArgs false
open Go Go.VC
variable {R R':Cx} {Hs Rest:List HP} {w:World}
theorem cutE_spec {p d r:Nat} {lim base:Int} {s sg:Sl} {brk:Bool} {ds:List DE4} {rd:Rd} (h0:0≤base) (h1:base≤1099511627776) (hl:ds.length≤100000000000) (hd:DsR R ds) (hb:∀ x∈rd.bs,0≤x∧x<256)
  (hw:Sat R (RdAt r rd::pts p (wCells d lim base s sg brk)::EntO s ds::Hs) w):
  Gets Tryz.prog 159 #[.pointer (some ⟨p,2,none⟩),.pointer (some ⟨r,0,none⟩)] w (ChgQ R Hs p d lim base sg brk (erE ds) (cutR ⟨base,erE ds⟩ rd)):=by
 apply call159
 refine (index_spec2 hb hw).use ?_
 clear hw
 rintro _ w ⟨rfl,hw⟩
 have hv1:=rdNum_val (most:=1099511627777) hb (by omega)
 obtain ⟨i,hi⟩:∃ i,i=rdNum 1099511627777 rd:=⟨_,rfl⟩
 rw [←hi] at hw hv1 ⊢
 have eA:cutR ⟨base,erE ds⟩ rd=if rdWhole i.2=true∧1≤i.1 then some (cutTo ⟨base,erE ds⟩ i.1) else none:=by
  subst hi
  rfl
 rw [eA]
 have hsl:s.len=ds.length:=by
  have h2:Sat R (EntO s ds::RdAt r i.2::pts p (wCells d lim base s sg brk)::Hs) w:=hw.arr
  have:=OwnN.len h2;simpa using this
 have hcap:s.len≤s.cap:=by
  have h2:Sat R (EntO s ds::RdAt r i.2::pts p (wCells d lim base s sg brk)::Hs) w:=hw.arr
  exact OwnN.cap (by omega) h2
 refine ⟨_,rfl,fun b w=>b=!(rdWhole i.2 && decide (1≤i.1))∧Sat R (pts p (wCells d lim base s sg brk)::EntO s ds::Hs) w,?_,?_⟩
 ·refine (whole_spec hw).use ?_
  clear hw
  rintro _ w ⟨rfl,hw⟩
  have hw:=hw.drop
  refine ⟨_,rfl,Br.nb (fun h=>⟨by rw [h];rfl,hw⟩) (fun h=>⟨?_,hw⟩)⟩
  rw [h,Bool.true_and,←decide_not]
  exact decide_eq_decide.2 (by omega)
 clear hw
 rintro _ _ w ⟨rfl,hw⟩
 refine Br.nb (fun h=>?_) (fun h=>?_)
 ·refine .no hd (if_neg (fun h2=>?_)) hw
  rw [h2.1,Bool.true_and,decide_eq_false_iff_not] at h
  exact h h2.2
 rw [Bool.and_eq_true,decide_eq_true_eq] at h
 rw [if_pos h]
 refine NilP.mk rfl ⟨base,(by rw [add_off];exact At.own (eqS hw) (by exact ⟨rfl,trivial⟩)),Br.d (fun hc=>?_) (fun hc=>?_)⟩
 ·refine NilP.mk rfl ?_
  rw [wrap64 (by omega) (by omega)]
  refine store_rule hw (by kernel_rfl) rfl (by simp [Value.cells,putL_len]) fun w hw=>?_
  have hw:Sat R (pts p (wCells d lim (i.1 - 1) ⟨none,0,0⟩ sg brk)::EntO s ds::Hs) w:=hw
  refine .yes (base':=i.1 - 1) (s:=⟨none,0,0⟩) (ds':=[]) .refl .nil ?_ (hw.cons fun _ h=>OwnN.nil h.drop)
  unfold cutTo;rw [if_pos hc];rfl
 ·refine (last_spec (p:=p) h0 (by omega) (by omega) hw).use ?_
  clear hw
  rintro _ w ⟨rfl,hw⟩
  refine ⟨_,rfl,Br.d (fun hc2=>?_) (fun hc2=>?_)⟩
  ·have w1:IntKind.i64.wrap (IntKind.i64.wrap (i.1 - 1) - base)=i.1 - 1 - base:=by rw [wrap64 (x:=i.1 - 1) (by omega) (by omega),wrap64 (by omega) (by omega)]
   have hn:(i.1 - 1 - base).toNat≤ds.length:=by omega
   refine drw_rule' (Sat R [pts p (wCells d lim base s sg brk),VC.tru]) hw (fun w hw=>hw.k1) fun w hw=>?_
   refine NilP.mk rfl ⟨s,At.own selfS (by exact ⟨rfl,trivial⟩),NilP.mk rfl ⟨base,(by rw [add_off];exact At.own selfS (by exact ⟨rfl,trivial⟩)),?_⟩⟩
   rw [w1]
   refine ⟨by omega,by omega,?_⟩
   obtain ⟨R1,hr,⟨x,hx⟩,hw,back⟩:=OwnN.lend hw.swap
   have hr2:=hr.take (h:=(i.1 - 1 - base).toNat) (by rw [List.length_map];exact hn) s.cap
   rw [←List.map_take] at hr2
   refine (clonE_spec hr2 (by rw [List.length_take];omega) hw).use ?_
   clear hw
   rintro _ w ⟨t,rfl,hw⟩
   have hw:=back hw
   have hw:Sat R (pts p (wCells d lim base s sg brk)::EntO t (ds.take (i.1 - 1 - base).toNat)::EntO s ds::Hs) w:=hw.arr
   refine ⟨t,rfl,hw.k1,NilP.mk rfl ?_⟩
   refine store_rule hw (by kernel_rfl) rfl (by simp [Value.cells,putL_len]) fun w hw=>?_
   have hw:Sat R (pts p (wCells d lim base t sg brk)::EntO t (ds.take (i.1 - 1 - base).toNat)::EntO s ds::Hs) w:=hw
   refine .yes (base':=base) (s:=t) (ds':=ds.take (i.1 - 1 - base).toNat) .refl (hd.take _) ?_ (hw.cons fun _ h=>h.cons fun _ h=>h.drop)
   unfold cutTo
   rw [if_neg hc,if_pos (by unfold Lg.last;simp only [List.length_map];omega)]
   simp [erE]
  ·refine .yes (base':=base) (s:=s) (ds':=ds) .refl hd ?_ hw
   unfold cutTo
   rw [if_neg hc,if_neg (by unfold Lg.last;simp only [List.length_map];omega)]
theorem resetE_spec {p d r:Nat} {lim base:Int} {s sg:Sl} {brk:Bool} {ds:List DE4} {rd:Rd} (hd:DsR R ds) (hb:∀ x∈rd.bs,0≤x∧x<256)
  (hw:Sat R (RdAt r rd::pts p (wCells d lim base s sg brk)::EntO s ds::Hs) w):
  Gets Tryz.prog 160 #[.pointer (some ⟨p,2,none⟩),.pointer (some ⟨r,0,none⟩)] w (ChgQ R Hs p d lim base sg brk (erE ds) (resetR ⟨base,erE ds⟩ rd)):=by
 apply call160
 refine (index_spec2 hb hw).use ?_
 clear hw
 rintro _ w ⟨rfl,hw⟩
 have hv1:=rdNum_val (most:=1099511627777) hb (by omega)
 obtain ⟨i,hi⟩:∃ i,i=rdNum 1099511627777 rd:=⟨_,rfl⟩
 rw [←hi] at hw hv1 ⊢
 have eA:resetR ⟨base,erE ds⟩ rd=if rdWhole i.2=true∧1≤i.1 then some ⟨i.1 - 1,[]⟩ else none:=by
  subst hi
  rfl
 rw [eA]
 refine ⟨_,rfl,(whole_spec hw).use ?_⟩
 clear hw
 rintro _ w ⟨rfl,hw⟩
 have hw:=hw.drop
 refine ⟨_,rfl,Br.nb (fun h=>.no hd (if_neg (fun h2=>by rw [h] at h2;cases h2.1)) hw) (fun h=>Br.d (fun h2=>.no hd (if_neg (fun h3=>by omega)) hw) (fun h2=>?_))⟩
 rw [if_pos ⟨h,by omega⟩,wrap64 (by omega) (by omega)]
 refine NilP.mk rfl ?_
 refine store_rule hw (by kernel_rfl) rfl (by simp [Value.cells,putL_len]) fun w hw=>?_
 have hw:Sat R (pts p (wCells d lim (i.1 - 1) ⟨none,0,0⟩ sg brk)::EntO s ds::Hs) w:=hw
 exact .yes (base':=i.1 - 1) (s:=⟨none,0,0⟩) (ds':=[]) .refl .nil rfl (hw.cons fun _ h=>OwnN.nil h.drop)
theorem changeE_spec {p d r:Nat} {lim base:Int} {s sg:Sl} {brk:Bool} {ds:List DE4} {rd:Rd} (h0:0≤base) (h1:base≤1099511627776) (hl:ds.length≤100000000000) (hd:DsR R ds) (hb:∀ x∈rd.bs,0≤x∧x<256) (hbl:rd.bs.length≤1099511627776)
  (hw:Sat R (RdAt r rd::pts p (wCells d lim base s sg brk)::EntO s ds::Hs) w):
  Gets Tryz.prog 110 #[.pointer (some ⟨p,2,none⟩),.pointer (some ⟨r,0,none⟩)] w (ChgQ R Hs p d lim base sg brk (erE ds) (changeR1 ⟨base,erE ds⟩ rd)):=by
 apply call110
 refine (rnum_spec hb hw).use ?_
 clear hw
 rintro _ w ⟨rfl,hw⟩
 have hb1:=rdNum_bd (most:=3) hb
 have hn1:=rdNum_len (most:=3) (rd:=rd)
 obtain ⟨k,hk⟩:∃ k,k=rdNum 3 rd:=⟨_,rfl⟩
 rw [←hk] at hw hb1 hn1 ⊢
 have eA:changeR1 ⟨base,erE ds⟩ rd=if k.1=1 then addR ⟨base,erE ds⟩ k.2 else if k.1=2 then cutR ⟨base,erE ds⟩ k.2 else if k.1=3 then resetR ⟨base,erE ds⟩ k.2 else none:=by
  subst hk;rfl
 rw [eA]
 have out:∀ {o:Option Lg} {v:Value} {w:World},ChgQ R Hs p d lim base sg brk (erE ds) o v w→∃ t:Bool,Ending.returned v=.returned (.bool t)∧ChgQ R Hs p d lim base sg brk (erE ds) o (.bool t) w:=fun h=>by
  have h':=h
  obtain ⟨_,_,_,_,_,_,rfl,_,_⟩:=h'
  exact ⟨_,rfl,h⟩
 refine ⟨_,rfl,Br.e (fun h=>?_) (fun h=>?_)⟩
 ·rw [if_pos h]
  exact (addE_spec h0 h1 hl hd hb1 (by omega) hw).use fun v w h=>out h
 rw [if_neg h]
 refine Br.e (fun h=>?_) (fun h=>?_)
 ·rw [if_pos h]
  exact (cutE_spec h0 h1 hl hd hb1 hw).use fun v w h=>out h
 rw [if_neg h]
 refine Br.e (fun h=>?_) (fun h=>?_)
 ·rw [if_pos h]
  exact (resetE_spec hd hb1 hw).use fun v w h=>out h
 rw [if_neg h]
 exact .no hd rfl hw.drop
theorem head_spec {s:Sl} {b:List Int} {n:Int} (hb:∀ x∈b,0≤x∧x<256) (hl:b.length≤1099511627776) (hs:Ro R s (b8 b)) (hw:Sat R Hs w):
  Gets Tryz.prog 109 #[.slice s.a s.len s.cap,.int .i64 n] w fun v w'=>v=.int .i64 (headL b n)∧Sat R Hs w':=by
 apply call109
 refine (fnew_spec hs hl hw).use ?_
 clear hw
 rintro _ w ⟨r,rfl,hw⟩
 refine ⟨_,rfl,(rnum_spec (rd:=⟨b,false⟩) hb hw).use ?_⟩
 clear hw
 rintro _ w ⟨rfl,hw⟩
 have hb1:=rdNum_bd (most:=0) (rd:=⟨b,false⟩) hb
 refine ⟨_,rfl,(rnum_spec hb1 hw).use ?_⟩
 clear hw
 rintro _ w ⟨rfl,hw⟩
 have hv2:=rdNum_val (most:=99999999) hb1 (by omega)
 have hb2:=rdNum_bd (most:=99999999) hb1
 refine ⟨_,rfl,(index_spec2 hb2 hw).use ?_⟩
 clear hw
 rintro _ w ⟨rfl,hw⟩
 refine ⟨_,rfl,(whole_spec hw).use ?_⟩
 clear hw
 rintro _ w ⟨rfl,hw⟩
 have hw:=hw.drop
 rw [wrap64 (by omega) (by omega)]
 unfold headL
 simp only
 refine ⟨_,rfl,Br.nb (fun h=>?_) (fun h=>Br.ne (fun h2=>?_) (fun h2=>?_))⟩
 ·rw [if_neg (fun h2=>by rw [h] at h2;cases h2.1)];exact ⟨rfl,hw⟩
 ·rw [if_neg (fun h3=>h2 h3.2)];exact ⟨rfl,hw⟩
 ·rw [if_pos ⟨h,h2⟩];exact ⟨rfl,hw⟩
end Go.Proofs.YtkfedbncmfnpnaaGreatDoor
/- Names of segments, read. No program. No condition. -/
namespace Go.VC
set_option linter.unusedVariables false
set_option linter.unusedSimpArgs false
open Go
def isDig (c:Int):Bool:=decide (48≤c) && decide (c≤57)
abbrev preW:List UInt8:=[119,97,108,45]
theorem pre_iff {k:ByteArray}:Lib.hasPrefix k.data.toList preW=true↔(bytesL k).take 4=[119,97,108,45]:=by
 unfold Lib.hasPrefix bytesL
 rw [List.isPrefixOf_iff_prefix]
 constructor
 ·rintro ⟨t,ht⟩
  rw [←ht];rfl
 ·intro h
  rw [←List.map_take] at h
  have:k.data.toList.take 4=preW:=by
   generalize k.data.toList.take 4=l at h
   have hinj:∀ (a b:List UInt8),a.map (fun c=>(c.toNat:Int))=b.map (fun c=>(c.toNat:Int))→a=b:=fun a=>by
    induction a with
    |nil=>intro b h;cases b with|nil=>rfl|cons=>cases h
    |cons x a ih=>
     intro b h
     cases b with
     |nil=>cases h
     |cons y b=>
      simp only [List.map_cons,List.cons.injEq] at h
      rw [ih b h.2]
      congr 1
      exact UInt8.toNat_inj.1 (by omega)
   exact hinj l preW h
  rw [←this]
  exact List.take_prefix ..
theorem numL_pre {k:ByteArray} (h:Lib.hasPrefix k.data.toList preW=false):numL (bytesL k)=0:=by
 unfold numL
 rw [if_neg]
 rintro ⟨h1,_⟩
 rw [←pre_iff] at h1
 rw [h1] at h;cases h
theorem bytesL_drop (k:ByteArray):bytesL ⟨(k.data.toList.drop 4).toArray⟩=(bytesL k).drop 4:=by
 unfold bytesL
 simp
theorem numL_len {k:ByteArray} (h:(k.data.toList.drop 4).length≠8):numL (bytesL k)=0:=by
 unfold numL
 rw [if_neg]
 rintro ⟨_,h2,_⟩
 rw [bytesL_len] at h2
 have hs:k.data.toList.length=k.size:=Array.length_toList
 rw [List.length_drop] at h
 omega
theorem numL_odd {k:ByteArray} (h:((bytesL k).drop 4).all isDig=false):numL (bytesL k)=0:=by
 unfold numL
 rw [if_neg]
 rintro ⟨_,_,h3⟩
 unfold isDig at h
 rw [h] at h3;cases h3
theorem dec_val:∀ (l:List UInt8) (acc:Nat),(l.map (fun c=>(c.toNat:Int))).all isDig=true→Lib.decFrom acc l=some ((l.map (fun c=>(c.toNat:Int))).foldl (fun n c=>n * 10 + (c - 48)) (acc:Int)).toNat∧0≤(l.map (fun c=>(c.toNat:Int))).foldl (fun n c=>n * 10 + (c - 48)) (acc:Int)
 |[],acc,_=>by simp [Lib.decFrom]
 |b::l,acc,h=>by
  simp only [List.map_cons,List.all_cons,Bool.and_eq_true] at h
  have hb:=h.1
  unfold isDig at hb
  simp only [Bool.and_eq_true,decide_eq_true_eq] at hb
  unfold Lib.decFrom
  have:Lib.digitVal b=some (b.toNat - 48):=by unfold Lib.digitVal;rw [if_pos (by omega)]
  rw [this]
  simp only [List.map_cons,List.foldl_cons]
  have:=dec_val l (acc * 10 + (b.toNat - 48)) h.2
  have e:((acc * 10 + (b.toNat - 48):Nat):Int)=(acc:Int) * 10 + ((b.toNat:Int) - 48):=by omega
  rw [e] at this
  exact this
theorem numL_atoi {k:ByteArray} (h:Lib.hasPrefix k.data.toList preW=true) (hl:(k.data.toList.drop 4).length=8) (hd:((bytesL k).drop 4).all isDig=true):Lib.atoi (k.data.toList.drop 4)=some (numL (bytesL k):Int):=by
 have e:(bytesL k).drop 4=(k.data.toList.drop 4).map (fun c=>(c.toNat:Int)):=by unfold bytesL;simp
 have hn:numL (bytesL k)=(val10 ((bytesL k).drop 4)).toNat:=by
  unfold numL
  rw [if_pos]
  refine ⟨pre_iff.1 h,?_,hd⟩
  rw [bytesL_len]
  have hs:k.data.toList.length=k.size:=Array.length_toList
  rw [List.length_drop] at hl
  omega
 rw [hn,e]
 rw [e] at hd
 generalize k.data.toList.drop 4=l at hl hd
 cases l with
 |nil=>cases hl
 |cons b l=>
  have hv:=dec_val (b::l) 0 hd
  have hb:48≤b.toNat:=by
   simp only [List.map_cons,List.all_cons,Bool.and_eq_true,isDig,decide_eq_true_eq] at hd
   omega
  have n1:(b==45)=false:=by
   rw [beq_eq_false_iff_ne];rintro rfl;revert hb;decide
  have n2:(b==43)=false:=by
   rw [beq_eq_false_iff_ne];rintro rfl;revert hb;decide
  unfold Lib.atoi
  simp only [n1,n2,Bool.false_eq_true,if_false]
  unfold Lib.decNat
  rw [if_neg (by simp),hv.1]
  simp only [Option.map_some]
  rfl
theorem numL_lt {l:List Int}:numL l<100000000:=by
 unfold numL
 split
 ·rename_i h
  obtain ⟨_,h2,h3⟩:=h
  have hl:(l.drop 4).length=8:=by simp;omega
  generalize l.drop 4=m at hl h3
  match m,hl with
  |[a,b,c,d,e,f,g,h],_=>
   simp only [List.all_cons,List.all_nil,Bool.and_true,Bool.and_eq_true,decide_eq_true_eq] at h3
   unfold val10
   simp only [List.foldl_cons,List.foldl_nil]
   omega
 ·omega
end Go.VC
/- Names of segments, read. Condition: bounds on lengths. -/
namespace Go.Proofs.YtkfedbncmfnpnaaGreatDoor
set_option linter.unusedVariables false
set_option linter.unusedSimpArgs false
open Go Go.VC
variable {R R':Cx} {Hs Rest:List HP} {w:World}
theorem odd_spec (c:Int) (hw:Sat R Hs w):Gets Tryz.prog 151 #[.int .i32 c] w fun v w'=>v=.bool (!isDig c)∧Sat R Hs w':=by
 apply call151
 unfold isDig
 refine Br.d (fun h=>⟨?_,hw⟩) (fun h=>⟨?_,hw⟩)
 ·simp;omega
 ·congr 1
  rw [Bool.eq_iff_iff]
  simp;omega
theorem indexF_spec {s:ByteArray} (hsz:s.size≤1099511627776) (hw:Sat R Hs w):Gets Tryz.prog 215 #[.string s,.func (.func 151) #[] #[],.bool true] w fun v w'=>(∃ n:Int,v=.int .i64 n∧(0≤n↔(bytesL s).all isDig=false))∧Sat R Hs w':=by
 apply call215
 refine new_rule hw fun b w hw=>⟨fun w=>∃ pos,pos≤s.size∧(∀ x∈(bytesL s).take pos,isDig x=true)∧Sat R (pts b (.stringIter s pos)::Hs) w,fun w=>strLeft b w,⟨0,by omega,by simp,hw⟩,?_⟩
 clear hw
 rintro _ w ⟨pos,hp,hd,hw⟩
 have hl:=bytesL_len s
 have hmu:=strLeft_eq hw
 refine nextS_rule hw (fun hlt w hw=>?_) (fun hn=>?_)
 ·have hg:=bytes_get hlt
  have odd:∀ {c:Int} {w:World},isDig ((bytesL s)[pos]'(by omega))=false→Sat R Hs w→(∃ n:Int,Value.int .i64 (pos:Int)=.int .i64 n∧(0≤n↔(bytesL s).all isDig=false))∧Sat R Hs w:=fun {c w} h hw=>by
   refine ⟨⟨_,rfl,?_⟩,hw⟩
   refine ⟨fun _=>?_,fun _=>by omega⟩
   rw [List.all_eq_false]
   exact ⟨_,List.getElem_mem _,by rw [h];simp⟩
  refine CalW.mk (by kernel_rfl) ((odd_spec _ hw).use ?_)
  clear hw
  rintro _ w ⟨rfl,hw⟩
  refine ⟨_,rfl,?_⟩
  by_cases h128:(s.get! pos).toNat<128
  ·rw [dec_lo h128] at hw ⊢
   simp only at hw ⊢
   rw [hg]
   cases hdg:isDig ((bytesL s)[pos]'(by omega)) with
   |false=>exact Br.t rfl (odd (c:=0) hdg hw.drop)
   |true=>
    refine Br.f rfl ⟨⟨pos + 1,by omega,fun x hx=>?_,hw⟩,?_⟩
    ·rw [List.take_add_one,List.getElem?_eq_getElem (by omega)] at hx
     rcases List.mem_append.1 hx with hx|hx
     ·exact hd x hx
     ·simp at hx;rw [hx];exact hdg
    ·rw [strLeft_eq hw,hmu];omega
  ·have h:=dec_hi h128
   have h2:isDig ((Utf8.decode s pos).1:Int)=false:=by unfold isDig;simp;omega
   rw [h2]
   refine Br.t rfl (odd (c:=0) ?_ hw.drop)
   rw [←hg]
   unfold isDig;simp;omega
 ·refine ⟨⟨_,rfl,?_⟩,hw.drop⟩
  have:pos=s.size:=by omega
  subst this
  rw [←hl,List.take_length] at hd
  have:=List.all_eq_true.2 hd
  rw [this]
  simp
theorem containsF_spec {s:ByteArray} (hsz:s.size≤1099511627776) (hw:Sat R Hs w):Gets Tryz.prog 152 #[.string s,.func (.func 151) #[] #[]] w fun v w'=>v=.bool (!(bytesL s).all isDig)∧Sat R Hs w':=by
 apply call152
 have h1:Gets Tryz.prog 185 #[.string s,.func (.func 151) #[] #[]] w fun v w'=>(∃ n:Int,v=.int .i64 n∧(0≤n↔(bytesL s).all isDig=false))∧Sat R Hs w':=by
  apply call185
  refine (indexF_spec hsz hw).use ?_
  rintro _ w ⟨⟨n,rfl,hn⟩,hw⟩
  exact ⟨n,rfl,⟨n,rfl,hn⟩,hw⟩
 refine h1.use ?_
 rintro _ w ⟨⟨n,rfl,hn⟩,hw⟩
 refine ⟨n,rfl,?_,hw⟩
 congr 1
 cases h:(bytesL s).all isDig with
 |true=>rw [h] at hn;simp at hn ⊢;omega
 |false=>rw [h] at hn;simp at hn ⊢;omega
abbrev encN (l:List Nat):List Value:=(l.map fun n:Nat=>(n:Int)).map (Value.int .i64)
theorem elI8:El Tryz.prog 41 41 3 8:=⟨Tryz.underlying41,⟨_,Tryz.underlying41⟩,by kernel_rfl⟩
theorem numsOf_take {l:List ByteArray} {k:Nat} (hk:k<l.length):numsOf (l.take (k + 1))=if 0<numL (bytesL l[k]) then numsOf (l.take k)++[numL (bytesL l[k])] else numsOf (l.take k):=by
 unfold numsOf
 rw [List.take_add_one,List.getElem?_eq_getElem hk,List.map_append,List.filter_append]
 simp only [Option.toList_some,List.map_cons,List.map_nil]
 split
 ·rename_i h;simp [h]
 ·rename_i h;simp [h]
theorem numsOf_le (l:List ByteArray):(numsOf l).length≤l.length:=by
 unfold numsOf
 refine Nat.le_trans (List.length_filter_le ..) ?_
 simp
theorem numbered_spec {s:Sl} {l:List ByteArray} (hs:Ro R s (l.map Value.string)) (hl:l.length≤1000000) (hk:∀ k∈l,k.size≤1000) (hw:Sat R Hs w):
  Gets Tryz.prog 107 #[.slice s.a s.len s.cap] w fun v w'=>∃ t:Sl,v=.slice t.a t.len t.cap∧Sat R (Own t 3 (encN (numsOf l))::Hs) w':=by
 have hsl:s.len=l.length:=by have:=hs.len;simpa using this
 apply call107
 refine ⟨fun o i w=>∃ k:Nat,i=k∧k≤l.length∧Sat R (Own o 3 (encN (numsOf (l.take k)))::Hs) w,fun _ i _=>l.length - i.toNat,⟨0,rfl,by omega,Own.nil hw⟩,?_⟩
 clear hw
 rintro _ o _ w ⟨k,rfl,hkl,hw⟩
 refine Br.d (fun h=>?_) (fun h=>?_)
 ·have hk':k<l.length:=by omega
  have hsz:=hk l[k] (List.getElem_mem _)
  refine hs.idxStr (eqS hw) hk' ?_
  have w1:IntKind.i64.wrap ((k:Int) + 1)=((k + 1:Nat):Int):=by rw [wrap64 (by omega) (by omega)];omega
  rw [w1]
  have eT:=numsOf_take hk'
  have skip:numL (bytesL l[k])=0→∀ {w},Sat R (Own o 3 (encN (numsOf (l.take k)))::Hs) w→
    (∃ j:Nat,((k + 1:Nat):Int)=j∧j≤l.length∧Sat R (Own o 3 (encN (numsOf (l.take j)))::Hs) w)∧l.length - ((k + 1:Nat):Int).toNat<l.length - ((k:Nat):Int).toNat:=fun h0 {w} hw=>by
   refine ⟨⟨k + 1,rfl,by omega,?_⟩,by omega⟩
   rw [eT,h0]
   exact hw
  refine Calls.mono (Tryz.strings_CutPrefix l[k] (ByteArray.mk #[119,97,108,45]) w) ?_
  rintro _ w' ⟨rfl,rfl⟩
  refine ⟨_,_,rfl,?_⟩
  obtain ⟨r,hr⟩:∃ r:ByteArray,r=⟨(l[k].data.toList.drop 4).toArray⟩:=⟨_,rfl⟩
  refine ⟨fun w=>(Lib.hasPrefix l[k].data.toList preW=true∧(l[k].data.toList.drop 4).length=8∧((bytesL l[k]).drop 4).all isDig=true)∧Sat R (Own o 3 (encN (numsOf (l.take k)))::Hs) w,?_,?_⟩
  ·refine Br.nb (fun h1=>skip (numL_pre h1) hw) (fun h1=>?_)
   have ht:Lib.trimPrefix l[k].data.toList (ByteArray.mk #[119,97,108,45]).data.toList=l[k].data.toList.drop 4:=by
    unfold Lib.trimPrefix
    rw [if_pos h1];rfl
   rw [ht,←hr]
   have hrs:r.size=(l[k].data.toList.drop 4).length:=by
    rw [hr]
    exact (Array.length_toList ..).symm
   have hrl:(l[k].data.toList.drop 4).length≤1000:=by
    have hs2:l[k].data.toList.length=l[k].size:=Array.length_toList
    rw [List.length_drop];omega
   refine Br.ne (fun h2=>skip (numL_len (by omega)) hw) (fun h2=>?_)
   refine (containsF_spec (s:=r) (by omega) hw).use ?_
   clear hw
   rintro _ w ⟨rfl,hw⟩
   have eb:bytesL r=(bytesL l[k]).drop 4:=by rw [hr];exact bytesL_drop _
   rw [eb]
   exact ⟨_,rfl,Br.nb (fun h3=>skip (numL_odd h3) hw) (fun h3=>⟨⟨h1,by omega,h3⟩,hw⟩)⟩
  ·clear hw
   rintro _ w ⟨⟨h1,h2,h3⟩,hw⟩
   have ht:Lib.trimPrefix l[k].data.toList (ByteArray.mk #[119,97,108,45]).data.toList=l[k].data.toList.drop 4:=by
    unfold Lib.trimPrefix
    rw [if_pos h1];rfl
   have hlt:=numL_lt (l:=bytesL l[k])
   have hat:Lib.atoi r.data.toList=some (numL (bytesL l[k]):Int):=by rw [hr];exact numL_atoi h1 h2 h3
   have hrs:r.size=8:=by
    rw [hr,←h2]
    exact (Array.length_toList ..).symm
   rw [ht,←hr]
   refine Calls.mono (Tryz.strconv_Atoi r _ (by omega) hat w) ?_
   rintro _ w' ⟨rfl,t,rfl⟩
   have hw:=hw.keeps (Keeps.of_below (Joins.below_bytesWorld _ w 5 t (Nat.le_refl _)))
   refine ⟨_,_,rfl,Br.d (fun h4=>?_) (fun h4=>skip (by omega) hw)⟩
   have hnl:=numsOf_le (l.take k)
   rw [List.length_take] at hnl
   refine pushI_rule elI8 (s:=o) hw (by rw [List.length_map];omega) fun s2 w hw=>?_
   refine ⟨⟨k + 1,rfl,by omega,?_⟩,by dsimp only;omega⟩
   rw [eT,if_pos (by omega)]
   have e:((numsOf (l.take k)).map fun n:Nat=>(n:Int))++[((numL (bytesL l[k]):Nat):Int)]=(numsOf (l.take k)++[numL (bytesL l[k])]).map fun n:Nat=>(n:Int):=by simp
   rw [e] at hw
   exact hw
 ·have:k=l.length:=by omega
  subst this
  rw [List.take_length] at hw
  exact ⟨o,rfl,hw⟩
end Go.Proofs.YtkfedbncmfnpnaaGreatDoor
/- Loading, step by step. No program. No condition. -/
namespace Go.VC
set_option linter.unusedVariables false
set_option linter.unusedSimpArgs false
variable {rd:Nat→List Int} {prev:Option Nat} {g g1 g2:Lg} {segs:List Sg} {n:Nat} {rest:List Nat} {d:Int}
abbrev nxt (rd:Nat→List Int) (prev:Option Nat) (n:Nat):Int:=nextOfSeg prev n (scan (rd n))
theorem loadL_amiss (h:nxt rd prev n=0∨(prev≠none∧nxt rd prev n≠g.last + 1)):loadL rd prev g segs (n::rest)=⟨g,segs,some ⟨n,nxt rd prev n,0⟩,rest⟩:=by
 conv=>lhs;unfold loadL
 simp only
 rw [if_pos h]
theorem loadL_fail (h:¬ (nxt rd prev n=0∨(prev≠none∧nxt rd prev n≠g.last + 1))) (hg:(if prev=none then (⟨nxt rd prev n - 1,g.l⟩:Lg) else g)=g1)
  (hr:runL g1 (headB n (nxt rd prev n)).length (scan (rd n)).tail=(g2,some d)):loadL rd prev g segs (n::rest)=⟨g2,segs++[⟨n,nxt rd prev n,(rd n).length⟩],some ⟨n,nxt rd prev n,d⟩,rest⟩:=by
 subst hg
 conv=>lhs;unfold loadL
 simp only
 rw [if_neg h,hr]
theorem loadL_more (h:¬ (nxt rd prev n=0∨(prev≠none∧nxt rd prev n≠g.last + 1))) (hg:(if prev=none then (⟨nxt rd prev n - 1,g.l⟩:Lg) else g)=g1)
  (hr:runL g1 (headB n (nxt rd prev n)).length (scan (rd n)).tail=(g2,none)) (he:scanLen (scan (rd n))=(rd n).length):loadL rd prev g segs (n::rest)=loadL rd (some n) g2 (segs++[⟨n,nxt rd prev n,(rd n).length⟩]) rest:=by
 subst hg
 conv=>lhs;unfold loadL
 simp only
 rw [if_neg h,hr]
 simp only
 rw [if_pos he]
theorem loadL_end (h:¬ (nxt rd prev n=0∨(prev≠none∧nxt rd prev n≠g.last + 1))) (hg:(if prev=none then (⟨nxt rd prev n - 1,g.l⟩:Lg) else g)=g1)
  (hr:runL g1 (headB n (nxt rd prev n)).length (scan (rd n)).tail=(g2,none)) (he:scanLen (scan (rd n))≠(rd n).length):loadL rd prev g segs (n::rest)=⟨g2,segs++[⟨n,nxt rd prev n,(rd n).length⟩],some ⟨n,nxt rd prev n,scanLen (scan (rd n))⟩,rest⟩:=by
 subst hg
 conv=>lhs;unfold loadL
 simp only
 rw [if_neg h,hr]
 simp only
 rw [if_neg he]
theorem nextOf_get {l:List (List Int)} (h:0<l.length) (hor:prev=none∨prev.map (· + 1)=some n):nextOfSeg prev n l=headL l[0] n:=by
 cases l with
 |nil=>simp at h
 |cons a l=>unfold nextOfSeg;simp only;rw [if_pos hor];rfl
theorem nxt_nn (hb:∀ x∈rd n,0≤x∧x<256) (hs:∀ b∈scan (rd n),∀ x∈b,0≤x∧x<256):0≤nxt rd prev n∧nxt rd prev n≤1099511627777:=by
 unfold nxt nextOfSeg
 split
 ·omega
 ·rename_i h t he
  split
  ·have hh:∀ x∈h,0≤x∧x<256:=hs h (by rw [he];exact List.mem_cons_self ..)
   have key:∀ (most:Int) (r:Rd),0≤most→(∀ x∈r.bs,0≤x∧x<256)→(0≤(rdNum most r).1∧(rdNum most r).1≤most)∧∀ x∈(rdNum most r).2.bs,0≤x∧x<256:=fun most r hm hb=>by
    unfold rdNum
    split
    ·exact ⟨⟨by simp,hm⟩,hb⟩
    ·split
     ·rename_i n neg k hp
      have:=parse_bd hb hp
      split
      ·rename_i hc;exact ⟨⟨this.1,hc.2⟩,fun x hx=>hb x (List.mem_of_mem_drop hx)⟩
      ·exact ⟨⟨by simp,hm⟩,hb⟩
     ·exact ⟨⟨by simp,hm⟩,hb⟩
   unfold headL
   simp only
   obtain ⟨_,h1⟩:=key 0 ⟨h,false⟩ (by omega) hh
   obtain ⟨_,h2⟩:=key 99999999 _ (by omega) h1
   obtain ⟨h3,_⟩:=key 1099511627777 _ (by omega) h2
   split<;>omega
  ·omega
theorem rd_bd (most:Int) (r:Rd) (hm:0≤most) (hb:∀ x∈r.bs,0≤x∧x<256):(0≤(rdNum most r).1∧(rdNum most r).1≤most)∧∀ x∈(rdNum most r).2.bs,0≤x∧x<256:=by
 unfold rdNum
 split
 ·exact ⟨⟨by simp,hm⟩,hb⟩
 ·split
  ·rename_i n neg k hp
   have:=parse_bd hb hp
   split
   ·rename_i hc;exact ⟨⟨this.1,hc.2⟩,fun x hx=>hb x (List.mem_of_mem_drop hx)⟩
   ·exact ⟨⟨by simp,hm⟩,hb⟩
  ·exact ⟨⟨by simp,hm⟩,hb⟩
theorem change_bd {g g':Lg} {b:List Int} (h:changeL g b=some g') (hb:0≤g.base∧g.base≤1099511627776) (hx:∀ x∈b,0≤x∧x<256):0≤g'.base∧g'.base≤1099511627776∧g'.l.length≤g.l.length + 1:=by
 have h0:=rd_bd 3 ⟨b,false⟩ (by omega) hx
 have h1:=rd_bd 1099511627777 _ (by omega) h0.2
 unfold changeL changeR1 at h
 simp only at h
 split at h
 ·unfold addR at h
  simp only at h
  split at h
  ·cases h;simp;exact hb
  ·cases h
 ·split at h
  ·unfold cutR at h
   simp only at h
   split at h
   ·cases h
    unfold cutTo
    split
    ·simp;omega
    ·split
     ·simp only [List.length_take];omega
     ·omega
   ·cases h
  ·split at h
   ·unfold resetR at h
    simp only at h
    split at h
    ·cases h;simp;omega
    ·cases h
   ·cases h
theorem loadL_mem {rd:Nat→List Int}:∀ {nums:List Nat} {prev:Option Nat} {g:Lg} {segs:List Sg},(∀ s,(loadL rd prev g segs nums).amiss=some s→s.num∈nums)∧∀ n∈(loadL rd prev g segs nums).behind,n∈nums:=fun {nums}=>by
 induction nums with
 |nil=>intro prev g segs;unfold loadL;exact ⟨fun _ h=>(by cases h),fun _ h=>(by cases h)⟩
 |cons n rest ih=>
  intro prev g segs
  by_cases h:nxt rd prev n=0∨(prev≠none∧nxt rd prev n≠g.last + 1)
  ·rw [loadL_amiss h]
   exact ⟨fun s hs=>(by cases hs;exact List.mem_cons_self ..),fun m hm=>List.mem_cons_of_mem _ hm⟩
  ·rcases hr:runL (if prev=none then (⟨nxt rd prev n - 1,g.l⟩:Lg) else g) (headB n (nxt rd prev n)).length (scan (rd n)).tail with ⟨g2,o⟩
   cases o with
   |some d=>
    rw [loadL_fail h rfl hr]
    exact ⟨fun s hs=>(by cases hs;exact List.mem_cons_self ..),fun m hm=>List.mem_cons_of_mem _ hm⟩
   |none=>
    by_cases he:scanLen (scan (rd n))=(rd n).length
    ·rw [loadL_more h rfl hr he]
     obtain ⟨h1,h2⟩:=ih (prev:=some n) (g:=g2) (segs:=segs++[⟨n,nxt rd prev n,((rd n).length:Int)⟩])
     exact ⟨fun s hs=>List.mem_cons_of_mem _ (h1 s hs),fun m hm=>List.mem_cons_of_mem _ (h2 m hm)⟩
    ·rw [loadL_end h rfl hr he]
     exact ⟨fun s hs=>(by cases hs;exact List.mem_cons_self ..),fun m hm=>List.mem_cons_of_mem _ hm⟩
theorem loadL_blen {rd:Nat→List Int}:∀ {nums:List Nat} {prev:Option Nat} {g:Lg} {segs:List Sg},(loadL rd prev g segs nums).behind.length≤nums.length:=fun {nums}=>by
 induction nums with
 |nil=>intro prev g segs;unfold loadL;exact Nat.le_refl _
 |cons n rest ih=>
  intro prev g segs
  by_cases h:nxt rd prev n=0∨(prev≠none∧nxt rd prev n≠g.last + 1)
  ·rw [loadL_amiss h];simp
  ·rcases hr:runL (if prev=none then (⟨nxt rd prev n - 1,g.l⟩:Lg) else g) (headB n (nxt rd prev n)).length (scan (rd n)).tail with ⟨g2,o⟩
   cases o with
   |some d=>rw [loadL_fail h rfl hr];simp
   |none=>
    by_cases he:scanLen (scan (rd n))=(rd n).length
    ·rw [loadL_more h rfl hr he]
     exact Nat.le_trans ih (by simp)
    ·rw [loadL_end h rfl hr he];simp
theorem head_out {h:List Int} {n:Nat} (hb:∀ x∈h,0≤x∧x<256) (hx:headL h n≠0):h=hdB n (headL h n):=by
 unfold headL at hx ⊢
 simp only at hx ⊢
 split at hx
 ·rename_i hc
  rw [if_pos hc]
  obtain ⟨_,b1⟩:=rd_bd 0 ⟨h,false⟩ (by omega) hb
  obtain ⟨_,b2⟩:=rd_bd 99999999 _ (by omega) b1
  obtain ⟨hw,hn⟩:=hc
  unfold rdWhole at hw
  simp only [Bool.and_eq_true,Bool.not_eq_true',decide_eq_true_eq] at hw
  obtain ⟨f1,g1⟩:=rdNum_out b2 hw.1
  obtain ⟨f2,g2⟩:=rdNum_out b1 f1
  obtain ⟨f3,g3⟩:=rdNum_out (r:=⟨h,false⟩) hb f2
  have z0:(rdNum 0 ⟨h,false⟩).1=0:=by obtain ⟨h1,_⟩:=rd_bd 0 ⟨h,false⟩ (by omega) hb;omega
  have e0:(rdNum 1099511627777 (rdNum 99999999 (rdNum 0 ⟨h,false⟩).2).2).2.bs=[]:=List.length_eq_zero_iff.1 hw.2
  rw [e0,List.append_nil] at g1
  rw [g1,hn,Int.toNat_natCast] at g2
  rw [g2,z0] at g3
  simpa [hdB] using g3
 ·exact absurd rfl hx
theorem scanLen_drop1 {l:List (List Int)} (h:0<l.length):scanLen l=8 + (l[0]).length + scanLen l.tail:=by
 cases l with
 |nil=>simp at h
 |cons a l=>exact scanLen_cons a l
theorem loadL_size {rd:Nat→List Int} (hb:∀ n,∀ b∈scan (rd n),∀ x∈b,0≤x∧x<256) (hl:∀ n,scanLen (scan (rd n))≤(rd n).length):∀ {nums:List Nat} {prev:Option Nat} {g:Lg} {segs:List Sg} (s:Sg),(loadL rd prev g segs nums).amiss=some s→0≤s.size∧s.size≤(rd s.num).length:=fun {nums}=>by
 induction nums with
 |nil=>intro prev g segs s h;unfold loadL at h;cases h
 |cons n rest ih=>
  intro prev g segs s hs
  by_cases h:nxt rd prev n=0∨(prev≠none∧nxt rd prev n≠g.last + 1)
  ·rw [loadL_amiss h] at hs;cases hs;simp
  ·rcases hr:runL (if prev=none then (⟨nxt rd prev n - 1,g.l⟩:Lg) else g) (headB n (nxt rd prev n)).length (scan (rd n)).tail with ⟨g2,o⟩
   cases o with
   |some d=>
    rw [loadL_fail h rfl hr] at hs
    cases hs
    obtain ⟨a,x,c,ht,_,rfl⟩:=runL_cut hr
    have hx0:nxt rd prev n≠0:=fun h0=>h (.inl h0)
    have hpos:0<(scan (rd n)).length:=by
     rcases Nat.eq_zero_or_pos (scan (rd n)).length with h0|h0
     ·exfalso;refine hx0 ?_;unfold nxt nextOfSeg;rw [List.length_eq_zero_iff.1 h0]
     ·exact h0
    have hh:(scan (rd n))[0]=hdB n (nxt rd prev n):=by
     have hor:prev=none∨prev.map (· + 1)=some n:=by
      apply Classical.byContradiction
      intro hno
      refine hx0 ?_
      unfold nxt nextOfSeg
      split
      ·rfl
      ·rw [if_neg hno]
     have e:nxt rd prev n=headL (scan (rd n))[0] n:=nextOf_get hpos hor
     rw [e]
     exact head_out (hb n _ (List.getElem_mem _)) (by rw [←e];exact hx0)
    have e1:=scanLen_drop1 hpos
    rw [hh,ht,scanLen_app2,scanLen_cons] at e1
    have h2:=hl n
    unfold headB
    rw [recB_len]
    simp only
    omega
   |none=>
    by_cases he:scanLen (scan (rd n))=(rd n).length
    ·rw [loadL_more h rfl hr he] at hs
     exact ih s hs
    ·rw [loadL_end h rfl hr he] at hs
     cases hs
     have:=hl n
     simp only;omega
end Go.VC
/- A log on a disk: what there is, loaded. Condition: bounds on lengths; the library's table of powers is laid. -/
namespace Go.Proofs.YtkfedbncmfnpnaaGreatDoor
set_option linter.unusedVariables false
set_option linter.unusedSimpArgs false
open Go Go.VC
variable {R R':Cx} {Hs Rest:List HP} {w:World}
abbrev sRow (s:Sg):List Value:=[.int .i64 s.num,.int .i64 s.next,.int .i64 s.size]
abbrev sCells (s:Sg):Obj:=.cells (sRow s).toArray 96 (0,0)
abbrev SegO (s:Sl) (segs:List Sg):HP:=OwnN 3 s 96 (segs.map sRow)
abbrev WS (p d:Nat) (lim base:Int) (s sg:Sl) (brk:Bool) (ds:List DE4) (segs:List Sg) (st:DS) (Hs:List HP):List HP:=pts p (wCells d lim base s sg brk)::EntO s ds::SegO sg segs::DiskAt d st::Hs
def AmAt (am:Option Addr) (o:Option Sg):HP:=match o with
  |none=>pur (am=none)
  |some g=>exs fun b:Nat=>Star [pur (am=some ⟨b,0,none⟩),pts b (sCells g)]
theorem AmAt.no (h:Sat R Hs w):Sat R (AmAt none none::Hs) w:=Sat.pur.2 ⟨rfl,h⟩
theorem AmAt.yes {b:Nat} {g:Sg} (h:Sat R (pts b (sCells g)::Hs) w):Sat R (AmAt (some ⟨b,0,none⟩) (some g)::Hs) w:=Sat.exs.2 ⟨b,Sat.star.2 (Sat.pur.2 ⟨rfl,h⟩)⟩
theorem stars_leak {T:TypeId}:∀ {ps:List (Sl × List Int)} {R:Cx} {Hs:List HP} {w:World},Sat R (Star (ps.map fun p=>Own p.1 T (b8 p.2))::Hs) w→∃ R',R.Ext R'∧(∀ p∈ps,SlR R'.m p.1 (b8 p.2))∧Sat R' Hs w
  |[],R,_,_,h=>⟨R,.refl,fun _ h=>(by cases h),Sat.star.1 h⟩
  |p::ps,R,Hs,w,h=>by
    have h1:Sat R (Own p.1 T (b8 p.2)::(ps.map fun p=>Own p.1 T (b8 p.2))++Hs) w:=Sat.star.1 h
    obtain ⟨R1,e1,g1,h2⟩:=Own.leak h1
    obtain ⟨R2,e2,g2,h3⟩:=stars_leak (Sat.star.2 h2)
    refine ⟨R2,e1.trans e2,fun q hq=>?_,h3⟩
    rcases List.mem_cons.1 hq with rfl|hq
    · exact e2.slR g1
    · exact g2 q hq
theorem bytes_leak {l:Sl} {xss:List (List Int)} (h:Sat R (BytesL l xss::Hs) w):∃ (R':Cx) (ps:List (Sl × List Int)),R.Ext R'∧ps.map (·.2)=xss∧SlR R'.m l ((ps.map fun p:Sl × List Int=>p.1).map Sl.v)∧(∀ p∈ps,SlR R'.m p.1 (b8 p.2))∧Sat R' Hs w:=by
  obtain ⟨ps,hps,hw⟩:=Sat.bytesL.1 h
  obtain ⟨R1,e1,g1,hw⟩:=Own.leak hw
  obtain ⟨R2,e2,g2,hw⟩:=stars_leak hw
  refine ⟨R2,ps,e1.trans e2,hps,?_,g2,hw⟩
  rw [List.map_map]
  exact e2.slR g1
theorem _root_.Go.VC.SlR.ixS {s:Sl} {ps:List Sl} {S:World→Prop} {i:Int} (hr:SlR R.m s (ps.map Sl.v)) (hS:∀ w,S w→Sat R Hs w) (j:Nat) (hi:i=j) (hj:j<ps.length) {F:Sl→Prop} (h:F ps[j]):
    Rng i s.len (NilP s.a fun a=>∃ t:Sl,(At S (a.add i.toNat) [.slice t.a t.len t.cap])∧F t):=by
  subst hi
  have hl:s.len=ps.length:=by have:=hr.len;simpa using this
  obtain ⟨b,off,l,T,fr,ha,hb,hel⟩:=hr.mem (by intro h0;rw [List.map_eq_nil_iff] at h0;rw [h0] at hj;simp at hj)
  refine Rng.mk (by omega) (by omega) (NilP.mk ha ⟨ps[j],fun w hw i v hv=>?_,h⟩)
  have hi:i=0:=by
    cases i with
    |zero=>rfl
    |succ i=>simp at hv
  subst hi
  simp only [List.getElem?_cons_zero,Option.some.injEq] at hv
  subst hv
  rw [Int.toNat_natCast,add_off,add_off]
  have:=(hS w hw).of_ro hb
  simp only [World.cell?,this,Option.isSome_none,Bool.false_eq_true,if_false]
  exact hel j _ (by simp [hj,Sl.v])
def LoadQ (R:Cx) (Hs:List HP) (p d:Nat) (lim:Int) (brk:Bool) (st:DS) (v:Value) (w:World):Prop:=
  ∃ R' base s ds sg am bh,R.Ext R'∧DsR R' ds∧v=.tuple #[.pointer am,.slice bh.a bh.len bh.cap]∧(⟨base,erE ds⟩:Lg)=(loadD st).g∧SlR R'.m bh (encN (loadD st).behind)∧0≤base∧base≤1099511627776∧ds.length≤100000000000∧
    (loadD st).segs.length≤40000∧Sat R' (AmAt am (loadD st).amiss::WS p d lim base s sg brk ds (loadD st).segs st Hs) w
theorem load_spec {p d:Nat} {lim base:Int} {s sg:Sl} {brk:Bool} {ds:List DE4} {segs:List Sg} {st:DS} (i:Inv st) (hby:ByOk st.fs) (hc:st.fs.length≤40000) (hp:PowR R) (hw:Sat R (WS p d lim base s sg brk ds segs st Hs) w):
    Gets Tryz.prog 58 #[.pointer (some ⟨p,0,none⟩)] w (LoadQ R Hs p d lim brk st):=by
  apply call58
  suffices H:∀ K:Value→World→Prop,(∀ v w',LoadQ R Hs p d lim brk st v w'→K v w')→B58 (some ⟨p,0,none⟩) K w from H _ fun _ _ h=>h
  intro K hK
  refine NilP.mk rfl ?_
  refine store_rule hw (by kernel_rfl) rfl (by simp [Value.cells,putL_len]) fun w hw=>?_
  refine NilP.mk rfl ?_
  refine store_rule hw (by kernel_rfl) rfl (by simp [Value.cells,putL_len]) fun w hw=>?_
  have hw:Sat R (pts p (wCells d lim 0 ⟨none,0,0⟩ ⟨none,0,0⟩ brk)::EntO s ds::SegO sg segs::DiskAt d st::Hs) w:=hw
  have hw:Sat R (DiskAt d st::pts p (wCells d lim 0 ⟨none,0,0⟩ ⟨none,0,0⟩ brk)::Hs) w:=(hw.cons fun _ h=>h.drop.drop).swap
  refine NilP.mk rfl ⟨_,(by rw [add_off];exact At.own (eqS hw) (by exact ⟨rfl,trivial⟩)),?_⟩
  refine (names_spec i (by omega) hw).use ?_
  clear hw
  rintro _ w ⟨sn,rfl,hw⟩
  refine ⟨sn,rfl,?_⟩
  obtain ⟨R1,e1,hn1,hw⟩:=Own.leak hw
  have hnl:=namesOf_len st.fs
  refine (numbered_spec (hn1.ro (by rw [List.length_map];omega)) (by omega) (fun k hk=>by have:=nameOk_size (i.names k (mem_names.1 hk));omega) hw).use ?_
  clear hw
  rintro _ w ⟨sa,rfl,hw⟩
  refine ⟨sa,rfl,?_⟩
  obtain ⟨R2,e2,hall,hw⟩:=Own.leak hw
  obtain ⟨nums,hnums⟩:∃ n,n=numsOf (namesOf st.fs):=⟨_,rfl⟩
  obtain ⟨rd,hrd⟩:∃ rd:Nat→List Int,rd=fun n=>(readD st (segName n)).1:=⟨_,rfl⟩
  have hload:loadD st=loadL rd none ⟨0,[]⟩ [] nums:=by subst hrd hnums;rfl
  have hnb:∀ n∈nums,1≤n∧n<100000000:=fun n hn=>by
    rw [hnums] at hn
    unfold numsOf at hn
    rw [List.mem_filter] at hn
    obtain ⟨h1,h2⟩:=hn
    obtain ⟨k,_,rfl⟩:=List.mem_map.1 h1
    exact ⟨by have:=of_decide_eq_true h2;omega,numL_lt⟩
  have hnlen:nums.length≤40000:=by rw [hnums];have:=numsOf_le (namesOf st.fs);omega
  rw [←hnums] at hall
  have hal:sa.len=nums.length:=by have:=hall.len;simpa using this
  have hrb:∀ n,(∀ x∈rd n,0≤x∧x<256)∧(rd n).length≤16777216:=fun n=>by
    rw [hrd]
    refine ⟨by_read hby _,?_⟩
    show (readD st (segName n)).1.length≤_
    unfold readD
    split
    · simp
    · split
      · simp
      · split
        · simp
        · rename_i f hf
          have:=total_le hf;have:=i.full;have:=i.r1
          simp only;omega
  have hsb:∀ n,∀ b∈scan (rd n),b.length≤65536∧∀ x∈b,0≤x∧x<256:=fun n b hb=>by
    obtain ⟨h1,h2⟩:=scan_mem _ (rd n) (Nat.le_refl _) b hb
    exact ⟨h1,fun x hx=>(hrb n).1 x (h2 x hx)⟩
  have hp2:=(hp.ext e1).ext e2
  have e12:=e1.trans e2
  refine ⟨fun i w=>∃ (k:Nat) (g:Lg) (sgs:List Sg) (R3:Cx) (s:Sl) (ds:List DE4) (sg:Sl),i=k∧k≤nums.length∧R2.Ext R3∧DsR R3 ds∧g=⟨g.base,erE ds⟩∧(0≤g.base∧g.base≤1099511627776)∧ds.length≤k * 2097153∧(k=0→g=⟨0,[]⟩)∧sgs.length=k∧
      loadD st=loadL rd (if k=0 then none else nums[k - 1]?) g sgs (nums.drop k)∧Sat R3 (WS p d lim g.base s sg brk ds sgs st Hs) w,fun i _=>nums.length - i.toNat,⟨0,⟨0,[]⟩,[],R2,⟨none,0,0⟩,[],⟨none,0,0⟩,rfl,by omega,.refl,.nil,rfl,⟨by simp,by simp⟩,by simp,fun _=>rfl,rfl,hload,?_⟩,?_⟩
  · exact hw.swap.cons fun _ h=>OwnN.nil (OwnN.nil h)
  clear hw
  rintro _ _ w ⟨k,g,sgs,R3,s,ds,sg,rfl,hk,e3,hd,hg,hgb,hdl,hg0,hsl,hL,hw⟩
  have hall3:=e3.slR hall
  refine Br.d (fun h=>?_) (fun h=>?_)
  rotate_left
  · have hkn:k=nums.length:=by omega
    rw [hkn,List.drop_length] at hL
    have hL2:loadD st=⟨g,sgs,none,[]⟩:=by rw [hL];unfold loadL;rfl
    refine hK _ _ ⟨R3,g.base,s,ds,sg,none,⟨none,0,0⟩,e12.trans e3,hd,rfl,?_,?_,hgb.1,hgb.2,by omega,?_,?_⟩
    · rw [hL2];exact hg.symm
    · rw [hL2];exact ⟨rfl,by simp,fun h=>absurd rfl h⟩
    · rw [hL2];show sgs.length≤_;omega
    · rw [hL2];exact AmAt.no hw
  have hk':k<nums.length:=by omega
  have hnk:=hnb nums[k] (List.getElem_mem _)
  obtain ⟨n,hn⟩:∃ n,n=nums[k]:=⟨_,rfl⟩
  rw [←hn] at hnk
  have hdrop:nums.drop k=n::nums.drop (k + 1):=by rw [hn];exact drop_get hk'
  rw [hdrop] at hL
  obtain ⟨prev,hprev⟩:∃ q,q=(if k=0 then none else nums[k - 1]?):=⟨_,rfl⟩
  rw [←hprev] at hL
  have w1:IntKind.i64.wrap ((k:Int) + 1)=((k + 1:Nat):Int):=by rw [wrap64 (by omega) (by omega)];omega
  rw [w1]
  have hbh:SlR R3.m (sdrop sa (k + 1)) (encN (nums.drop (k + 1))):=by
    have:=hall3.drop (k:=k + 1) (by simp;omega)
    simpa [encN,List.map_drop] using this
  refine hall3.ix (eqS hw) k rfl (by simpa using hk') ?_
  have en:(nums.map fun n:Nat=>(n:Int))[k]'(by simpa using hk')=((n:Nat):Int):=by simp [hn]
  rw [en]
  refine new_rule hw fun b w hw=>?_
  refine store_rule hw (by kernel_rfl) rfl (by simp [Value.cells,putL_len]) fun w hw=>?_
  have hw:Sat R3 (pts b (sCells ⟨n,0,0⟩)::WS p d lim g.base s sg brk ds sgs st Hs) w:=hw
  refine drw_rule' (Sat R3 [pts b (sCells ⟨n,0,0⟩),pts p (wCells d lim g.base s sg brk),VC.tru]) hw (fun w hw=>hw.k2) fun w hw=>?_
  refine NilP.mk rfl ⟨_,(by rw [add_off];exact At.own selfS (by exact ⟨rfl,trivial⟩)),_,_,_,At.own selfS (by exact ⟨rfl,rfl,rfl,trivial⟩),?_⟩
  refine (name_spec (hp2.ext e3) hnk.2 hw).use ?_
  clear hw
  rintro _ w ⟨rfl,hw⟩
  refine ⟨_,rfl,hw.k2,?_⟩
  have hw:Sat R3 (DiskAt d st::pts b (sCells ⟨n,0,0⟩)::pts p (wCells d lim g.base s sg brk)::EntO s ds::SegO sg sgs::Hs) w:=hw.arr
  refine (read_spec i hw).use ?_
  clear hw
  rintro _ w ⟨t,rfl,hw⟩
  refine ⟨t,_,rfl,hw.k2,?_⟩
  obtain ⟨R4,e4,ht,hw⟩:=Own.leak hw
  have ern:(readD st (segName n)).1=rd n:=by rw [hrd]
  rw [ern] at ht
  have hbl:=(hrb n).2
  have htl:t.len=(rd n).length:=by have:=ht.len;simpa using this
  refine (scan_spec (hrb n).1 (by omega) ht hw).use ?_
  clear hw
  rintro _ w ⟨l,rfl,hw⟩
  obtain ⟨R5,ps,e5,hps,hl,hpp,hw⟩:=bytes_leak hw
  refine ⟨l,_,rfl,?_⟩
  have hpl:ps.length=(scan (rd n)).length:=by rw [←hps];simp
  have hll:l.len=ps.length:=by have:=hl.len;simpa using this
  have hcap:=hl.cap
  have hn8:=len_scanLen (scan (rd n))
  have hsle:=scanLen_le _ (rd n) (Nat.le_refl _)
  have e35:=e4.trans e5
  have hd:=hd.ext e35
  have hall5:=e35.slR hall3
  have hbh:=e35.slR hbh
  have hpj:∀ j (hj:j<ps.length),ps[j].2=(scan (rd n))[j]'(by omega)∧SlR R5.m ps[j].1 (b8 ((scan (rd n))[j]'(by omega))):=fun j hj=>by
    have e:ps[j].2=(scan (rd n))[j]'(by omega):=by
      have:(ps.map (·.2))[j]'(by simpa using hj)=(scan (rd n))[j]'(by omega):=by simp only [hps]
      simpa using this
    exact ⟨e,by rw [←e];exact hpp _ (List.getElem_mem _)⟩
  have hnx:=nxt_nn (prev:=prev) (hrb n).1 fun b hb=>(hsb n b hb).2
  have hprev0:prev=none↔k=0:=by
    rw [hprev]
    split
    · simp [*]
    · rename_i h0
      rw [List.getElem?_eq_getElem (by omega)]
      simp [h0]
  have fin:∀ {R6:Cx} {base:Int} {s:Sl} {ds:List DE4} {sg:Sl} {sgs':List Sg} {am:Sg} {w:World},R5.Ext R6→DsR R6 ds→loadD st=⟨⟨base,erE ds⟩,sgs',some am,nums.drop (k + 1)⟩→0≤base→base≤1099511627776→ds.length≤100000000000→sgs'.length≤40000→
      Sat R6 (pts b (sCells am)::WS p d lim base s sg brk ds sgs' st Hs) w→(0:Int)≤((k + 1:Nat):Int)∧(((k + 1:Nat):Int)≤(sa.len:Int))∧K (.tuple #[.pointer (some ⟨b,0,none⟩),.slice (cutA sa.a ((k + 1:Nat):Int).toNat sa.cap 1) (sa.len - ((k + 1:Nat):Int).toNat) (sa.cap - ((k + 1:Nat):Int).toNat)]) w:=
    fun {R6 base s ds sg sgs' am w} e6 hd hld hb0 hb1 hdl hsl hw=>by
      refine ⟨by omega,by omega,hK _ _ ⟨R6,base,s,ds,sg,some ⟨b,0,none⟩,sdrop sa (k + 1),((e12.trans e3).trans e35).trans e6,hd,by rw [Int.toNat_natCast],?_,?_,hb0,hb1,hdl,?_,?_⟩⟩
      · rw [hld]
      · rw [hld];exact e6.slR hbh
      · rw [hld];exact hsl
      · rw [hld];exact AmAt.yes hw
  refine ⟨Sat R5 (pts b (sCells ⟨n,nxt rd prev n,0⟩)::WS p d lim g.base s sg brk ds sgs st Hs),?_,?_⟩
  · have hw:Sat R5 (pts b (sCells ⟨n,0,0⟩)::WS p d lim g.base s sg brk ds sgs st Hs) w:=hw.arr
    have skip:nxt rd prev n=0→Sat R5 (pts b (sCells ⟨n,nxt rd prev n,0⟩)::WS p d lim g.base s sg brk ds sgs st Hs) w:=fun h=>by rw [h];exact hw
    have some1:∀ (hpos:0<ps.length),(prev=none∨prev.map (· + 1)=some n)→Rng 0 l.len (NilP l.a fun a_t72=>
        ∃ t73:Sl,(At (fun w'=>w'=w) (Addr.add a_t72 0) [.slice t73.a t73.len t73.cap])∧
        Calls Tryz.prog 109 #[.slice t73.a t73.len t73.cap,.int .i64 n] w fun e_5 w_12=>
        ∃ t75:Int,(e_5=.returned (.int .i64 t75))∧
        ∃ w_13:World,((Instr.storeAt 3 (.pointer ((some ⟨b,0 + 1,none⟩))) (.int .i64 t75)).run Tryz.prog w_12=.ok () w_13)∧
        Sat R5 (pts b (sCells ⟨n,nxt rd prev n,0⟩)::WS p d lim g.base s sg brk ds sgs st Hs) w_13):=fun hpos hor=>by
      refine hl.ixS (eqS hw) 0 rfl (by simpa using hpos) ?_
      obtain ⟨_,h2⟩:=hpj 0 hpos
      have hb0:=hsb n _ (List.getElem_mem (h:=(by omega:0<(scan (rd n)).length)))
      have en0:(ps.map fun p:Sl × List Int=>p.1)[0]'(by simpa using hpos)=ps[0].1:=by simp
      rw [en0]
      refine (head_spec hb0.2 (by omega) (h2.ro (by rw [List.length_map];omega)) hw).use ?_
      clear hw
      rintro _ w ⟨rfl,hw⟩
      refine ⟨_,rfl,?_⟩
      refine store_rule hw (by kernel_rfl) rfl (by simp [Value.cells,putL_len]) fun w hw=>?_
      have enx:nxt rd prev n=headL ((scan (rd n))[0]'(by omega)) n:=nextOf_get (by omega) hor
      rw [enx]
      exact hw
    have noscan:ps.length=0→nxt rd prev n=0:=fun h0=>by
      unfold nxt nextOfSeg
      cases hs:scan (rd n) with
      |nil=>rfl
      |cons a l=>rw [hs] at hpl;simp at hpl;omega
    refine Br.d (fun h1=>?_) (fun h1=>skip (noscan (by omega)))
    refine Br.e (fun h2=>?_) (fun h2=>?_)
    · exact some1 (by omega) (.inl (hprev0.2 (by omega)))
    · have h20:k≠0:=fun h=>h2 (by rw [h];rfl)
      have wk:IntKind.i64.wrap ((k:Int) - 1)=((k - 1:Nat):Int):=by rw [wrap64 (by omega) (by omega)];omega
      rw [wk]
      refine hall5.ix (eqS hw) (k - 1) rfl (by simp;omega) ?_
      have en1:(nums.map fun n:Nat=>(n:Int))[k - 1]'(by simp;omega)=((nums[k - 1]'(by omega):Nat):Int):=by simp
      rw [en1]
      have hpv:prev=some (nums[k - 1]'(by omega)):=by rw [hprev,if_neg h20,List.getElem?_eq_getElem (by omega)]
      have hpb:=hnb _ (List.getElem_mem (h:=(by omega:k - 1<nums.length)))
      rw [wrap64 (by omega) (by omega)]
      refine Br.e (fun h3=>?_) (fun h3=>skip ?_)
      · exact some1 (by omega) (.inr (by rw [hpv];simp;omega))
      · unfold nxt nextOfSeg
        split
        · rfl
        · rw [if_neg]
          rw [hpv]
          simp
          omega
  clear hw
  rintro _ w hw
  have hdsl:s.len=ds.length:=by
    have h2:Sat R5 (EntO s ds::pts b (sCells ⟨n,nxt rd prev n,0⟩)::pts p (wCells d lim g.base s sg brk)::SegO sg sgs::DiskAt d st::Hs) w:=hw.arr
    have:=OwnN.len h2;simpa using this
  have hlast:g.last=g.base + ds.length:=by rw [hg];unfold Lg.last;simp
  refine ⟨fun w=>¬ (nxt rd prev n=0∨(prev≠none∧nxt rd prev n≠g.last + 1))∧Sat R5 (pts b (sCells ⟨n,nxt rd prev n,0⟩)::WS p d lim (if k=0 then nxt rd prev n - 1 else g.base) s sg brk ds sgs st Hs) w,?_,?_⟩
  · refine ⟨fun t w=>(t=decide (nxt rd prev n=0∨(prev≠none∧nxt rd prev n≠g.last + 1)))∧Sat R5 (pts b (sCells ⟨n,nxt rd prev n,0⟩)::WS p d lim g.base s sg brk ds sgs st Hs) w,?_,?_⟩
    · refine drw_rule hw fun w hw=>?_
      refine ⟨_,At.own selfS (by exact ⟨rfl,trivial⟩),Br.e (fun h1=>⟨(decide_eq_true (.inl h1)).symm,hw⟩) (fun h1=>?_)⟩
      refine Br.d (fun h2=>?_) (fun h2=>⟨?_,hw⟩)
      · refine ⟨_,At.own selfS (by exact ⟨rfl,trivial⟩),NilP.mk rfl ?_⟩
        refine (last_spec (p:=p) hgb.1 (by omega) (by omega) hw).use ?_
        clear hw
        rintro _ w ⟨rfl,hw⟩
        refine ⟨_,rfl,hw,?_,hw⟩
        rw [wrap64 (by omega) (by omega),hdsl,hlast]
        have hpn:prev≠none:=fun h=>by have:=hprev0.1 h;omega
        by_cases h3:nxt rd prev n=g.base + (ds.length:Int) + 1
        · rw [show (nxt rd prev n !=g.base + (ds.length:Int) + 1)=false by simp [h3]]
          symm
          exact decide_eq_false (fun h=>h.elim h1 (fun h=>h.2 h3))
        · rw [show (nxt rd prev n !=g.base + (ds.length:Int) + 1)=true by simp [h3]]
          symm
          exact decide_eq_true (.inr ⟨hpn,h3⟩)
      · symm
        refine decide_eq_false (fun h=>h.elim h1 (fun h=>h.1 (hprev0.2 (by omega))))
    clear hw
    rintro _ _ w ⟨rfl,hw⟩
    refine Br.d (fun h1=>?_) (fun h1=>?_)
    · refine drw_rule hw fun w hw=>?_
      refine fin .refl hd (by rw [hL,loadL_amiss h1,←hg]) hgb.1 hgb.2 (by omega) (by omega) hw
    · refine Br.e (fun h2=>?_) (fun h2=>⟨h1,?_⟩)
      · have hk0:k=0:=by omega
        refine ⟨nxt rd prev n,At.own (eqS hw) (by exact ⟨rfl,trivial⟩),NilP.mk rfl ?_⟩
        have hx0:nxt rd prev n≠0:=fun h=>h1 (.inl h)
        rw [wrap64 (by omega) (by omega)]
        refine store_rule hw (by kernel_rfl) rfl (by simp [Value.cells,putL_len]) fun w hw=>?_
        refine ⟨h1,?_⟩
        rw [if_pos hk0]
        have hw:Sat R5 (pts p (wCells d lim (nxt rd prev n - 1) s sg brk)::pts b (sCells ⟨n,nxt rd prev n,0⟩)::EntO s ds::SegO sg sgs::DiskAt d st::Hs) w:=hw
        exact hw.swap
      · rw [if_neg (fun h=>h2 (by rw [h];rfl))];exact hw
  clear hw
  rintro _ w ⟨h1,hw⟩
  obtain ⟨g1,hg1⟩:∃ g1:Lg,g1=(if prev=none then ⟨nxt rd prev n - 1,g.l⟩ else g):=⟨_,rfl⟩
  have hx0:nxt rd prev n≠0:=fun h=>h1 (.inl h)
  have eg1:g1=⟨if k=0 then nxt rd prev n - 1 else g.base,erE ds⟩:=by
    rw [hg1]
    by_cases hk0:k=0
    · rw [if_pos (hprev0.2 hk0),if_pos hk0]
      have:g.l=erE ds:=by rw [hg]
      rw [this]
    · rw [if_neg (fun h=>hk0 (hprev0.1 h)),if_neg hk0];exact hg
  have hb1:0≤(if k=0 then nxt rd prev n - 1 else g.base)∧(if k=0 then nxt rd prev n - 1 else g.base)≤1099511627776:=by split<;>omega
  obtain ⟨base1,hbase1⟩:∃ b,b=(if k=0 then nxt rd prev n - 1 else g.base):=⟨_,rfl⟩
  rw [←hbase1] at hw eg1 hb1
  rw [htl]
  refine store_rule hw (by kernel_rfl) rfl (by simp [Value.cells,putL_len]) fun w hw=>?_
  have hw:Sat R5 (pts b (sCells ⟨n,nxt rd prev n,(rd n).length⟩)::WS p d lim base1 s sg brk ds sgs st Hs) w:=hw
  refine drw_rule' (Sat R5 [pts b (sCells ⟨n,nxt rd prev n,(rd n).length⟩),pts p (wCells d lim base1 s sg brk),VC.tru]) hw (fun w hw=>hw.k2) fun w hw=>?_
  refine NilP.mk rfl ⟨sg,At.own selfS (by exact ⟨rfl,trivial⟩),_,_,_,At.own selfS (by exact ⟨rfl,rfl,rfl,trivial⟩),new_rule hw fun b2 w hw=>⟨hw.k2,?_⟩⟩
  have hw:Sat R5 (SegO sg sgs::pts b2 (.cells (sRow ⟨n,nxt rd prev n,(rd n).length⟩).toArray 96 (0,0))::pts b (sCells ⟨n,nxt rd prev n,(rd n).length⟩)::pts p (wCells d lim base1 s sg brk)::EntO s ds::DiskAt d st::Hs) w:=hw.arr
  refine pushN_in elG hw rfl rfl (by rw [List.length_map];omega) (by rw [List.length_map];omega) fun sg2 w hw=>?_
  obtain ⟨sgs2,hsgs2⟩:∃ x,x=sgs++[⟨n,nxt rd prev n,((rd n).length:Int)⟩]:=⟨_,rfl⟩
  have hw:Sat R5 (pts p (wCells d lim base1 s sg brk)::pts b (sCells ⟨n,nxt rd prev n,(rd n).length⟩)::EntO s ds::SegO sg2 sgs2::DiskAt d st::Hs) w:=by
    rw [hsgs2];unfold SegO;rw [List.map_append];simp only [List.map_cons,List.map_nil];exact hw.arr
  refine ⟨hw.k2,NilP.mk rfl ?_⟩
  refine store_rule hw (by kernel_rfl) rfl (by simp [Value.cells,putL_len]) fun w hw=>?_
  have hw:Sat R5 (pts b (sCells ⟨n,nxt rd prev n,(rd n).length⟩)::WS p d lim base1 s sg2 brk ds sgs2 st Hs) w:=Sat.swap hw
  refine ⟨_,At.own (eqS hw) (by exact ⟨rfl,trivial⟩),new_rule hw fun b3 w hw=>?_⟩
  obtain ⟨hc3,hw⟩:=Sat.lend.1 hw
  refine (encoded_spec (t:=none) (sd:=⟨none,0,0⟩) (xs:=[0,n,nxt rd prev n]) (sl:=⟨some ⟨b3,0,none⟩,3,3⟩) (fun x hx=>by simp at hx;omega) (by simp) (fun d h=>by cases h) (ro_new (by simp) rfl hc3) hw).use ?_
  clear hw
  rintro _ w ⟨te,rfl,hw⟩
  have hte:te.len=(headB n (nxt rd prev n)).length:=by have:=Own.len hw;rw [encB_hd] at this;simpa using this
  have hw:=(Sat.lend.2 ⟨hc3,hw.drop⟩).drop
  have hscn:0<ps.length:=by
    rcases Nat.eq_zero_or_pos ps.length with h0|h0
    · exfalso
      refine hx0 ?_
      unfold nxt nextOfSeg
      cases hs:scan (rd n) with
      |nil=>rfl
      |cons a l=>rw [hs] at hpl;simp at hpl;omega
    · exact h0
  have hl1:SlR R5.m (sdrop l 1) ((ps.drop 1).map fun p=>Sl.v p.1):=by
    have:=hl.drop (k:=1) (by simp;omega)
    simpa [List.map_drop,Function.comp_def] using this
  have htail:(scan (rd n)).tail=(scan (rd n)).drop 1:=by rw [List.drop_one]
  refine ⟨te,rfl,by omega,by omega,?_⟩
  rw [hte]
  obtain ⟨bodies,hbod⟩:∃ x,x=(scan (rd n)).drop 1:=⟨_,rfl⟩
  have hbl2:bodies.length=ps.length - 1:=by rw [hbod,List.length_drop];omega
  have hl0:=recB_len (hdB n (nxt rd prev n))
  have hl0':=hdB_len (n:=n) (next:=nxt rd prev n) (by omega) hnx.2
  refine ⟨fun dn i w=>∃ (j:Nat) (gj:Lg) (R6:Cx) (s:Sl) (ds':List DE4),i=j∧j≤bodies.length∧R5.Ext R6∧DsR R6 ds'∧gj=⟨gj.base,erE ds'⟩∧(0≤gj.base∧gj.base≤1099511627776)∧ds'.length≤ds.length + j∧(0≤dn∧dn≤1000 + 70000 * j)∧
      runL g1 (headB n (nxt rd prev n)).length bodies=runL gj dn (bodies.drop j)∧Sat R6 (pts b (sCells ⟨n,nxt rd prev n,(rd n).length⟩)::WS p d lim gj.base s sg2 brk ds' sgs2 st Hs) w,fun _ i _=>bodies.length - i.toNat,⟨0,g1,R5,s,ds,rfl,by omega,.refl,hd,by rw [eg1],by rw [eg1];exact hb1,by omega,⟨by omega,by unfold headB;omega⟩,rfl,by rw [eg1];exact hw⟩,?_⟩
  clear hw
  rintro _ dn _ w ⟨j,gj,R6,s,ds',rfl,hj,e6,hd6,hgj,hgjb,hdl6,hdn,hrun,hw⟩
  have hll1:l.len - Int.toNat 1=bodies.length:=by rw [hbl2,hll];rfl
  rw [hll1]
  have h8:8 * bodies.length≤16777216:=by omega
  have hd40:ds'.length≤100000000000:=by omega
  refine Br.d (fun h2=>?_) (fun h2=>?_)
  · have hj':j<bodies.length:=by omega
    have hdj:bodies.drop j=bodies[j]::bodies.drop (j + 1):=drop_get hj'
    have hbj:bodies[j]=(scan (rd n))[j + 1]'(by omega):=by simp only [hbod,List.getElem_drop];congr 1;omega
    have hl6:=e6.slR hl1
    have hl6b:SlR R6.m (sdrop l 1) (((ps.drop 1).map fun p:Sl × List Int=>p.1).map Sl.v):=by rw [List.map_map];exact hl6
    have hsd:(⟨cutA l.a (Int.toNat 1) l.cap 1,bodies.length,l.cap - 1⟩:Sl)=sdrop l 1:=by rw [←hll1];rfl
    have main:=hl6b.ixS (eqS hw) j rfl (by simp;omega) (i:=(j:Int)) (F:=fun t134=>Drw w fun S_4 w_31=>
      Calls Tryz.prog 111 #[.slice t134.a t134.len t134.cap] w_31 fun e_9 w_32=>
      ∃ t139:Option Addr,(e_9=.returned (.pointer t139))∧
      Calls Tryz.prog 110 #[.pointer ((some ⟨p,0 + 2,none⟩)),.pointer t139] w_32 fun e_10 w_33=>
      ∃ t140:Bool,(e_10=.returned (.bool t140))∧
      Br (!t140)
       (∃ w_34:World,((Instr.storeAt 3 (.pointer ((some ⟨b,0 + 2,none⟩))) (.int .i64 dn)).run Tryz.prog w_33=.ok () w_34)∧
        Drw w_34 fun S_5 w_35=>
        ((0:Int)≤((k + 1:Nat):Int))∧
        ((((k + 1:Nat):Int):Int)≤(sa.len:Int))∧
        K (.tuple #[.pointer ((some ⟨b,0,none⟩)),.slice (cutA sa.a ((k + 1:Nat):Int).toNat sa.cap 1) (sa.len - ((k + 1:Nat):Int).toNat) (sa.cap - ((k + 1:Nat):Int).toNat)]) w_35)
       (Calls Tryz.prog 112 #[.slice t134.a t134.len t134.cap] w_33 fun e_11 w_36=>
        ∃ t150:Sl,∃ t150_1:Int,(e_11=.returned (.tuple #[.slice t150.a t150.len t150.cap,.int .i64 t150_1]))∧
        (∃ (j':Nat) (gj:Lg) (R6:Cx) (s:Sl) (ds':List DE4),IntKind.i64.wrap ((j:Int) + 1)=j'∧j'≤bodies.length∧R5.Ext R6∧DsR R6 ds'∧gj=⟨gj.base,erE ds'⟩∧(0≤gj.base∧gj.base≤1099511627776)∧ds'.length≤ds.length + j'∧(0≤IntKind.i64.wrap (dn + (t150.len:Int))∧IntKind.i64.wrap (dn + (t150.len:Int))≤1000 + 70000 * j')∧
          runL g1 (headB n (nxt rd prev n)).length bodies=runL gj (IntKind.i64.wrap (dn + (t150.len:Int))) (bodies.drop j')∧Sat R6 (pts b (sCells ⟨n,nxt rd prev n,(rd n).length⟩)::WS p d lim gj.base s sg2 brk ds' sgs2 st Hs) w_36)∧
        bodies.length - (IntKind.i64.wrap ((j:Int) + 1)).toNat<bodies.length - ((j:Nat):Int).toNat)) ?_
    · rw [←hsd] at main
      refine (show _ from main)
    have en2:((ps.drop 1).map fun p:Sl × List Int=>p.1)[j]'(by simp;omega)=(ps[j + 1]'(by omega)).1:=by simp [Nat.add_comm]
    rw [en2]
    obtain ⟨_,hbo⟩:=hpj (j + 1) (by omega)
    rw [←hbj] at hbo
    have hbo6:=e6.slR hbo
    have hbb:=hsb n bodies[j] (by rw [hbj];exact List.getElem_mem _)
    have hro:=hbo6.ro (by rw [List.length_map];omega)
    refine drw_rule' (fun _=>True) hw (fun _ _=>trivial) fun w hw=>?_
    refine (fnew_spec hro (by omega) hw).use ?_
    clear hw
    rintro _ w ⟨r,rfl,hw⟩
    refine ⟨_,rfl,?_⟩
    have hw:Sat R6 (RdAt r ⟨bodies[j],false⟩::pts p (wCells d lim gj.base s sg2 brk)::EntO s ds'::pts b (sCells ⟨n,nxt rd prev n,(rd n).length⟩)::SegO sg2 sgs2::DiskAt d st::Hs) w:=hw.arr
    refine (changeE_spec (rd:=⟨bodies[j],false⟩) hgjb.1 hgjb.2 hd40 hd6 hbb.2 (by show bodies[j].length≤_;omega) hw).use ?_
    clear hw
    rintro _ w ⟨R7,base7,s7,ds7,e7,hd7,rfl,hg7,hw⟩
    have hcg:changeR1 ⟨gj.base,erE ds'⟩ ⟨bodies[j],false⟩=changeL gj bodies[j]:=by rw [←hgj];rfl
    rw [hcg,←hgj] at hg7
    rw [hcg]
    refine ⟨_,rfl,?_⟩
    have hrj:runL gj dn (bodies.drop j)=match changeL gj bodies[j] with|none=>(gj,some dn)|some g'=>runL g' (dn + (8 + bodies[j].length)) (bodies.drop (j + 1)):=by rw [hdj];rfl
    cases hch:changeL gj bodies[j] with
    |none=>
      rw [hch] at hg7 hrj
      simp only [Option.getD_none] at hg7
      refine Br.t rfl ?_
      have hw:Sat R7 (pts b (sCells ⟨n,nxt rd prev n,(rd n).length⟩)::WS p d lim base7 s7 sg2 brk ds7 sgs2 st Hs) w:=by
        have:erE ds'=erE ds7:=by rw [hgj] at hg7;exact (Lg.mk.inj hg7).2
        exact hw.arr
      refine store_rule hw (by kernel_rfl) rfl (by simp [Value.cells,putL_len]) fun w hw=>?_
      have hw:Sat R7 (pts b (sCells ⟨n,nxt rd prev n,dn⟩)::WS p d lim base7 s7 sg2 brk ds7 sgs2 st Hs) w:=hw
      have hbase7:base7=gj.base:=by rw [hgj] at hg7;exact (Lg.mk.inj hg7).1.symm
      have hlen7:ds7.length=ds'.length:=by
        have:erE ds'=erE ds7:=by rw [hgj] at hg7;exact (Lg.mk.inj hg7).2
        have:=congrArg List.length this;simpa using this.symm
      refine drw_rule hw fun w hw=>?_
      refine fin (e6.trans e7) hd7 ?_ (by omega) (by omega) (by omega) (by rw [hsgs2];simp;omega) hw
      rw [hL,loadL_fail h1 hg1.symm (g2:=⟨base7,erE ds7⟩) (d:=dn) (by rw [htail,←hbod,hrun,hrj,hg7]),hsgs2]
    |some g'=>
      rw [hch] at hg7 hrj
      simp only [Option.getD_some] at hg7
      refine Br.f rfl ?_
      refine (rput_spec hbb.2 (e7.ro hro) hw).use ?_
      rintro _ w (⟨h,_⟩|⟨_,t2,rfl,hw⟩)
      · omega
      have ht2:t2.len=8 + bodies[j].length:=by have:=Own.len hw;rw [List.length_map,recB_len] at this;exact this
      have hw:=hw.drop
      have hch2:=hch
      have wj:IntKind.i64.wrap ((j:Int) + 1)=((j + 1:Nat):Int):=by rw [wrap64 (by omega) (by omega)];omega
      have wd:IntKind.i64.wrap (dn + (t2.len:Int))=dn + (8 + bodies[j].length):=by rw [wrap64 (by omega) (by omega),ht2];omega
      have hlen7:ds7.length≤ds'.length + 1∧0≤base7∧base7≤1099511627776:=by
        have hb:=change_bd hch (by rw [hgj];exact ⟨hgjb.1,hgjb.2⟩) hbb.2
        rw [hg7] at hb
        rw [hgj] at hb
        simp only [List.length_map] at hb
        exact ⟨hb.2.2,hb.1,hb.2.1⟩
      refine ⟨t2,_,rfl,⟨j + 1,g',R7,s7,ds7,wj,by omega,e6.trans e7,hd7,?_,?_,by omega,by rw [wd];omega,?_,?_⟩,by rw [wj];omega⟩
      · rw [hg7]
      · rw [hg7];exact hlen7.2
      · rw [hrun,hrj,wd]
      · rw [hg7];exact hw.arr
  · have hjl:j=bodies.length:=by omega
    rw [hjl,List.drop_length] at hrun
    have hrun2:runL g1 (headB n (nxt rd prev n)).length (scan (rd n)).tail=(gj,none):=by rw [htail,←hbod,hrun];rfl
    refine Br.e (fun h3=>?_) (fun h3=>?_)
    · have h3':scanLen (scan (rd n))=(rd n).length:=by omega
      refine ⟨⟨k + 1,gj,sgs2,R6,s,ds',sg2,rfl,by omega,(e3.trans e35).trans e6,hd6,hgj,hgjb,by omega,fun h=>by omega,by rw [hsgs2];simp;omega,?_,hw.drop⟩,by dsimp only;omega⟩
      rw [hL,loadL_more h1 hg1.symm hrun2 h3',←hsgs2,if_neg (by omega),Nat.add_sub_cancel,List.getElem?_eq_getElem hk',←hn]
    · refine store_rule hw (by kernel_rfl) rfl (by simp [Value.cells,putL_len]) fun w hw=>?_
      have hw:Sat R6 (pts b (sCells ⟨n,nxt rd prev n,scanLen (scan (rd n))⟩)::WS p d lim gj.base s sg2 brk ds' sgs2 st Hs) w:=hw
      refine drw_rule hw fun w hw=>?_
      refine fin e6 hd6 ?_ hgjb.1 hgjb.2 hd40 (by rw [hsgs2];simp;omega) hw
      rw [hL,loadL_end h1 hg1.symm hrun2 (by omega),hsgs2,←hgj]
end Go.Proofs.YtkfedbncmfnpnaaGreatDoor
/- A log on a disk: steps, making a segment, taking a file away. Condition: bounds on lengths; the library's table of powers is laid. -/
namespace Go.Proofs.YtkfedbncmfnpnaaGreatDoor
set_option linter.unusedVariables false
set_option linter.unusedSimpArgs false
open Go Go.VC
variable {R R':Cx} {Hs Rest:List HP} {w:World}
theorem _root_.Go.VC.Ro.ixV {s:Sl} {xs:List Value} {S:World→Prop} {i:Int} (hr:Ro R s xs) (hS:∀ w,S w→Sat R Hs w) (j:Nat) (hi:i=j) (hj:j<xs.length) {F:Value→Prop} (h:F xs[j]):
  Rng i s.len (NilP s.a fun a=>∃ t:Value,(At S (a.add i.toNat) [t])∧F t):=by
 subst hi
 have hl:=hr.len
 obtain ⟨b,off,l,T,fr,ha,hb,hel⟩:=hr.mem (by intro h0;rw [h0] at hj;simp at hj)
 refine Rng.mk (by omega) (by omega) (NilP.mk ha ⟨xs[j],fun w hw i v hv=>?_,h⟩)
 have hi:i=0:=by
  cases i with
  |zero=>rfl
  |succ i=>simp at hv
 subst hi
 simp only [List.getElem?_cons_zero,Option.some.injEq] at hv
 subst hv
 rw [Int.toNat_natCast,add_off,add_off]
 have:=(hS w hw).of_ro hb
 simp only [World.cell?,this,Option.isSome_none,Bool.false_eq_true,if_false]
 exact hel j _ (by simp [hj])
def StepsQ (R:Cx):List Value→(Int→World→Prop)→World→Prop
 |[],Q,w=>Q 0 w
 |f::fs,Q,w=>CalW Tryz.prog cl f [] w fun e w'=>∃ n:Int,e=.returned (.int .i64 n)∧((n≠0∧Q n w')∨(n=0∧(∃ Hs,Sat R Hs w')∧StepsQ R fs Q w'))
theorem all_spec {s:Sl} {fs:List Value} {Q:Int→World→Prop} (hs:Ro R s fs) (hl:fs.length≤1000000) (hw:Sat R Hs w) (h:StepsQ R fs Q w):
  Gets Tryz.prog 90 #[.slice s.a s.len s.cap] w fun v w'=>∃ n:Int,v=.int .i64 n∧Q n w':=by
 have hsl:=hs.len
 apply call90
 refine ⟨fun i w=>∃ k:Nat,i=k∧k≤fs.length∧(∃ Hs,Sat R Hs w)∧StepsQ R (fs.drop k) Q w,fun i _=>fs.length - i.toNat,⟨0,rfl,by omega,⟨_,hw⟩,h⟩,?_⟩
 clear hw h
 rintro _ _ w ⟨k,rfl,hk,⟨Hs,hw⟩,h⟩
 refine Br.d (fun h1=>?_) (fun h1=>?_)
 ·have hk':k<fs.length:=by omega
  rw [drop_get hk'] at h
  refine hs.ixV (eqS hw) k rfl hk' ?_
  refine CalW.mono h ?_
  rintro e w' ⟨n,rfl,h2⟩
  refine ⟨n,rfl,?_⟩
  rcases h2 with ⟨hn,h2⟩|⟨hn,h2,h3⟩
  ·exact Br.t (by simp [hn]) ⟨n,rfl,h2⟩
  ·refine Br.f (by simp [hn]) ⟨⟨k + 1,by rw [wrap64 (by omega) (by omega)];omega,by omega,h2,h3⟩,by dsimp only;rw [wrap64 (by omega) (by omega)];omega⟩
 ·have:k=fs.length:=by omega
  rw [this,List.drop_length] at h
  exact ⟨0,rfl,h⟩
def BoxV (R:Cx) (b:Nat) (v:Value):Prop:=∃ T fr,R.m b=some (.cells [v].toArray T fr)
abbrev BoxP (R:Cx) (b p:Nat):Prop:=BoxV R b (.pointer (some ⟨p,0,none⟩))
theorem BoxV.ext {b:Nat} {v:Value} (h:BoxV R b v) (e:R.Ext R'):BoxV R' b v:=let ⟨T,fr,h⟩:=h;⟨T,fr,e.m _ _ h⟩
theorem BoxV.at {b:Nat} {v:Value} {S:World→Prop} (h:BoxV R b v) (hS:∀ w,S w→Sat R Hs w):At S ⟨b,0,none⟩ [v]:=let ⟨_,_,h⟩:=h;At.ro hS h ⟨rfl,trivial⟩
theorem box_leak {b:Nat} {v:Value} {T:TypeId} {fr:Nat × Nat} (h:Sat R (pts b (.cells #[v] T fr)::Hs) w):∃ R',R.Ext R'∧BoxV R' b v∧Sat R' Hs w:=
 let ⟨R',e,hb,hw⟩:=pts.leak h;⟨R',e,⟨T,fr,hb⟩,hw⟩
theorem box_leak2 {b:Nat} {v:Value} {T:TypeId} {fr:Nat × Nat} {l:List Value} (hl:l=[v]) (h:Sat R (pts b (.cells l.toArray T fr)::Hs) w):∃ R',R.Ext R'∧BoxV R' b v∧Sat R' Hs w:=by subst hl;exact box_leak h
theorem unlinkF_spec (p:Nat) (name:ByteArray) (hw:Sat R Hs w):Gets Tryz.prog 56 #[.pointer (some ⟨p,0,none⟩),.string name] w fun v w'=>∃ (R':Cx) (bw bn:Nat),R.Ext R'∧v=.func (.func 103) #[] #[.pointer (some ⟨bw,0,none⟩),.pointer (some ⟨bn,0,none⟩)]∧BoxP R' bw p∧BoxV R' bn (.string name)∧Sat R' Hs w':=by
 apply call56
 refine new_rule hw fun bw w hw=>?_
 obtain ⟨R1,e1,b1,hw⟩:=box_leak hw
 refine new_rule hw fun bn w hw=>?_
 obtain ⟨R2,e2,b2,hw⟩:=box_leak hw
 exact ⟨R2,bw,bn,e1.trans e2,rfl,b1.ext e2,b2,hw⟩
variable {p d:Nat} {lim base:Int} {s sg:Sl} {brk:Bool} {ds:List DE4} {segs:List Sg} {st:DS}
theorem unlinkC_spec {bw bn:Nat} {name:ByteArray} (i:Inv st) (h1:BoxP R bw p) (h2:BoxV R bn (.string name)) (hw:Sat R (WS p d lim base s sg brk ds segs st Hs) w):
  Gets Tryz.prog 103 #[.pointer (some ⟨bw,0,none⟩),.pointer (some ⟨bn,0,none⟩)] w fun v w'=>v=.int .i64 (unlinkD st name).2∧Sat R (WS p d lim base s sg brk ds segs (unlinkD st name).1 Hs) w':=by
 apply call103
 refine drw_rule' (Sat R [pts p (wCells d lim base s sg brk),VC.tru]) hw (fun w hw=>hw.k1) fun w hw=>?_
 refine NilP.mk rfl ⟨_,h1.at selfS,NilP.mk rfl ⟨_,(by rw [add_off];exact At.own selfS (by exact ⟨rfl,trivial⟩)),NilP.mk rfl ⟨_,h2.at selfS,?_⟩⟩⟩
 have hw:Sat R (DiskAt d st::pts p (wCells d lim base s sg brk)::EntO s ds::SegO sg segs::Hs) w:=hw.arr
 refine (unlink_spec i hw).use ?_
 clear hw
 rintro _ w ⟨rfl,hw⟩
 exact ⟨_,rfl,hw.k1,rfl,hw.arr⟩
theorem make1_spec {bw bs bb:Nat} {g:Sg} {x:Sl} {xs:List Int} (i:Inv st) (hp:PowR R) (hn:g.num<100000000) (hxl:xs.length≤100000) (h1:BoxP R bw p) (h2:R.m bs=some (sCells g)) (h3:BoxV R bb (.slice x.a x.len x.cap)) (hx:Ro R x (b8 xs)) (hw:Sat R (WS p d lim base s sg brk ds segs st Hs) w):
  Gets Tryz.prog 131 #[.pointer (some ⟨bw,0,none⟩),.pointer (some ⟨bs,0,none⟩),.pointer (some ⟨bb,0,none⟩)] w fun v w'=>v=.int .i64 (appendD st (segName g.num) xs).2∧Sat R (WS p d lim base s sg brk ds segs (appendD st (segName g.num) xs).1 Hs) w':=by
 apply call131
 refine drw_rule' (Sat R [pts p (wCells d lim base s sg brk),VC.tru]) hw (fun w hw=>hw.k1) fun w hw=>?_
 refine NilP.mk rfl ⟨_,h1.at selfS,NilP.mk rfl ⟨_,(by rw [add_off];exact At.own selfS (by exact ⟨rfl,trivial⟩)),NilP.mk rfl ⟨_,_,_,At.ro selfS h2 (by exact ⟨rfl,rfl,rfl,trivial⟩),NilP.mk rfl ⟨x,h3.at selfS,?_⟩⟩⟩⟩
 refine (name_spec hp hn hw).use ?_
 clear hw
 rintro _ w ⟨rfl,hw⟩
 refine ⟨_,rfl,hw.k1,?_⟩
 have hw:Sat R (DiskAt d st::pts p (wCells d lim base s sg brk)::EntO s ds::SegO sg segs::Hs) w:=hw.arr
 refine (append_spec i hx (by omega) hw).use ?_
 clear hw
 rintro _ w ⟨rfl,hw⟩
 exact ⟨_,rfl,hw.k1,rfl,hw.arr⟩
theorem make2_spec {bw bs:Nat} {g:Sg} (i:Inv st) (hp:PowR R) (hn:g.num<100000000) (h1:BoxP R bw p) (h2:R.m bs=some (sCells g)) (hw:Sat R (WS p d lim base s sg brk ds segs st Hs) w):
  Gets Tryz.prog 132 #[.pointer (some ⟨bw,0,none⟩),.pointer (some ⟨bs,0,none⟩)] w fun v w'=>v=.int .i64 (syncD st (segName g.num)).2∧Sat R (WS p d lim base s sg brk ds segs (syncD st (segName g.num)).1 Hs) w':=by
 apply call132
 refine drw_rule' (Sat R [pts p (wCells d lim base s sg brk),VC.tru]) hw (fun w hw=>hw.k1) fun w hw=>?_
 refine NilP.mk rfl ⟨_,h1.at selfS,NilP.mk rfl ⟨_,(by rw [add_off];exact At.own selfS (by exact ⟨rfl,trivial⟩)),NilP.mk rfl ⟨_,_,_,At.ro selfS h2 (by exact ⟨rfl,rfl,rfl,trivial⟩),?_⟩⟩⟩
 refine (name_spec hp hn hw).use ?_
 clear hw
 rintro _ w ⟨rfl,hw⟩
 refine ⟨_,rfl,hw.k1,?_⟩
 have hw:Sat R (DiskAt d st::pts p (wCells d lim base s sg brk)::EntO s ds::SegO sg segs::Hs) w:=hw.arr
 refine (sync_spec i hw).use ?_
 clear hw
 rintro _ w ⟨rfl,hw⟩
 exact ⟨_,rfl,hw.k1,rfl,hw.arr⟩
theorem make3_spec {bw bs:Nat} {g:Sg} (hl:segs.length≤1000000) (h1:BoxP R bw p) (h2:R.m bs=some (sCells g)) (hw:Sat R (WS p d lim base s sg brk ds segs st Hs) w):
  Gets Tryz.prog 133 #[.pointer (some ⟨bw,0,none⟩),.pointer (some ⟨bs,0,none⟩)] w fun v w'=>∃ sg':Sl,v=.int .i64 0∧Sat R (WS p d lim base s sg' brk ds (segs++[g]) st Hs) w':=by
 apply call133
 refine drw_rule' (Sat R [pts p (wCells d lim base s sg brk),VC.tru]) hw (fun w hw=>hw.k1) fun w hw=>?_
 refine NilP.mk rfl ⟨_,h1.at selfS,NilP.mk rfl ⟨_,h1.at selfS,NilP.mk rfl ⟨sg,At.own selfS (by exact ⟨rfl,trivial⟩),NilP.mk rfl ⟨_,_,_,At.ro selfS h2 (by exact ⟨rfl,rfl,rfl,trivial⟩),new_rule hw fun b w hw=>⟨hw.k1,?_⟩⟩⟩⟩⟩
 have hw:Sat R (SegO sg segs::pts b (.cells (sRow g).toArray 96 (0,0))::pts p (wCells d lim base s sg brk)::EntO s ds::DiskAt d st::Hs) w:=hw.arr
 refine pushN_in elG hw rfl rfl (by rw [List.length_map];omega) (by rw [List.length_map];omega) fun sg2 w hw=>?_
 have hw:Sat R (pts p (wCells d lim base s sg brk)::EntO s ds::SegO sg2 (segs++[g])::DiskAt d st::Hs) w:=by
  unfold SegO;rw [List.map_append];simp only [List.map_cons,List.map_nil];exact hw.arr
 refine ⟨hw.k1,NilP.mk rfl ?_⟩
 refine store_rule hw (by kernel_rfl) rfl (by simp [Value.cells,putL_len]) fun w hw=>?_
 exact ⟨sg2,rfl,hw⟩
def DoneQ (R:Cx) (Hs:List HP) (p d:Nat) (lim base:Int) (s:Sl) (brk:Bool) (ds:List DE4) (segs:Int→List Sg) (x:DS × Int) (n:Int) (w:World):Prop:=∃ (R':Cx) (sg:Sl),R.Ext R'∧n=x.2∧Sat R' (WS p d lim base s sg brk ds (segs n) x.1 Hs) w
def madeS (segs:List Sg) (n:Nat) (next:Int) (e:Int):List Sg:=if e=0 then segs++[⟨n,next,(headB n next).length⟩] else segs
theorem make_spec {n:Nat} {next:Int} (i:Inv st) (hp:PowR R) (hn:n≤99999999) (h0:0≤next) (h1:next≤1099511627777) (hl:segs.length≤1000000) (hw:Sat R (WS p d lim base s sg brk ds segs st Hs) w):
  Gets Tryz.prog 89 #[.pointer (some ⟨p,0,none⟩),.int .i64 n,.int .i64 next] w fun v w'=>∃ e,v=.int .i64 e∧DoneQ R Hs p d lim base s brk ds (madeS segs n next) (makeD st n next) e w':=by
 apply call89
 refine new_rule hw fun bw w hw=>?_
 obtain ⟨R1,e1,b1,hw⟩:=box_leak hw
 refine new_rule hw fun b3 w hw=>?_
 obtain ⟨hc3,hw⟩:=Sat.lend.1 hw
 refine (encoded_spec (t:=none) (sd:=⟨none,0,0⟩) (xs:=[0,n,next]) (sl:=⟨some ⟨b3,0,none⟩,3,3⟩) (fun x hx=>by simp at hx;omega) (by simp) (fun d h=>by cases h) (ro_new (by simp) rfl hc3) hw).use ?_
 clear hw
 rintro _ w ⟨t,rfl,hw⟩
 rw [encB_hd] at hw
 have htl:t.len=(headB n next).length:=by have:=Own.len hw;simpa using this
 have hhl:(headB n next).length≤1000:=by have:=hdB_len (n:=n) (next:=next) hn h1;unfold headB;rw [recB_len];omega
 have hw:Sat R1 (Own t 5 (b8 (headB n next))::WS p d lim base s sg brk ds segs st Hs) w:=((Sat.lend.2 ⟨hc3,hw⟩:Sat R1 (pts b3 _::Own t 5 (b8 (headB n next))::WS p d lim base s sg brk ds segs st Hs) w)).drop
 obtain ⟨R2,e2,ht,hw⟩:=Own.leak hw
 refine ⟨t,rfl,new_rule hw fun bb w hw=>?_⟩
 refine store_rule hw (by kernel_rfl) rfl (by simp [Value.cells,putL_len]) fun w hw=>?_
 refine ⟨t,At.own (eqS hw) (by exact ⟨rfl,trivial⟩),?_⟩
 obtain ⟨R3,e3,b3',hw⟩:=box_leak2 (v:=.slice t.a t.len t.cap) rfl hw
 refine new_rule hw fun bs w hw=>?_
 refine store_rule hw (by kernel_rfl) rfl (by simp [Value.cells,putL_len]) fun w hw=>?_
 rw [htl] at hw
 have hw:Sat R3 (pts bs (sCells ⟨n,next,(headB n next).length⟩)::WS p d lim base s sg brk ds segs st Hs) w:=hw
 obtain ⟨R4,e4,b4,hw⟩:=pts.leak hw
 refine new_rule hw fun bt w hw=>?_
 obtain ⟨R5,e5,b5,hw⟩:=pts.leak hw
 have e25:=(e3.trans e4).trans e5
 have e15:=e2.trans e25
 have hp5:=hp.ext (e1.trans e15)
 have hx:=(e25.slR ht).ro (by rw [List.length_map];omega)
 have hro:Ro R5 ⟨some ⟨bt,0,none⟩,3,3⟩ [.func (.func 131) #[] #[.pointer (some ⟨bw,0,none⟩),.pointer (some ⟨bs,0,none⟩),.pointer (some ⟨bb,0,none⟩)],.func (.func 132) #[] #[.pointer (some ⟨bw,0,none⟩),.pointer (some ⟨bs,0,none⟩)],.func (.func 133) #[] #[.pointer (some ⟨bw,0,none⟩),.pointer (some ⟨bs,0,none⟩)]]:=
  ⟨rfl,by simp,fun _=>⟨bt,0,_,_,_,rfl,b5,fun i v h=>by simpa using h⟩⟩
 have hbw:=b1.ext e15
 have hbb:=b3'.ext (e4.trans e5)
 have hbs:=e5.m _ _ b4
 refine (all_spec (Q:=DoneQ R Hs p d lim base s brk ds (madeS segs n next) (makeD st n next)) hro (by simp) hw ?_).use ?_
 ·refine CalW.mk (by kernel_rfl) ((make1_spec (g:=⟨n,next,(headB n next).length⟩) (x:=t) (xs:=headB n next) i hp5 (by show n<_;omega) (by omega) hbw hbs hbb hx hw).use ?_)
  clear hw
  rintro _ w ⟨rfl,hw⟩
  refine ⟨_,rfl,?_⟩
  by_cases he:(appendD st (segName n) (headB n next)).2=0
  case neg=>
   refine .inl ⟨he,R5,sg,e1.trans e15,?_,?_⟩
   ·unfold makeD thenD;rw [if_neg he]
   ·unfold makeD thenD madeS;rw [if_neg he,if_neg he];exact hw
  refine .inr ⟨he,⟨_,hw⟩,?_⟩
  have i2:=appendD_inv i (segName n) (headB n next)
  refine CalW.mk (by kernel_rfl) ((make2_spec (g:=⟨n,next,(headB n next).length⟩) i2 hp5 (by show n<_;omega) hbw hbs hw).use ?_)
  clear hw
  rintro _ w ⟨rfl,hw⟩
  have em:makeD st n next=syncD (appendD st (segName n) (headB n next)).1 (segName n):=by unfold makeD thenD;rw [if_pos he]
  rw [←em] at hw ⊢
  refine ⟨_,rfl,?_⟩
  by_cases he2:(makeD st n next).2=0
  case neg=>
   refine .inl ⟨he2,R5,sg,e1.trans e15,rfl,?_⟩
   unfold madeS;rw [if_neg he2];exact hw
  refine .inr ⟨he2,⟨_,hw⟩,?_⟩
  refine CalW.mk (by kernel_rfl) ((make3_spec hl hbw hbs hw).use ?_)
  clear hw
  rintro _ w ⟨sg',rfl,hw⟩
  refine ⟨_,rfl,.inr ⟨rfl,⟨_,hw⟩,R5,sg',e1.trans e15,he2.symm,?_⟩⟩
  unfold madeS;rw [if_pos rfl];exact hw
 ·rintro _ w ⟨e,rfl,h⟩
  exact ⟨e,rfl,e,rfl,h⟩
end Go.Proofs.YtkfedbncmfnpnaaGreatDoor
/- A log on a disk: mending a segment. Condition: bounds on lengths; the library's table of powers is laid. -/
namespace Go.Proofs.YtkfedbncmfnpnaaGreatDoor
set_option linter.unusedVariables false
set_option linter.unusedSimpArgs false
open Go Go.VC
variable {R R':Cx} {Hs Rest:List HP} {w:World} {p d:Nat} {lim base:Int} {s sg:Sl} {brk:Bool} {ds:List DE4} {segs:List Sg} {st:DS}
theorem mendT_spec {bs:Nat} {g g':Sg} (h:R.m bs=some (sCells g)) (hw:Sat R Hs w):Gets Tryz.prog 126 #[.agg #[.int .i64 g'.num,.int .i64 g'.next,.int .i64 g'.size],.pointer (some ⟨bs,0,none⟩)] w fun v w'=>v=.bool (decide (g'.num=g.num))∧Sat R Hs w':=by
 apply call126
 refine new_rule hw fun b w hw=>?_
 refine ⟨_,At.own (eqS hw) (by exact ⟨rfl,trivial⟩),NilP.mk rfl ⟨_,(by rw [add_off];exact At.ro (eqS hw) h (by exact ⟨rfl,trivial⟩)),?_⟩⟩
 refine ⟨?_,hw.drop⟩
 congr 1
 rw [Bool.eq_iff_iff]
 simp only [beq_iff_eq,decide_eq_true_eq]
 show ((g'.num:Int)=(g.num:Int))↔_
 omega
theorem mendC_spec {bs:Nat} {g:Sg} (h:R.m bs=some (sCells g)) (hl:segs.length≤1000000) (hs:RoN 3 R sg (segs.map sRow)) (hw:Sat R Hs w):
  Gets Tryz.prog 125 #[.slice sg.a sg.len sg.cap,.func (.func 126) #[] #[.pointer (some ⟨bs,0,none⟩)]] w fun v w'=>v=.bool (inSegs segs g.num)∧Sat R Hs w':=by
 have hsl:sg.len=segs.length:=by have:=hs.len;simpa using this
 apply call125
 have h1:Gets Tryz.prog 171 #[.slice sg.a sg.len sg.cap,.func (.func 126) #[] #[.pointer (some ⟨bs,0,none⟩)]] w fun v w'=>(∃ n:Int,v=.int .i64 n∧(0≤n↔inSegs segs g.num=true))∧Sat R Hs w':=by
  apply call171
  refine ⟨fun i w=>∃ k:Nat,i=k∧k≤segs.length∧(∀ x∈segs.take k,x.num≠g.num)∧Sat R Hs w,fun i _=>segs.length - i.toNat,⟨0,rfl,by omega,by simp,hw⟩,?_⟩
  clear hw
  rintro _ _ w ⟨k,rfl,hk,hno,hw⟩
  refine Br.d (fun h2=>?_) (fun h2=>?_)
  ·have hk':k<segs.length:=by omega
   refine (hs.reads (S:=fun w'=>w'=w) (eqS hw)).rngM hk' fun a _ el=>⟨segs[k].num,segs[k].next,segs[k].size,el.z (by exact ⟨rfl,rfl,rfl,trivial⟩),?_⟩
   refine CalW.mk (by kernel_rfl) ((mendT_spec (g':=segs[k]) h hw).use ?_)
   clear hw
   rintro _ w ⟨rfl,hw⟩
   refine ⟨_,rfl,Br.d (fun h3=>?_) (fun h3=>?_)⟩
   ·refine ⟨⟨_,rfl,fun _=>?_,fun _=>by omega⟩,hw⟩
    unfold inSegs
    rw [List.any_eq_true]
    exact ⟨segs[k],List.getElem_mem _,by simp [h3]⟩
   ·refine ⟨⟨k + 1,by rw [wrap64 (by omega) (by omega)];omega,by omega,fun x hx=>?_,hw⟩,by dsimp only;rw [wrap64 (by omega) (by omega)];omega⟩
    rw [List.take_add_one,List.getElem?_eq_getElem hk'] at hx
    rcases List.mem_append.1 hx with hx|hx
    ·exact hno x hx
    ·simp at hx;rw [hx];exact h3
  ·have:k=segs.length:=by omega
   rw [this,List.take_length] at hno
   refine ⟨⟨_,rfl,fun h=>by omega,fun h=>?_⟩,hw⟩
   unfold inSegs at h
   rw [List.any_eq_true] at h
   obtain ⟨x,hx,he⟩:=h
   exact absurd (of_decide_eq_true he) (hno x hx)
 refine h1.use ?_
 rintro _ w ⟨⟨n,rfl,hn⟩,hw⟩
 refine ⟨n,rfl,?_,hw⟩
 congr 1
 rw [Bool.eq_iff_iff,decide_eq_true_eq,←hn]
theorem mendA_spec {bw bb bs:Nat} {g:Sg} {x:Sl} {xs:List Int} (i:Inv st) (h1:BoxP R bw p) (h2:BoxV R bb (.slice x.a x.len x.cap)) (h3:R.m bs=some (sCells g)) (hx:SlR R.m x (b8 xs)) (hxl:xs.length≤1099511627776) (h0:0≤g.size) (hz:g.size≤xs.length) (hw:Sat R (WS p d lim base s sg brk ds segs st Hs) w):
  Gets Tryz.prog 127 #[.pointer (some ⟨bw,0,none⟩),.pointer (some ⟨bb,0,none⟩),.pointer (some ⟨bs,0,none⟩)] w fun v w'=>v=.int .i64 (appendD st scratchN (xs.take g.size.toNat)).2∧Sat R (WS p d lim base s sg brk ds segs (appendD st scratchN (xs.take g.size.toNat)).1 Hs) w':=by
 have hxl2:x.len=xs.length:=by have:=hx.len;simpa using this
 have hcap:=hx.cap
 apply call127
 refine drw_rule' (Sat R [pts p (wCells d lim base s sg brk),VC.tru]) hw (fun w hw=>hw.k1) fun w hw=>?_
 refine NilP.mk rfl ⟨_,h1.at selfS,NilP.mk rfl ⟨_,(by rw [add_off];exact At.own selfS (by exact ⟨rfl,trivial⟩)),NilP.mk rfl ⟨x,h2.at selfS,NilP.mk rfl ⟨g.size,At.ro selfS h3 (by exact ⟨rfl,trivial⟩),h0,by omega,?_⟩⟩⟩⟩
 have hw:Sat R (DiskAt d st::pts p (wCells d lim base s sg brk)::EntO s ds::SegO sg segs::Hs) w:=hw.arr
 have hx2:=(hx.b8take (k:=g.size.toNat) (by omega)).ro (by rw [List.length_map,List.length_take];omega)
 refine (append_spec (k:=scratchN) (x:=⟨x.a,g.size.toNat,x.cap⟩) i hx2 (by rw [List.length_take];omega) hw).use ?_
 clear hw
 rintro _ w ⟨rfl,hw⟩
 exact ⟨_,rfl,hw.k1,rfl,hw.arr⟩
theorem mendS_spec {bw:Nat} (i:Inv st) (h1:BoxP R bw p) (hw:Sat R (WS p d lim base s sg brk ds segs st Hs) w):
  Gets Tryz.prog 128 #[.pointer (some ⟨bw,0,none⟩)] w fun v w'=>v=.int .i64 (syncD st scratchN).2∧Sat R (WS p d lim base s sg brk ds segs (syncD st scratchN).1 Hs) w':=by
 apply call128
 refine NilP.mk rfl ⟨_,h1.at (eqS hw),NilP.mk rfl ⟨_,(by rw [add_off];exact At.own (eqS hw) (by exact ⟨rfl,trivial⟩)),?_⟩⟩
 have hw:Sat R (DiskAt d st::pts p (wCells d lim base s sg brk)::EntO s ds::SegO sg segs::Hs) w:=hw.arr
 refine (sync_spec (k:=scratchN) i hw).use ?_
 clear hw
 rintro _ w ⟨rfl,hw⟩
 exact ⟨_,rfl,rfl,hw.arr⟩
theorem mendR_spec {bw bs:Nat} {g:Sg} (i:Inv st) (hp:PowR R) (hn:g.num<100000000) (h1:BoxP R bw p) (h3:R.m bs=some (sCells g)) (hw:Sat R (WS p d lim base s sg brk ds segs st Hs) w):
  Gets Tryz.prog 129 #[.pointer (some ⟨bw,0,none⟩),.pointer (some ⟨bs,0,none⟩)] w fun v w'=>v=.int .i64 (renameD st scratchN (segName g.num)).2∧Sat R (WS p d lim base s sg brk ds segs (renameD st scratchN (segName g.num)).1 Hs) w':=by
 apply call129
 refine drw_rule' (Sat R [pts p (wCells d lim base s sg brk),VC.tru]) hw (fun w hw=>hw.k1) fun w hw=>?_
 refine NilP.mk rfl ⟨_,h1.at selfS,NilP.mk rfl ⟨_,(by rw [add_off];exact At.own selfS (by exact ⟨rfl,trivial⟩)),NilP.mk rfl ⟨_,_,_,At.ro selfS h3 (by exact ⟨rfl,rfl,rfl,trivial⟩),?_⟩⟩⟩
 refine (name_spec hp hn hw).use ?_
 clear hw
 rintro _ w ⟨rfl,hw⟩
 refine ⟨_,rfl,hw.k1,?_⟩
 have hw:Sat R (DiskAt d st::pts p (wCells d lim base s sg brk)::EntO s ds::SegO sg segs::Hs) w:=hw.arr
 refine (rename_spec (k:=scratchN) i hw).use ?_
 clear hw
 rintro _ w ⟨rfl,hw⟩
 exact ⟨_,rfl,hw.k1,rfl,hw.arr⟩
def mendSegsE (st:DS) (segs:List Sg) (g:Sg):List Sg:=if g.next=0∨inSegs segs g.num=false then segs else if (readD st (segName g.num)).2≠0 then segs else setSize segs g.size
theorem mend_spec {g:Sg} (i:Inv st) (hp:PowR R) (hn:g.num<100000000) (hl:segs.length≤1000000) (h0:0≤g.size) (hz:(readD st (segName g.num)).2=0→g.size≤(readD st (segName g.num)).1.length) (hw:Sat R (WS p d lim base s sg brk ds segs st Hs) w):
  Gets Tryz.prog 87 #[.pointer (some ⟨p,0,none⟩),.agg #[.int .i64 g.num,.int .i64 g.next,.int .i64 g.size]] w fun v w'=>∃ e,v=.int .i64 e∧DoneQ R Hs p d lim base s brk ds (fun _=>mendSegsE st segs g) (mendD st segs g) e w':=by
 apply call87
 suffices H:∀ K:Value→World→Prop,(∀ e w',DoneQ R Hs p d lim base s brk ds (fun _=>mendSegsE st segs g) (mendD st segs g) e w'→K (.int .i64 e) w')→B87 (some ⟨p,0,none⟩) g.num g.next g.size K w from H _ fun e _ h=>⟨e,rfl,h⟩
 intro K hK
 refine new_rule hw fun bw w hw=>?_
 obtain ⟨R1,e1,b1,hw⟩:=box_leak hw
 refine new_rule hw fun bs w hw=>?_
 have hw:Sat R1 (pts bs (sCells g)::WS p d lim base s sg brk ds segs st Hs) w:=hw
 obtain ⟨R2,e2,b2,hw⟩:=pts.leak hw
 have e12:=e1.trans e2
 have b1:=b1.ext e2
 have hp2:=hp.ext e12
 have gone:(g.next=0∨inSegs segs g.num=false)→∀ {w},Sat R2 (WS p d lim base s sg brk ds segs st Hs) w→Drw w fun S w_3=>
   ∃ t19:Option Addr,(At S ⟨bw,0,none⟩ [.pointer t19])∧
   NilP t19 fun a_t20=>
   ∃ t22:Option Addr,(At S (Addr.add a_t20 0) [.pointer t22])∧
   ∃ t23:Int,∃ t23_1:Int,∃ t23_2:Int,(At S ⟨bs,0,none⟩ [.int .i64 t23,.int .i64 t23_1,.int .i64 t23_2])∧
   Calls Tryz.prog 57 #[.agg #[.int .i64 t23,.int .i64 t23_1,.int .i64 t23_2]] w_3 fun e w_4=>
   ∃ t24:ByteArray,(e=.returned (.string t24))∧
   (S w_4)∧
   Calls Tryz.prog 104 #[.pointer t22,.string t24] w_4 fun e_1 w_5=>
   ∃ t25:Int,(e_1=.returned (.int .i64 t25))∧
   (S w_5)∧
   K (.int .i64 t25) w_5:=fun hc {w} hw=>by
  refine drw_rule' (Sat R2 [pts p (wCells d lim base s sg brk),VC.tru]) hw (fun w hw=>hw.k1) fun w hw=>?_
  refine ⟨_,b1.at selfS,NilP.mk rfl ⟨_,(by rw [add_off];exact At.own selfS (by exact ⟨rfl,trivial⟩)),_,_,_,At.ro selfS b2 (by exact ⟨rfl,rfl,rfl,trivial⟩),?_⟩⟩
  refine (name_spec hp2 hn hw).use ?_
  clear hw
  rintro _ w ⟨rfl,hw⟩
  refine ⟨_,rfl,hw.k1,?_⟩
  have hw:Sat R2 (DiskAt d st::pts p (wCells d lim base s sg brk)::EntO s ds::SegO sg segs::Hs) w:=hw.arr
  refine (unlink_spec i hw).use ?_
  clear hw
  rintro _ w ⟨rfl,hw⟩
  have em:mendD st segs g=unlinkD st (segName g.num):=by unfold mendD;rw [if_pos hc]
  refine ⟨_,rfl,hw.k1,hK _ _ ⟨R2,sg,e12,by rw [em],?_⟩⟩
  have es:mendSegsE st segs g=segs:=by unfold mendSegsE;rw [if_pos hc]
  rw [em,es]
  exact hw.arr
 refine ⟨fun w=>¬ (g.next=0∨inSegs segs g.num=false)∧Sat R2 (WS p d lim base s sg brk ds segs st Hs) w,?_,?_⟩
 ·refine ⟨g.next,At.ro (eqS hw) b2 (by exact ⟨rfl,trivial⟩),Br.e (fun h=>gone (.inl h) hw) (fun h=>?_)⟩
  refine ⟨_,b1.at (eqS hw),NilP.mk rfl ⟨sg,At.own (eqS hw) (by exact ⟨rfl,trivial⟩),?_⟩⟩
  have hw:Sat R2 (SegO sg segs::pts p (wCells d lim base s sg brk)::EntO s ds::DiskAt d st::Hs) w:=hw.arr
  obtain ⟨R3,hr,⟨x,hx⟩,hw,back⟩:=OwnN.lend hw
  have b23:R3.m bs=some (sCells g):=by rw [hx];exact Cx.kept b2
  refine (mendC_spec b23 hl hr hw).use ?_
  clear hw
  rintro _ w ⟨rfl,hw⟩
  have hw:Sat R2 (SegO sg segs::pts p (wCells d lim base s sg brk)::EntO s ds::DiskAt d st::Hs) w:=back hw
  have hw:Sat R2 (WS p d lim base s sg brk ds segs st Hs) w:=hw.arr
  refine ⟨_,rfl,Br.nb (fun h2=>gone (.inr h2) hw) (fun h2=>⟨fun h3=>h3.elim h (fun h3=>by rw [h2] at h3;cases h3),hw⟩)⟩
 clear hw
 rintro _ w ⟨hc,hw⟩
 obtain ⟨xs,hxs⟩:∃ xs,xs=(readD st (segName g.num)).1:=⟨_,rfl⟩
 obtain ⟨er,her⟩:∃ er,er=(readD st (segName g.num)).2:=⟨_,rfl⟩
 rw [←hxs,←her] at hz
 have hxl:xs.length≤16777216:=by
  rw [hxs]
  unfold readD
  split
  ·simp
  ·split
   ·simp
   ·split
    ·simp
    ·rename_i f hf
     have:=total_le hf;have:=i.full;have:=i.r1
     simp only;omega
 refine ⟨fun b5 e6 w=>e6=er∧∃ (R3:Cx) (bb:Nat) (x:Sl),R2.Ext R3∧b5=some ⟨bb,0,none⟩∧BoxV R3 bb (.slice x.a x.len x.cap)∧SlR R3.m x (b8 xs)∧Sat R3 (WS p d lim base s sg brk ds segs st Hs) w,?_,?_⟩
 ·have key:∀ {R3:Cx} {bb:Nat} {t:Sl} {As:List HP} {w:World},R2.Ext R3→SlR R3.m t (b8 xs)→Sat R3 (pts bb (.cells [.slice t.a t.len t.cap].toArray 53 (0,0))::WS p d lim base s sg brk ds segs st Hs) w→
    ∃ (R3:Cx) (bb':Nat) (x:Sl),R2.Ext R3∧(some ⟨bb,0,none⟩:Option Addr)=some ⟨bb',0,none⟩∧BoxV R3 bb' (.slice x.a x.len x.cap)∧SlR R3.m x (b8 xs)∧Sat R3 (WS p d lim base s sg brk ds segs st Hs) w:=fun {R3 bb t As w} e ht hw=>by
   obtain ⟨R4,e4,b4,hw⟩:=box_leak2 (v:=.slice t.a t.len t.cap) rfl hw
   exact ⟨R4,bb,t,e.trans e4,rfl,b4,e4.slR ht,hw⟩
  refine drw_rule' (Sat R2 [pts p (wCells d lim base s sg brk),VC.tru]) hw (fun w hw=>hw.k1) fun w hw=>?_
  refine ⟨_,b1.at selfS,NilP.mk rfl ⟨_,(by rw [add_off];exact At.own selfS (by exact ⟨rfl,trivial⟩)),_,_,_,At.ro selfS b2 (by exact ⟨rfl,rfl,rfl,trivial⟩),?_,?_⟩⟩
  ·refine (name_spec hp2 hn hw).use ?_
   clear hw
   rintro _ w ⟨rfl,hw⟩
   refine ⟨_,rfl,hw.k1,?_,?_⟩
   ·have hw:Sat R2 (DiskAt d st::pts p (wCells d lim base s sg brk)::EntO s ds::SegO sg segs::Hs) w:=hw.arr
    refine (read_spec i hw).use ?_
    clear hw
    rintro _ w ⟨t,rfl,hw⟩
    refine ⟨t,_,rfl,hw.k1,?_⟩
    rw [←hxs] at hw
    refine new_rule hw fun bb w hw=>⟨hw.k1,?_⟩
    refine store_rule hw (by kernel_rfl) rfl (by simp [Value.cells,putL_len]) fun w hw=>?_
    have hw:Sat R2 (pts bb (.cells [.slice t.a t.len t.cap].toArray 53 (0,0))::Own t 5 (b8 xs)::DiskAt d st::pts p (wCells d lim base s sg brk)::EntO s ds::SegO sg segs::Hs) w:=hw
    have hw:Sat R2 (Own t 5 (b8 xs)::pts bb (.cells [.slice t.a t.len t.cap].toArray 53 (0,0))::WS p d lim base s sg brk ds segs st Hs) w:=hw.arr
    obtain ⟨R3,e3,ht,hw⟩:=Own.leak hw
    exact ⟨her.symm,key (As:=[]) e3 ht hw⟩
   ·refine new_rule hw fun bb w hw=>⟨hw.k1,?_⟩
    have hw:Sat R2 (DiskAt d st::pts bb (.cells [.slice none 0 0].toArray 53 (0,0))::pts p (wCells d lim base s sg brk)::EntO s ds::SegO sg segs::Hs) w:=hw.arr
    refine (read_spec i hw).use ?_
    clear hw
    rintro _ w ⟨t,rfl,hw⟩
    refine ⟨t,_,rfl,hw.k1,?_⟩
    rw [←hxs] at hw
    refine store_rule hw (by kernel_rfl) rfl (by simp [Value.cells,putL_len]) fun w hw=>?_
    have hw:Sat R2 (pts bb (.cells [.slice t.a t.len t.cap].toArray 53 (0,0))::Own t 5 (b8 xs)::DiskAt d st::pts p (wCells d lim base s sg brk)::EntO s ds::SegO sg segs::Hs) w:=hw
    have hw:Sat R2 (Own t 5 (b8 xs)::pts bb (.cells [.slice t.a t.len t.cap].toArray 53 (0,0))::WS p d lim base s sg brk ds segs st Hs) w:=hw.arr
    obtain ⟨R3,e3,ht,hw⟩:=Own.leak hw
    exact ⟨her.symm,key (As:=[]) e3 ht hw⟩
  ·refine new_rule hw fun bb w hw=>⟨hw.k1,?_⟩
   refine (name_spec hp2 hn hw).use ?_
   clear hw
   rintro _ w ⟨rfl,hw⟩
   refine ⟨_,rfl,hw.k1,?_⟩
   have hw:Sat R2 (DiskAt d st::pts bb (.cells [.slice none 0 0].toArray 53 (0,0))::pts p (wCells d lim base s sg brk)::EntO s ds::SegO sg segs::Hs) w:=hw.arr
   refine (read_spec i hw).use ?_
   clear hw
   rintro _ w ⟨t,rfl,hw⟩
   refine ⟨t,_,rfl,hw.k1,?_⟩
   rw [←hxs] at hw
   refine store_rule hw (by kernel_rfl) rfl (by simp [Value.cells,putL_len]) fun w hw=>?_
   have hw:Sat R2 (pts bb (.cells [.slice t.a t.len t.cap].toArray 53 (0,0))::Own t 5 (b8 xs)::DiskAt d st::pts p (wCells d lim base s sg brk)::EntO s ds::SegO sg segs::Hs) w:=hw
   have hw:Sat R2 (Own t 5 (b8 xs)::pts bb (.cells [.slice t.a t.len t.cap].toArray 53 (0,0))::WS p d lim base s sg brk ds segs st Hs) w:=hw.arr
   obtain ⟨R3,e3,ht,hw⟩:=Own.leak hw
   exact ⟨her.symm,key (As:=[]) e3 ht hw⟩
 clear hw
 rintro _ _ e6 w ⟨he6,R3,bb,x,e3,rfl,b3,hx,hw⟩
 subst he6
 have b1:=b1.ext e3
 have b2:=e3.m _ _ b2
 have hp3:=hp2.ext e3
 have e13:=e12.trans e3
 refine Br.ne (fun h=>?_) (fun h=>?_)
 ·have em:mendD st segs g=(st,e6):=by unfold mendD;rw [if_neg hc,if_pos (by rw [←her];exact h),←her]
  have es:mendSegsE st segs g=segs:=by unfold mendSegsE;rw [if_neg hc,if_pos (by rw [←her];exact h)]
  refine hK _ _ ⟨R3,sg,e13,by rw [em],?_⟩
  rw [em,es]
  exact hw
 have hz:=hz h
 have hr0:¬ (readD st (segName g.num)).2≠0:=by rw [←her];exact fun h2=>h2 h
 have es:mendSegsE st segs g=setSize segs g.size:=by unfold mendSegsE;rw [if_neg hc,if_neg hr0]
 have em:mendD st segs g=thenD (thenD (appendD st scratchN (xs.take g.size.toNat)) fun st=>syncD st scratchN) fun st=>renameD st scratchN (segName g.num):=by unfold mendD;rw [if_neg hc,if_neg hr0,←hxs]
 have hpos:0<segs.length:=by
  rcases Nat.eq_zero_or_pos segs.length with h0|h0
  ·exfalso
   refine hc (.inr ?_)
   rw [List.length_eq_zero_iff.1 h0];rfl
  ·exact h0
 have hsl:sg.len=segs.length:=by
  have h2:Sat R3 (SegO sg segs::pts p (wCells d lim base s sg brk)::EntO s ds::DiskAt d st::Hs) w:=hw.arr
  have:=OwnN.len h2;simpa using this
 refine drw_rule' (Sat R3 [pts p (wCells d lim base s sg brk),VC.tru]) hw (fun w hw=>hw.k1) fun w hw=>?_
 refine ⟨_,b1.at selfS,NilP.mk rfl ⟨sg,At.own selfS (by exact ⟨rfl,trivial⟩),_,b1.at selfS,NilP.mk rfl ⟨sg,At.own selfS (by exact ⟨rfl,trivial⟩),g.size,At.ro selfS b2 (by exact ⟨rfl,trivial⟩),?_⟩⟩⟩
 have hk:segs.length - 1<segs.length:=by omega
 have wk:IntKind.i64.wrap ((sg.len:Int) - 1)=((segs.length - 1:Nat):Int):=by rw [wrap64 (by omega) (by omega)];omega
 rw [wk]
 have hrd:ReadsN 3 sg (segs.map sRow) (fun w'=>w'=w):=OwnN.readsM (n:=3) (s:=sg) (T:=96) (rows:=segs.map sRow) hw (eqS hw)
 refine hrd.rngM hk fun a ha _=>?_
 refine OwnN.storeM (n:=3) (s:=sg) (T:=96) (E:=segs) (g:=sRow) 2 ⟨segs[segs.length - 1].num,segs[segs.length - 1].next,g.size⟩ hw ha hk (by kernel_rfl) rfl (by simp [Value.cells]) rfl fun w hw=>?_
 have ess:setSize segs g.size=segs.set (segs.length - 1) ⟨segs[segs.length - 1].num,segs[segs.length - 1].next,g.size⟩:=by
  unfold setSize
  rw [List.getElem?_eq_getElem hk]
 rw [←ess,←es] at hw
 have hw:Sat R3 (WS p d lim base s sg brk ds (mendSegsE st segs g) st Hs) w:=hw.arr
 refine new_rule hw fun bt w hw=>?_
 obtain ⟨R4,e4,b4,hw⟩:=pts.leak hw
 have hp4:=hp3.ext e4
 have b1:=b1.ext e4
 have b2:=e4.m _ _ b2
 have b3:=b3.ext e4
 have hx:=e4.slR hx
 have e14:=e13.trans e4
 have hro:Ro R4 ⟨some ⟨bt,0,none⟩,3,3⟩ [.func (.func 127) #[] #[.pointer (some ⟨bw,0,none⟩),.pointer (some ⟨bb,0,none⟩),.pointer (some ⟨bs,0,none⟩)],.func (.func 128) #[] #[.pointer (some ⟨bw,0,none⟩)],.func (.func 129) #[] #[.pointer (some ⟨bw,0,none⟩),.pointer (some ⟨bs,0,none⟩)]]:=
  ⟨rfl,by simp,fun _=>⟨bt,0,_,_,_,rfl,b4,fun i v h=>by simpa using h⟩⟩
 refine (all_spec (Q:=DoneQ R Hs p d lim base s brk ds (fun _=>mendSegsE st segs g) (mendD st segs g)) hro (by simp) hw ?_).use ?_
 ·refine CalW.mk (by kernel_rfl) ((mendA_spec (g:=g) (x:=x) (xs:=xs) i b1 b3 b2 hx (by omega) h0 hz hw).use ?_)
  clear hw
  rintro _ w ⟨rfl,hw⟩
  refine ⟨_,rfl,?_⟩
  by_cases he:(appendD st scratchN (xs.take g.size.toNat)).2=0
  case neg=>
   have em2:mendD st segs g=appendD st scratchN (xs.take g.size.toNat):=by rw [em];unfold thenD;rw [if_neg he,if_neg he]
   exact .inl ⟨he,R4,sg,e14,by rw [em2],by rw [em2];exact hw⟩
  refine .inr ⟨he,⟨_,hw⟩,?_⟩
  have i2:=appendD_inv i scratchN (xs.take g.size.toNat)
  refine CalW.mk (by kernel_rfl) ((mendS_spec i2 b1 hw).use ?_)
  clear hw
  rintro _ w ⟨rfl,hw⟩
  refine ⟨_,rfl,?_⟩
  by_cases he2:(syncD (appendD st scratchN (xs.take g.size.toNat)).1 scratchN).2=0
  case neg=>
   have em2:mendD st segs g=syncD (appendD st scratchN (xs.take g.size.toNat)).1 scratchN:=by rw [em];unfold thenD;rw [if_pos he,if_neg he2]
   exact .inl ⟨he2,R4,sg,e14,by rw [em2],by rw [em2];exact hw⟩
  refine .inr ⟨he2,⟨_,hw⟩,?_⟩
  have i3:=sync_inv i2 scratchN
  refine CalW.mk (by kernel_rfl) ((mendR_spec (g:=g) i3 hp4 hn b1 b2 hw).use ?_)
  clear hw
  rintro _ w ⟨rfl,hw⟩
  have em2:mendD st segs g=renameD (syncD (appendD st scratchN (xs.take g.size.toNat)).1 scratchN).1 scratchN (segName g.num):=by rw [em];unfold thenD;rw [if_pos he,if_pos he2]
  rw [←em2] at hw ⊢
  refine ⟨_,rfl,?_⟩
  by_cases he3:(mendD st segs g).2=0
  case neg=>exact .inl ⟨he3,R4,sg,e14,rfl,hw⟩
  exact .inr ⟨he3,⟨_,hw⟩,R4,sg,e14,he3.symm,hw⟩
 ·rintro _ w ⟨e,rfl,h⟩
  exact ⟨e,rfl,hK _ _ h⟩
end Go.Proofs.YtkfedbncmfnpnaaGreatDoor
/- The formulas of functions of this seat's translation, printed by a program of mine off the translation; each is proved equal to 'fnF' of the function's body, so it is enough for the call. No condition. -/
namespace Go.Proofs.YtkfedbncmfnpnaaGreatDoor
open Go Go.VC
set_option linter.unusedVariables false
set_option maxRecDepth 10000
def B41 (ax:Option Addr) (K:Value→World→Prop) (w:World):Prop:=
 New (.cells #[.pointer ax] 31 (0,0)) (fun e C=>
 ∃ (y:Sl→World→Prop),(∃ ab:Option Addr,(At (fun b=>b=C) ⟨e,0,none⟩ [.pointer ab])∧
 NilP ab fun am=>
 ∃ I:Option Addr,(At (fun b=>b=C) (Addr.add am 0) [.pointer I])∧
 Calls Tryz.prog 33 #[.pointer I] C fun an a0=>
 ∃ g:Sl,(an=.returned (.slice g.a g.len g.cap))∧
 Calls Tryz.prog 85 #[.slice g.a g.len g.cap,.string (ByteArray.mk #[119,97,108,46,110,101,119])] a0 fun ao E=>
 ∃ J:Bool,(ao=.returned (.bool J))∧
 Br J
 (∃ L:Option Addr,(At (fun b=>b=E) ⟨e,0,none⟩ [.pointer L])∧
 Calls Tryz.prog 56 #[.pointer L,.string (ByteArray.mk #[119,97,108,46,110,101,119])] E fun ap a3=>
 ∃ M:Value,(ap=.returned (M))∧
 ∃ ai:World,∃ i:Sl,((Instr.buildSlice 124 1 #[(0,M)]).run Tryz.prog a3=.ok (.slice i.a i.len i.cap) ai)∧
 ∃ aj:World,∃ r:Sl,((Builtin.append_ #[124,124] 124 #[.slice none 0 0,.slice i.a i.len i.cap]).run Tryz.prog ai=.ok (.slice r.a r.len r.cap) aj)∧
 y r aj)
 (y ⟨none,0,0⟩ E))∧
 ∀ (a6:Env) (o:Sl) (F:World),y o F→
 ∃ N:Option Addr,(At (fun b=>b=F) ⟨e,0,none⟩ [.pointer N])∧
 Calls Tryz.prog 58 #[.pointer N] F fun aq a4=>
 ∃ O:Option Addr,∃ j:Sl,(aq=.returned (.tuple #[.pointer O,.slice j.a j.len j.cap]))∧
 New (.cells #[.pointer none] 99 (0,0)) (fun A a5=>
 ∃ u:World,((Instr.storeAt 99 (.pointer ((some ⟨A,0,none⟩))) (.pointer O)).run Tryz.prog a5=.ok () u)∧
 ∃ (z:Sl→World→Prop),(∃ Q:Option Addr,(At (fun b=>b=u) ⟨A,0,none⟩ [.pointer Q])∧
 Br (!Q.isNone)
 (∃ ac:World,∃ k:Sl,((Instr.buildSlice 124 1 #[(0,.func (.func 86) #[] #[.pointer ((some ⟨e,0,none⟩)),.pointer ((some ⟨A,0,none⟩))])]).run Tryz.prog u=.ok (.slice k.a k.len k.cap) ac)∧
 ∃ ad:World,∃ s:Sl,((Builtin.append_ #[124,124] 124 #[.slice o.a o.len o.cap,.slice k.a k.len k.cap]).run Tryz.prog ac=.ok (.slice s.a s.len s.cap) ad)∧
 z s ad)
 (z o u))∧
 ∀ (a7:Env) (H:Sl) (ae:World),z H ae→
 ∃ (x:Sl→Int→World→Prop) (ak:Sl→Int→World→Nat),(x H 0 ae)∧∀ (a8:Env) (c:Sl) (f:Int) (d:World),x c f d→
 Br (decide (f<(↑j.len:Int)))
 (Rng f j.len (NilP j.a fun al=>
 ∃ T:Int,(At (fun b=>b=d) (Addr.add al f.toNat) [.int .i64 T])∧
 Drw d fun q ay=>
 ∃ U:Option Addr,(At q ⟨e,0,none⟩ [.pointer U])∧
 Calls Tryz.prog 57 #[.agg #[.int .i64 T,.int .i64 0,.int .i64 0]] ay fun ar af=>
 ∃ V:ByteArray,(ar=.returned (.string V))∧
 (q af)∧
 Calls Tryz.prog 56 #[.pointer U,.string V] af fun au az=>
 ∃ X:Value,(au=.returned (X))∧
 ∃ D:World,∃ l:Sl,((Instr.buildSlice 124 1 #[(0,X)]).run Tryz.prog az=.ok (.slice l.a l.len l.cap) D)∧
 (q D)∧
 ∃ v:World,∃ p:Sl,((Builtin.append_ #[124,124] 124 #[.slice c.a c.len c.cap,.slice l.a l.len l.cap]).run Tryz.prog D=.ok (.slice p.a p.len p.cap) v)∧
 (q v)∧
 (x p (IntKind.i64.wrap (f + 1)) v)∧ak p (IntKind.i64.wrap (f + 1)) v<ak c f d))
 (∃ Y:Option Addr,(At (fun b=>b=d) ⟨e,0,none⟩ [.pointer Y])∧
 NilP Y fun G=>
 ∃ t:Sl,(At (fun b=>b=d) ⟨G.block,G.off + 4,none⟩ [.slice t.a t.len t.cap])∧
 Br ((↑t.len:Int)==0)
 (∃ ag:World,∃ m:Sl,((Instr.buildSlice 124 1 #[(0,.func (.func 88) #[] #[.pointer ((some ⟨e,0,none⟩))])]).run Tryz.prog d=.ok (.slice m.a m.len m.cap) ag)∧
 ∃ ah:World,∃ n:Sl,((Builtin.append_ #[124,124] 124 #[.slice c.a c.len c.cap,.slice m.a m.len m.cap]).run Tryz.prog ag=.ok (.slice n.a n.len n.cap) ah)∧
 Calls Tryz.prog 90 #[.slice n.a n.len n.cap] ah fun av a1=>
 ∃ Z:Int,(av=.returned (.int .i64 Z))∧
 K (.int .i64 Z) a1)
 (Calls Tryz.prog 90 #[.slice c.a c.len c.cap] d fun aw a2=>
 ∃ aa:Int,(aw=.returned (.int .i64 aa))∧
 K (.int .i64 aa) a2))) a4) w
def sk41:Sk:=(.seq .leaf (.seq .leaf (.cut [3] [.sl] [3,8,9,10,11,12,13,14,15,16,17,18] .leaf (.seq .leaf (.cut [3] [.sl] [3,24,25,26,27,28,29] .leaf (.seq (.seq .leaf (.block (.loop [3,32] [.sl,(.int .i64)] [3,7,32,33,34,35,36,37,38,39,40,41,42,43,44] .leaf))) .leaf))))))
theorem call41 (a:Option Addr) (K:Value→World→Prop) (w:World) (h:B41 a K w):Gets Tryz.prog 41 #[.pointer a] w K:=cq (sk:=sk41) Tryz.func41 (by kernel_rfl) (by kernel_rfl) (by kernel_rfl) h
end Go.Proofs.YtkfedbncmfnpnaaGreatDoor
/- A log on a disk: opening. Condition: bounds on lengths; the library's table of powers is laid. -/
namespace Go.Proofs.YtkfedbncmfnpnaaGreatDoor
set_option linter.unusedVariables false
set_option linter.unusedSimpArgs false
open Go Go.VC
variable {R R':Cx} {Hs Rest:List HP} {w:World} {p d:Nat} {lim base:Int} {s sg:Sl} {brk:Bool} {ds:List DE4} {segs:List Sg} {st:DS}
theorem buildF (g:FuncId) (c:Array Value) (w:World):(Instr.buildSlice 124 1 #[(0,.func (.func g) #[] c)]).run Tryz.prog w=.ok (.slice (some ⟨w.heap.size,0,none⟩) 1 1) (w.alloc (.cells #[.func (.func g) #[] c] 52)):=by kernel_rfl
theorem elFn:El Tryz.prog 124 124 52 8:=⟨Tryz.underlying124,⟨_,Tryz.underlying124⟩,by kernel_rfl⟩
theorem buildF_rule {g:FuncId} {c:Array Value} {Q:Sl→World→Prop} (hw:Sat R Hs w) (k:∀ b w',Sat R (pts b (.cells [.func (.func g) #[] c].toArray 52 (0,0))::Hs) w'→Q ⟨some ⟨b,0,none⟩,1,1⟩ w'):
  ∃ w',∃ t:Sl,(Instr.buildSlice 124 1 #[(0,.func (.func g) #[] c)]).run Tryz.prog w=.ok (.slice t.a t.len t.cap) w'∧Q t w':=
 ⟨_,⟨some ⟨w.heap.size,0,none⟩,1,1⟩,buildF g c w,k _ _ (Sat.alloc (.cells #[.func (.func g) #[] c] 52) hw)⟩
theorem push1_in {P:Program} {bytes b:Nat} {t1 t2 ty T T':TypeId} {fr:Nat × Nat} {s:Sl} (E:El P t1 t2 T bytes) {xs:List Value} {x:Value} {K:Sl→World→Prop}
  (hw:Sat R (Own s T xs::pts b (.cells [x].toArray T' fr)::Hs) w) (h1:oneAll xs=true) (hx:x.oneCell'=true) (hb:2 * (xs.length + 1) * bytes≤281474976710656) (hb':xs.length + 1≤9223372036854775807)
  (k:∀ s' w',Sat R (Own s' T (xs++[x])::Hs) w'→K s' w'):
  ∃ w',∃ t:Sl,(Builtin.append_ #[t1,t2] ty #[.slice s.a s.len s.cap,.slice (some ⟨b,0,none⟩) 1 1]).run P w=.ok (.slice t.a t.len t.cap) w'∧K t w':=
 append_rule E hw (Src_one E.hk 1 hw hx) h1 hb hb' fun s' w' h=>k s' w' (h.cons fun _ h=>h.drop)
def FnL (fs:List Value):Prop:=∀ v∈fs,∃ g c,v=.func (.func g) #[] c
theorem FnL.one {fs:List Value} (h:FnL fs):oneAll fs=true:=by
 unfold oneAll
 rw [List.all_eq_true]
 intro x hx
 obtain ⟨g,c,rfl⟩:=h x hx
 rfl
theorem FnL.app {a b:List Value} (ha:FnL a) (hb:FnL b):FnL (a++b):=fun v hv=>(List.mem_append.1 hv).elim (ha v) (hb v)
theorem FnL.sing (g:FuncId) (c:Array Value):FnL [.func (.func g) #[] c]:=fun v hv=>by simp at hv;exact ⟨g,c,hv⟩
theorem FnL.nil:FnL []:=fun _ h=>by cases h
def UnlF (R:Cx) (p:Nat) (v:Value) (name:ByteArray):Prop:=∃ bw bn:Nat,v=.func (.func 103) #[] #[.pointer (some ⟨bw,0,none⟩),.pointer (some ⟨bn,0,none⟩)]∧BoxP R bw p∧BoxV R bn (.string name)
theorem UnlF.ext {v:Value} {name:ByteArray} (h:UnlF R p v name) (e:R.Ext R'):UnlF R' p v name:=let ⟨bw,bn,h1,h2,h3⟩:=h;⟨bw,bn,h1,h2.ext e,h3.ext e⟩
theorem UnlF.fn {v:Value} {name:ByteArray} (h:UnlF R p v name):FnL [v]:=let ⟨_,_,h1,_⟩:=h;by rw [h1];exact .sing _ _
def UnlL (R:Cx) (p:Nat):List Value→List Nat→Prop
 |[],[]=>True
 |v::vs,n::ns=>UnlF R p v (segName n)∧UnlL R p vs ns
 |_,_=>False
theorem UnlL.ext (e:R.Ext R'):∀ {vs:List Value} {ns:List Nat},UnlL R p vs ns→UnlL R' p vs ns
 |[],[],h=>h
 |_::_,_::_,h=>⟨h.1.ext e,UnlL.ext e h.2⟩
theorem UnlL.snoc {v:Value} {n:Nat}:∀ {vs:List Value} {ns:List Nat},UnlL R p vs ns→UnlF R p v (segName n)→UnlL R p (vs++[v]) (ns++[n])
 |[],[],_,hv=>⟨hv,trivial⟩
 |_::_,_::_,h,hv=>⟨h.1,UnlL.snoc h.2 hv⟩
theorem UnlL.fn:∀ {vs:List Value} {ns:List Nat},UnlL R p vs ns→FnL vs
 |[],[],_=>.nil
 |v::vs,_::_,h=>fun x hx=>by
  rcases List.mem_cons.1 hx with rfl|hx
  ·exact h.1.fn x (by simp)
  ·exact UnlL.fn h.2 x hx
theorem UnlL.len:∀ {vs:List Value} {ns:List Nat},UnlL R p vs ns→vs.length=ns.length
 |[],[],_=>rfl
 |_::_,_::_,h=>by simp [UnlL.len h.2]
theorem unl_steps {Q:Int→World→Prop} {rest:List Value}:∀ {vs:List Value} {ns:List Nat} {st:DS} {w:World},UnlL R p vs ns→Inv st→Sat R (WS p d lim base s sg brk ds segs st Hs) w→
  (∀ w',(unlinksD st ns).2≠0→Sat R (WS p d lim base s sg brk ds segs (unlinksD st ns).1 Hs) w'→Q (unlinksD st ns).2 w')→
  (∀ w',(unlinksD st ns).2=0→Inv (unlinksD st ns).1→Sat R (WS p d lim base s sg brk ds segs (unlinksD st ns).1 Hs) w'→StepsQ R rest Q w')→StepsQ R (vs++rest) Q w
 |[],[],st,w,_,i,hw,_,k=>k w rfl i hw
 |v::vs,n::ns,st,w,h,i,hw,q,k=>by
  obtain ⟨⟨bw,bn,rfl,b1,b2⟩,h⟩:=h
  refine CalW.mk (by kernel_rfl) ((unlinkC_spec i b1 b2 hw).use ?_)
  clear hw
  rintro _ w ⟨rfl,hw⟩
  refine ⟨_,rfl,?_⟩
  by_cases he:(unlinkD st (segName n)).2=0
  case neg=>
   have e:unlinksD st (n::ns)=unlinkD st (segName n):=by unfold unlinksD thenD;rw [if_neg he]
   rw [e] at q
   exact .inl ⟨he,q _ he hw⟩
  have e:unlinksD st (n::ns)=unlinksD (unlinkD st (segName n)).1 ns:=by conv=>lhs;unfold unlinksD thenD;rw [if_pos he]
  rw [e] at q k
  exact .inr ⟨he,⟨_,hw⟩,unl_steps h (unlink_inv i _) hw q k⟩
theorem thenD_err {x:DS × Int} {f:DS→DS × Int} (h:x.2≠0):thenD x f=x:=if_neg h
theorem thenD_ok {x:DS × Int} {f:DS→DS × Int} (h:x.2=0):thenD x f=f x.1:=if_pos h
theorem unlink_read {st:DS} {k k2:ByteArray} (hne:k2≠k) (h:(unlinkD st k).2=0):(unlinkD st k).1.off=st.off∧readD (unlinkD st k).1 k2=readD st k2:=by
 have hg:=unlink_get (st:=st) hne
 have ho:(unlinkD st k).1.off=st.off:=by
  obtain ⟨h1,h2⟩:=doing_ok (st:=st) h
  have e:unlinkD st k=unlinkG k (chg st (nameOk k)).1:=h2
  have e2:(chg st (nameOk k)).1.off=st.off:=by
   unfold chg at h1 ⊢
   split
   ·rfl
   ·split
    ·rfl
    ·split
     ·rename_i h3 h4 h5;rw [if_neg h3,if_neg h4,if_pos h5] at h1;simp at h1
     ·rfl
  rw [e,←e2]
  unfold unlinkG
  split<;>rfl
 refine ⟨ho,?_⟩
 unfold readD
 rw [ho,hg]
def RecQ (R:Cx) (Hs:List HP) (p d:Nat) (lim:Int) (brk:Bool) (st:DS) (e:Int) (w:World):Prop:=
 ∃ R' base s ds sg segs,R.Ext R'∧DsR R' ds∧e=(recoverD st).2∧(e=0→(⟨base,erE ds⟩:Lg)=(openedW st).g∧segs=(openedW st).segs∧segs.length≤40001)∧0≤base∧base≤1099511627776∧ds.length≤100000000000∧
  Sat R' (WS p d lim base s sg brk ds segs (recoverD st).1 Hs) w
theorem recover1_spec {bw bA bg:Nat} {g:Sg} (i:Inv st) (hp:PowR R) (hn:g.num<100000000) (hl:segs.length≤1000000) (h0:0≤g.size) (hz:(readD st (segName g.num)).2=0→g.size≤(readD st (segName g.num)).1.length) (h1:BoxP R bw p) (h2:BoxP R bA bg) (h3:R.m bg=some (sCells g))
  (hw:Sat R (WS p d lim base s sg brk ds segs st Hs) w):
  Gets Tryz.prog 86 #[.pointer (some ⟨bw,0,none⟩),.pointer (some ⟨bA,0,none⟩)] w fun v w'=>∃ e,v=.int .i64 e∧DoneQ R Hs p d lim base s brk ds (fun _=>mendSegsE st segs g) (mendD st segs g) e w':=by
 apply call86
 refine drw_rule' (Sat R [VC.tru]) hw (fun w hw=>Sat.toTru (As:=[]) hw) fun w hw=>?_
 refine NilP.mk rfl ⟨_,h1.at selfS,NilP.mk rfl ⟨_,h2.at selfS,NilP.mk rfl ⟨_,_,_,At.ro selfS h3 (by exact ⟨rfl,rfl,rfl,trivial⟩),?_⟩⟩⟩
 refine (mend_spec i hp hn hl h0 hz hw).use ?_
 rintro _ w ⟨e,rfl,h⟩
 have h':=h
 obtain ⟨R2,sg2,e2,_,hw⟩:=h'
 exact ⟨_,rfl,e2.back (Sat.toTru (As:=[]) hw),e,rfl,h⟩
theorem recover2_spec {bw:Nat} (i:Inv st) (hp:PowR R) (hl:segs.length≤1000000) (h1:BoxP R bw p) (hw:Sat R (WS p d lim base s sg brk ds segs st Hs) w):
  Gets Tryz.prog 88 #[.pointer (some ⟨bw,0,none⟩)] w fun v w'=>∃ e,v=.int .i64 e∧DoneQ R Hs p d lim base s brk ds (madeS segs 1 1) (makeD st 1 1) e w':=by
 apply call88
 refine NilP.mk rfl ⟨_,h1.at (eqS hw),?_⟩
 refine (make_spec (n:=1) (next:=1) i hp (by omega) (by omega) (by omega) hl hw).use ?_
 rintro _ w ⟨e,rfl,h⟩
 exact ⟨e,rfl,e,rfl,h⟩
end Go.Proofs.YtkfedbncmfnpnaaGreatDoor
