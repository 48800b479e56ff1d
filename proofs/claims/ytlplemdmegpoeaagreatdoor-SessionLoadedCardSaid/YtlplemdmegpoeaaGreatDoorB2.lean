/- SL, part 7: a map of one's own, by its keys and values; opening of what holds for some x. No condition. -/
import Derived.Test.YtlplemdmegpoeaaGreatDoorB1
import Derived.Lib.ConvBytes
import Derived.Laws.BytesArg
import Derived.Laws.Strings
import Derived.Below
import Derived.Sort.KeysCollected
import Derived.Maps.Own
import Derived.Laws.BitsAllLaws
import Derived.Lib.BitFns
import Derived.KernelRfl
import Derived.Lib.AppendZeros
import Derived.Laws.RangeAny
import Derived.Laws.MakeOwn
import GoSem.Core.Float
set_option linter.unusedVariables false
set_option linter.unusedSimpArgs false
namespace Go.VC
section
variable {α:Type} [BEq α] [ZaW α]
def ZD {β:Type} (k:α):List (α × β)->Option β
 |[]=>none
 |e::es=>if k==e.1 then some e.2 else ZD k es
def ZeG {β:Type} (k:α) (v:β):List (α × β)->List (α × β)
 |[]=>[]
 |e::es=>if k==e.1 then (e.1,v)::es else e::ZeG k v es
def Ze9 {β:Type} (k:α):List (α × β)->List (α × β)
 |[]=>[]
 |e::es=>if k==e.1 then es else e::Ze9 k es
def Zci {β:Type} (k:α) (v:β) (es:List (α × β)):List (α × β):=if (ZD k es).isSome then ZeG k v es else es++[(k,v)]
abbrev Zbp (es:List (En α)):List (α × Value):=es.map λ e=>(e.1,e.2.1)
omit [ZaW α] in
theorem Zet (k:α):∀ es:List (En α),Zuw k es=ZD k (Zbp es)
 |[]=>rfl
 |e::es=>by rw [Zuw,Zbp,List.map_cons,ZD,Zet k es]
omit [ZaW α] in
theorem Zgc (k:α) (es:List (En α)):Zkz k es=(ZD k (Zbp es)).isSome:=by unfold Zkz;rw [Zet]
omit [ZaW α] in
theorem Zix (k:α) (v:Value):∀ es:List (En α),Zbp (ZoJ k v es)=ZeG k v (Zbp es)
 |[]=>rfl
 |e::es=>by
  have ih:=Zix k v es;unfold Zbp at *;rw [List.map_cons,ZoJ,ZeG];split
  ·simp
  ·simp [ih]
omit [ZaW α] in
theorem Zjc (k:α):∀ es:List (En α),Zbp (Zoc k es)=Ze9 k (Zbp es)
 |[]=>rfl
 |e::es=>by
  have ih:=Zjc k es;unfold Zbp at *;rw [List.map_cons,Zoc,Ze9];split
  ·rfl
  ·simp [ih]
omit [ZaW α] in
theorem ZiI (k:α) (v:Value) (es:List (En α)) (c:Nat):Zbp (ZpV k v es c)=Zci k v (Zbp es):=by
 unfold ZpV Zci;rw [Zgc];split
 ·exact Zix k v es
 ·simp [Zbp]
def ZbZ (l:List (En α)) (c:Nat):Prop:=(∀ e∈l,e.2.2<c)/\(l.map (·.2.2)).Nodup
omit [ZaW α] in
theorem ZeU (k:α) (v:Value):∀ l:List (En α),(ZoJ k v l).map (·.2.2)=l.map (·.2.2)
 |[]=>rfl
 |e::es=>by
  rw [ZoJ];split
  ·rfl
  ·rw [List.map_cons,List.map_cons,ZeU k v es]
omit [ZaW α] in
theorem Zkl (k:α):∀ l:List (En α),(Zoc k l).Sublist l
 |[]=>List.Sublist.refl _
 |e::es=>by
  rw [Zoc];split
  ·exact List.sublist_cons_self _ _
  ·exact (Zkl k es).cons_cons _
omit [ZaW α] in
theorem Zit {l:List (En α)} {c:Nat} (h:ZbZ l c) (k:α) (v:Value):ZbZ (ZpV k v l c) (if Zkz k l then c else c + 1):=by
 unfold ZpV;split
 ·refine ⟨λ e he=>?_,by rw [ZeU];exact h.2⟩
  have:e.2.2∈(ZoJ k v l).map (·.2.2):=List.mem_map_of_mem he;rw [ZeU] at this;obtain ⟨x,hx,hxe⟩:=List.mem_map.1 this;rw [<-hxe];exact h.1 x hx
 ·refine ⟨λ e he=>?_,?_⟩
  ·rcases List.mem_append.1 he with he|he
   ·have:=h.1 e he;omega
   ·simp at he;subst he;simp
  ·rw [List.map_append,List.nodup_append]
   refine ⟨h.2,by simp,λ x hx y hy=>?_⟩;simp at hy;obtain ⟨e,he,rfl⟩:=List.mem_map.1 hx;have:=h.1 e he;omega
omit [ZaW α] in
theorem ZoB {l:List (En α)} {c:Nat} (h:ZbZ l c) (k:α):ZbZ (Zoc k l) c:=
 ⟨λ e he=>h.1 e ((Zkl k l).subset he),((Zkl k l).map _).nodup h.2⟩
def MapAt (m:Nat) (es:List (α × Value)):HP:=λ h=>∃ (l:List (En α)) (c:Nat),Zbp l=es/\ZbZ l c/\h=Z1.one m (.map (l.map mkE).toArray c)
theorem MapAt.iff {R:Cx} {Hs:List HP} {w:World} {m:Nat} {es:List (α × Value)}:Sat R (MapAt m es::Hs) w↔∃ l c,Zbp l=es/\ZbZ l c/\Sat R (pts m (.map (l.map (mkE (α:=α))).toArray c)::Hs) w:=by
 constructor
 ·rintro ⟨a,⟨l,c,h1,h3,h2⟩,hd,hs⟩;exact ⟨l,c,h1,h3,a,h2,hd,hs⟩
 ·rintro ⟨l,c,h1,h3,a,h2,hd,hs⟩;exact ⟨a,⟨l,c,h1,h3,h2⟩,hd,hs⟩
structure Ztv (P:Program) (T:TypeId) (α:Type) [BEq α] [ZaW α] (K E:TypeId) (z:Value):Prop where
 hT:P.underlying T=some (.map K E)
 hK:P.underlying K=some (ZaW.desc α)
 hz:∀ w,(zeroValue E).run P w=.ok z w
variable {P:Program} {R:Cx} {Hs:List HP} {w:World} {m:Nat} {es:List (α × Value)} {T K E:TypeId} {z:Value}
theorem MapAt.look (M:Ztv P T α K E z) (hw:Sat R (MapAt m es::Hs) w) (k:α) (c:Bool):
  (Instr.lookup T (.map (some m)) (ZaW.enc k) c).run P w=.ok (if c then .tuple #[(ZD k es).getD z,.bool (ZD k es).isSome] else (ZD k es).getD z) w:=by
 obtain ⟨l,clk,rfl,_,hp⟩:=MapAt.iff.1 hw;rw [Zo9 M.hT M.hK M.hz hp.at k c,Zet,Zgc]
theorem MapAt.put (M:Ztv P T α K E z) (hw:Sat R (MapAt m es::Hs) w) (k:α) (v:Value) {Q:World->Prop} (h:∀ w',Sat R (MapAt m (Zci k v es)::Hs) w'->Q w'):
  ∃ w',(Instr.mapUpdate T (.map (some m)) (ZaW.enc k) v).run P w=.ok () w'/\Q w':=by
 obtain ⟨l,clk,rfl,hst,hp⟩:=MapAt.iff.1 hw;refine ⟨_,Zot M.hT M.hK hp.at k v,h _ (MapAt.iff.2 ⟨ZpV k v l clk,_,ZiI k v l clk,Zit hst k v,hp.setPts _⟩)⟩
theorem MapAt.del {t2 ty:TypeId} (M:Ztv P T α K E z) (hw:Sat R (MapAt m es::Hs) w) (k:α) {Q:World->Prop} (h:∀ w',Sat R (MapAt m (Ze9 k es)::Hs) w'->Q w'):
  ∃ w',(Builtin.delete_ #[T,t2] ty #[.map (some m),ZaW.enc k]).run P w=.ok (.tuple #[]) w'/\Q w':=by
 obtain ⟨l,clk,rfl,hst,hp⟩:=MapAt.iff.1 hw;exact ⟨_,Zpu M.hT M.hK hp.at k,h _ (MapAt.iff.2 ⟨Zoc k l,_,Zjc k l,ZoB hst k,hp.setPts _⟩)⟩
theorem MapAt.new {o:Obj} (ho:o=.map #[] 0) (hw:Sat R (pts m o::Hs) w):Sat R (MapAt (α:=α) m []::Hs) w:=by
 subst ho;exact MapAt.iff.2 ⟨[],0,rfl,⟨λ _ h=>(by cases h),List.nodup_nil⟩,hw⟩
section
variable {β:Type}
omit [ZaW α] in
theorem Zj7 {k:α} {v:β}:∀ {a b:List (α × β)},ZD k a=none->(k==k)=true->ZD k (a++(k,v)::b)=some v
 |[],b,_,hk=>by simp [ZD,hk]
 |e::a,b,h,hk=>by
  rw [ZD] at h;split at h
  ·cases h
  ·rename_i hne
   rw [List.cons_append,ZD,if_neg hne];exact Zj7 h hk
omit [ZaW α] in
theorem Zff {k:α} {v v':β}:∀ {a b:List (α × β)},ZD k a=none->(k==k)=true->ZeG k v' (a++(k,v)::b)=a++(k,v')::b
 |[],b,_,hk=>by simp [ZeG,hk]
 |e::a,b,h,hk=>by
  rw [ZD] at h;split at h
  ·cases h
  ·rename_i hne
   rw [List.cons_append,ZeG,if_neg hne,Zff h hk];rfl
omit [ZaW α] in
theorem Zey {k:α} {v:β}:∀ {a b:List (α × β)},ZD k a=none->(k==k)=true->Ze9 k (a++(k,v)::b)=a++b
 |[],b,_,hk=>by simp [Ze9,hk]
 |e::a,b,h,hk=>by
  rw [ZD] at h;split at h
  ·cases h
  ·rename_i hne
   rw [List.cons_append,Ze9,if_neg hne,Zey h hk];rfl
theorem Zar {k:α} {v:β}:∀ {l:List (α × β)},ZD k l=some v->∃ a b,l=a++(k,v)::b/\ZD k a=none
 |[],h=>by cases h
 |e::l,h=>by
  rw [ZD] at h;split at h
  ·rename_i hk
   cases h;have:=ZaW.eq _ _ hk;subst this;exact ⟨[],l,rfl,rfl⟩
  ·rename_i hne
   obtain ⟨a,b,rfl,ha⟩:=Zar h;exact ⟨e::a,b,rfl,by rw [ZD,if_neg hne];exact ha⟩
omit [ZaW α] in
theorem ZfD {γ:Type} (f:β->γ) (k:α):∀ l:List (α × β),ZD k (l.map λ e=>(e.1,f e.2))=(ZD k l).map f
 |[]=>rfl
 |e::l=>by
  rw [List.map_cons,ZD,ZD,ZfD f k l];split<;>rfl
end
end
section
variable {P:Program} {R:Cx} {Hs:List HP} {w:World} {s:Sl} {T:TypeId}
theorem Ro.idxK {kd:IntKind} {xs:List Int} {S:World->Prop} (hr:Ro R s (xs.map (Value.int kd))) (hS:∀ w,S w->Sat R Hs w) {k:Nat} (hk:k<xs.length) {F:Int->Prop} (h:F xs[k]):
  Rng (k:Int) s.len (Zd s.a λ a=>∃ t:Int,(At S (a.add (k:Int).toNat) [.int kd t])/\F t):=by
 obtain ⟨a,ha,hat⟩:=hr.addr (k:=k) (by simpa using hk);have hl:s.len=xs.length:=by have:=hr.len;simpa using this
 refine Rng.mk (by omega) (by omega) (Zd.mk ha ⟨xs[k],?_,h⟩);have:=hat hS;simpa using this
theorem ZvY {t2 e':TypeId} (ht:P.underlying t2=some (.slice e')) {xs:List Value} (hw:Sat R Hs w) (hs:Ro R s xs) (h1:Za0 xs=true):Src P 1 t2 (.slice s.a s.len s.cap) xs.length xs w:=by
 have hl:s.len=xs.length:=hs.len;by_cases hx:xs=[]
 ·subst hx
  obtain ⟨a,n,c⟩:=s;simp only [List.length_nil] at hl;subst hl;cases a with
  |none=>exact Go.Src.ofNil _ ht _
  |some a=>exact Go.Src.ofSlice w ht _ 0 _ [] rfl (λ j u hj=>by simp at hj) (λ u hu=>by cases hu)
 ·obtain ⟨b,off,l,T,fr,ha,hb,hel⟩:=hs.mem hx
  obtain ⟨a,n,c⟩:=s;simp only at ha hl;subst ha hl;refine Go.Src.ofSlice w ht _ _ _ _ (by simp) (λ j u hj=>?_) (λ u hu=>List.all_eq_true.1 h1 u hu);rw [Zz];have:=hw.of_ro hb;simp only [World.cell?,this,Option.isSome_none,Bool.false_eq_true,if_false];exact hel j u hj
def ZY (s:ByteArray):List Int:=s.data.toList.map λ b=>(b.toNat:Int)
theorem Zaj (s:ByteArray):(ZY s).length=s.size:=by simp [ZY]
theorem ZlW (s:ByteArray):∀ n∈ZY s,0<=n/\n<256:=by
 intro n hn;obtain ⟨b,_,rfl⟩:=List.mem_map.1 hn;have:=b.toNat_lt;omega
theorem Zie {a b:World} (h:a.heap=b.heap) (h2:{ a with heap:=b.heap }=b):a=b:=by rw [<-h2,<-h]
theorem ZgN (w:World) (e:TypeId) (s:ByteArray):
  Lib.bytesWorld w e s=w.drew.alloc (.cells (Lib.bytesCells w e s) e ((Lib.bytesCells w e s).size,(Lib.bytesCells w e s).size + 1)):=by
 have:(Lib.bytesWorld w e s).heap=(w.drew.alloc (.cells (Lib.bytesCells w e s) e ((Lib.bytesCells w e s).size,(Lib.bytesCells w e s).size + 1))).heap:=by
  apply Array.ext_getElem?;intro i;by_cases hi:i<w.heap.size
  ·rw [Lib.bytesWorld_at_old w e s i hi]
   simp [World.alloc,World.drew,-World.alloc_eq,-World.drew_eq,Array.getElem?_push,Nat.ne_of_lt hi]
  ·by_cases h2:i=w.heap.size
   ·subst h2
    rw [Lib.bytesWorld_at_new];simp [World.alloc,World.drew,-World.alloc_eq,-World.drew_eq]
   ·rw [Array.getElem?_eq_none (by rw [Lib.bytesWorld_size];omega),Array.getElem?_eq_none (by simp [World.alloc,World.drew,-World.alloc_eq,-World.drew_eq];omega)]
 exact Zie this rfl
theorem Zpz {src dst:TypeId} {u:TypeDesc} (hs:P.underlying src=some u) (hd:P.underlying dst=some (.slice T)) (he:P.underlying T=some (.int .u8)) {b:ByteArray} {K:Sl->World->Prop}
  (hw:Sat R Hs w) (k:∀ t w',Sat R (Own t T ((ZY b).map (Value.int .u8))::Hs) w'->K t w'):
  ∃ w',∃ t:Sl,(convert src dst (.string b)).run P w=.ok (.slice t.a t.len t.cap) w'/\K t w':=by
 refine ⟨_,⟨some ⟨w.heap.size,0,none⟩,b.size,grownCap w b.size 0 T⟩,Lib.run_convert_string_bytes w src dst T b hs hd he,k _ _ ?_⟩;rw [ZgN];have hc:Lib.bytesCells w T b=((ZY b).map (Value.int .u8)++List.replicate (grownCap w b.size 0 T - b.size) (Value.int .u8 0)).toArray:=by
  apply Array.ext';simp [Lib.bytesCells,ZY,Function.comp_def]
 have h1:=Sat.alloc (Obj.cells (Lib.bytesCells w T b) T ((Lib.bytesCells w T b).size,(Lib.bytesCells w T b).size + 1)) hw.drew;have hg:=grownCap_ge w b.size 0 T;rw [hc] at h1 ⊢;have h2:=Own.of_pts h1 (.inr (by simp));have e:(⟨some ⟨w.drew.heap.size,0,none⟩,((ZY b).map (Value.int .u8)).length,((ZY b).map (Value.int .u8)++List.replicate (grownCap w b.size 0 T - b.size) (Value.int .u8 0)).length⟩:Sl)=⟨some ⟨w.heap.size,0,none⟩,b.size,grownCap w b.size 0 T⟩:=by
  simp only [List.length_append,List.length_map,List.length_replicate,Zaj,World.size_drew]
  congr 1
  omega
 rw [e] at h2;exact h2
def strOf (xs:List Int):ByteArray:=⟨(xs.map λ n=>UInt8.ofNat n.toNat).toArray⟩
theorem ZfJ {src dst:TypeId} (hs:P.underlying src=some (.slice T)) (he:P.underlying T=some (.int .u8)) (hd:P.underlying dst=some .string) {xs:List Int}
  (hw:Sat R Hs w) (hr:Ro R s (xs.map (Value.int .u8))):(convert src dst (.slice s.a s.len s.cap)).run P w=.ok (.string (strOf xs)) w:=by
 have hl:s.len=xs.length:=by have:=hr.len;simpa using this
 by_cases hx:xs=[]
 ·subst hx
  obtain ⟨a,n,c⟩:=s;simp only [List.length_nil] at hl;subst hl;cases a with
  |none=>exact run_convert_bytes_nil w src T hs he _ _ dst hd
  |some a=>
   rw [run_convert_bytes_string w src dst T _ _ _ hs he hd,run_bytesToString w a 0 c [] (by simpa using run_loadCells_list (P:=P) w a [] (λ j v hj=>by simp at hj))];rfl
 ·obtain ⟨b,off,l,T',fr,ha,hb,hel⟩:=hr.mem (by simpa using hx)
  obtain ⟨a,n,c⟩:=s;simp only at ha hl;subst ha hl;refine (run_convert_bytes_arg w src T hs he b off _ c xs rfl (λ i hi=>?_) dst hd).trans rfl;have:=hw.of_ro hb;simp only [World.cell?,this,Option.isSome_none,Bool.false_eq_true,if_false];refine hel i _ ?_;simp [hi,List.getD]
theorem ZkM (b:ByteArray):strOf (ZY b)=b:=by
 unfold strOf ZY;rw [List.map_map];have:(List.map ((λ n:Int=>UInt8.ofNat n.toNat) ∘ λ b:UInt8=>(b.toNat:Int)) b.data.toList)=b.data.toList:=by
  conv=>rhs;rw [<-List.map_id b.data.toList]
  apply List.map_congr_left;intro x _;simp
 rw [this]
theorem ZlV {xs:List Int} (h:∀ n∈xs,0<=n/\n<256):ZY (strOf xs)=xs:=by
 unfold strOf ZY;simp only [List.map_map]
 conv=>rhs;rw [<-List.map_id xs]
 apply List.map_congr_left;intro x hx;have:=h x hx;simp;omega
end
section
open Go Go.RowKit
structure Zto (w w':World):Prop where
 os:w'.os=w.os
 tape:w'.tape=w.tape
 output:w'.output=w.output
 block:∀ k,k<w.heap.size->w'.heap[k]? =w.heap[k]?
theorem Zto.of_below {w w':World} (h:Below w.heap.size w w'):Zto w w':=⟨h.os,h.tape,h.output,h.block⟩
theorem Sat.keeps:∀ {Hs:List HP} {R:Cx} {w w':World},Sat R Hs w->Zto w w'->Sat R Hs w'
 |[],_,w,_,h,e=>⟨λ b o hb=>by
   have:=h.1 b o hb;rw [e.block b (Array.getElem?_eq_some_iff.1 this).1];exact this,e.os.trans h.2.1,e.tape.trans h.2.2.1,e.output.trans h.2.2.2⟩
 |_::_,_,_,_,h,e=>let ⟨h',hH,hd,hs⟩:=h;⟨h',hH,hd,hs.keeps e⟩
theorem Sat.grewTo:∀ {Hs:List HP} {R:Cx} {w w':World} {b:Nat} {o:Obj},Sat R Hs w->Zto w w'->w.heap.size<=b->w'.heap[b]? =some o->Sat (R.add (Z1.one b o)) Hs w'
 |[],R,w,w',b,o,h,e,hb,ho=>by
  refine ⟨λ i x hx=>?_,e.os.trans h.2.1,e.tape.trans h.2.2.1,e.output.trans h.2.2.2⟩;simp only [Cx.m_add,Z1.add,Z1.one] at hx;cases hr:R.m i with
  |some y=>
   rw [hr] at hx;have:=h.1 i y hr;rw [e.block i (Array.getElem?_eq_some_iff.1 this).1,this];exact hx
  |none=>
   rw [hr] at hx;simp only at hx;split at hx
   ·rename_i hi;subst hi;rw [ho];exact hx
   ·cases hx
 |H::Hs,R,w,w',b,o,h,e,hb,ho=>by
  have hR:R.m b=.none:=Sat.ro_lt h hb;obtain ⟨a,hA,hd,hs⟩:=h;have hadd:(R.add a).m b=.none:=Sat.ro_lt hs hb;have ha:a b=.none:=by simpa [Cx.m_add,Z1.add,hR] using hadd
  have:=Sat.grewTo hs e hb ho;have hdis:(Z1.one b o).dis a:=by
   intro i hi;simp only [Z1.one];split
   ·rename_i h;subst h;exact absurd ha hi
   ·rfl
  refine ⟨a,hA,Cx.add_dis hd hdis,?_⟩;rw [Cx.add_assoc,Z1.add_comm hdis,<-Cx.add_assoc];exact this
theorem Sat.fresh {R:Cx} {Hs:List HP} {w w':World} {b:Nat} {o:Obj} (h:Sat R Hs w) (e:Zto w w') (hb:w.heap.size<=b) (ho:w'.heap[b]? =some o):Sat R (pts b o::Hs) w':=
 Sat.lend.2 ⟨Sat.ro_lt h hb,Sat.grewTo h e hb ho⟩
theorem Sat.ownsRow {R:Cx} {Hs:List HP} {w w':World} {T:TypeId} {v:Value} {n:Nat} {xs:List Value} (h:Sat R Hs w) (e:Below w.heap.size w w') (hr:w'.ownsRow w.heap.size T 1 v n xs):
  ∃ s:Sl,v=.slice s.a s.len s.cap/\Sat R (Own s T xs::Hs) w':=by
 obtain ⟨hl,h1|⟨g,cap,cur,rfl,hg,hb,hn,hc,hcs,ht⟩⟩:=hr
 ·obtain ⟨rfl,rfl⟩:=h1
  have:xs=[]:=by simpa using hl
  subst this;exact ⟨⟨none,0,0⟩,rfl,Own.nil (h.keeps (.of_below e))⟩
 ·rw [Nat.mul_one] at *
  have h2:=h.fresh (.of_below e) hg hb;have e1:cur=(xs++cur.toList.drop n).toArray:=by
   apply Array.ext';rw [<-ht];simp
  rw [e1] at h2;have h3:=Own.of_pts h2;refine ⟨_,?_,h3⟩;have:(xs++cur.toList.drop n).length=cap:=by
   have e2:cur.toList.length=cap:=by rw [Array.length_toList];exact hcs
   rw [List.length_append,List.length_drop,e2,hl];omega
  simp only [this,hl]
end
section
open Go Go.RowKit
variable {P:Program} {R:Cx} {Hs Rest:List HP} {w:World} {s:Sl} {T:TypeId} {n:Nat}
def Wid (n:Nat) (rows:List (List Value)):Prop:=∀ x∈rows,x.length=n
theorem Wid.nil {n:Nat}:Wid n []:=λ _ h=>by cases h
theorem Wid.app {n:Nat} {a b:List (List Value)} (ha:Wid n a) (hb:Wid n b):Wid n (a++b):=λ x hx=>(List.mem_append.1 hx).elim (ha x) (hb x)
theorem Wid.one {n:Nat} {x:List Value} (h:x.length=n):Wid n [x]:=λ y hy=>by simp at hy;rw [hy];exact h
theorem Wid.len {n:Nat}:∀ {rows:List (List Value)},Wid n rows->rows.flatten.length=rows.length * n
 |[],_=>by simp
 |x::rows,h=>by
  rw [List.flatten_cons,List.length_append,h x List.mem_cons_self,Wid.len (rows:=rows) (λ y hy=>h y (List.mem_cons_of_mem _ hy)),List.length_cons,Nat.add_mul];omega
theorem Wid.drop_flat {n:Nat}:∀ {rows:List (List Value)} (k:Nat),Wid n rows->rows.flatten.drop (k * n)=(rows.drop k).flatten
 |rows,0,_=>by simp
 |[],k + 1,_=>by simp
 |x::rows,k + 1,h=>by
  have hx:=h x List.mem_cons_self;rw [List.flatten_cons,List.drop_succ_cons,<-Wid.drop_flat (rows:=rows) k (λ y hy=>h y (List.mem_cons_of_mem _ hy)),List.drop_append];have e1:x.drop ((k + 1) * n)=[]:=List.drop_eq_nil_of_le (by rw [hx,Nat.add_mul];omega);have e2:(k + 1) * n - x.length=k * n:=by rw [hx,Nat.add_mul];omega
  rw [e1,e2,List.nil_append]
theorem Wid.take_flat {n:Nat} {rows:List (List Value)} (k:Nat) (h:Wid n rows):rows.flatten.take (k * n)=(rows.take k).flatten:=by
 by_cases hk:k<=rows.length
 ·have e:rows.flatten=(rows.take k).flatten++(rows.drop k).flatten:=by rw [<-List.flatten_append,List.take_append_drop]
  rw [e,List.take_left'];rw [Wid.len (λ x hx=>h x (List.mem_of_mem_take hx)),List.length_take,Nat.min_eq_left hk]
 ·rw [List.take_of_length_le (by rw [h.len];exact Nat.mul_le_mul_right _ (by omega)),List.take_of_length_le (by omega)]
theorem Wid.take {n k:Nat} {rows:List (List Value)} (h:Wid n rows):Wid n (rows.take k):=λ x hx=>h x (List.mem_of_mem_take hx)
theorem Wid.drop {n k:Nat} {rows:List (List Value)} (h:Wid n rows):Wid n (rows.drop k):=λ x hx=>h x (List.mem_of_mem_drop hx)
theorem Pre.app:∀ {vs a:List Value} (b:List Value),Pre vs a->Pre vs (a++b)
 |[],_,_,_=>trivial
 |_::_,_::_,b,h=>⟨h.1,Pre.app b h.2⟩
 |_::_,[],_,h=>h.elim
theorem Pre.len:∀ {vs a:List Value},Pre vs a->vs.length<=a.length
 |[],_,_=>Nat.zero_le _
 |_::_,_::_,h=>by simp only [List.length_cons];exact Nat.succ_le_succ (Pre.len h.2)
 |_::_,[],h=>h.elim
theorem Wid.pre {n k j:Nat} {rows:List (List Value)} (rest:List Value) (h:Wid n rows) (hk:k<rows.length) {vs:List Value} (hp:Pre vs (rows[k].drop j)):Pre vs ((rows.flatten++rest).drop (k * n + j)):=by
 cases vs with
 |nil=>trivial
 |cons v vs=>
  have hj:j<rows[k].length:=by
   have:=Pre.len hp;simp only [List.length_cons,List.length_drop] at this;omega
  have hx:rows[k].length=n:=h _ (List.getElem_mem _);have hle:k * n + j<=rows.flatten.length:=by
   rw [h.len];have:(k + 1) * n<=rows.length * n:=Nat.mul_le_mul_right _ (by omega);rw [Nat.add_mul] at this;omega
  rw [List.drop_append_of_le_length hle,Nat.add_comm (k * n) j,<-List.drop_drop];rw [Nat.add_comm] at hle;rw [List.drop_drop,Nat.add_comm j,<-List.drop_drop,h.drop_flat,List.drop_eq_getElem_cons hk,List.flatten_cons,List.drop_append_of_le_length (by omega),List.append_assoc];exact hp.app _
def ZP (n:Nat) (s:Sl) (T:TypeId) (rows:List (List Value)):HP:=λ h=>
 Wid n rows/\((s=⟨none,0,0⟩/\rows=[]/\h=Z1.none)\/
  ∃ b rest fr cap,s=⟨some ⟨b,0,none⟩,rows.length,cap⟩/\(rows.flatten++rest).length=cap * n/\ZnG (cap * n) fr/\h=Z1.one b (.cells (rows.flatten++rest).toArray T fr))
theorem ZP.nil (h:Sat R Hs w):Sat R (ZP n ⟨none,0,0⟩ T []::Hs) w:=
 ⟨Z1.none,⟨Wid.nil,.inl ⟨rfl,rfl,rfl⟩⟩,λ i hi=>absurd rfl hi,by rw [Cx.add_none];exact h⟩
theorem ZP.of_pts {b cap:Nat} {fr:Nat × Nat} {rows:List (List Value)} {rest:List Value} (hwid:Wid n rows) (hl:(rows.flatten++rest).length=cap * n) (h:Sat R (pts b (.cells (rows.flatten++rest).toArray T fr)::Hs) w)
  (hf:ZnG (cap * n) fr:=by first|assumption|exact Or.inl rfl):Sat R (ZP n ⟨some ⟨b,0,none⟩,rows.length,cap⟩ T rows::Hs) w:=
 let ⟨a,ha,hd,hs⟩:=h;⟨a,⟨hwid,.inr ⟨b,rest,fr,cap,rfl,hl,hf,ha⟩⟩,hd,hs⟩
theorem ZP.cases {rows:List (List Value)} (h:Sat R (ZP n s T rows::Hs) w):Wid n rows/\
  ((s=⟨none,0,0⟩/\rows=[]/\Sat R Hs w)\/∃ b rest fr cap,s=⟨some ⟨b,0,none⟩,rows.length,cap⟩/\(rows.flatten++rest).length=cap * n/\ZnG (cap * n) fr/\Sat R (pts b (.cells (rows.flatten++rest).toArray T fr)::Hs) w):=by
 obtain ⟨a,⟨hwid,ha⟩,hd,hs⟩:=h;refine ⟨hwid,?_⟩;rcases ha with ⟨h1,h2,rfl⟩|⟨b,rest,fr,cap,h1,h3,hf,rfl⟩
 ·rw [Cx.add_none] at hs;exact .inl ⟨h1,h2,hs⟩
 ·exact .inr ⟨b,rest,fr,cap,h1,h3,hf,_,rfl,hd,hs⟩
theorem ZP.wid {rows:List (List Value)} (h:Sat R (ZP n s T rows::Hs) w):Wid n rows:=(ZP.cases h).1
theorem ZP.len {rows:List (List Value)} (h:Sat R (ZP n s T rows::Hs) w):s.len=rows.length:=by
 rcases (ZP.cases h).2 with ⟨rfl,rfl,_⟩|⟨b,rest,fr,cap,rfl,_,_⟩<;>rfl
theorem ZP.cap {rows:List (List Value)} (hn:0<n) (h:Sat R (ZP n s T rows::Hs) w):s.len<=s.cap:=by
 have hwid:=(ZP.cases h).1;rcases (ZP.cases h).2 with ⟨rfl,rfl,_⟩|⟨b,rest,fr,cap,rfl,hl,_⟩
 ·exact Nat.le_refl _
 ·rw [List.length_append,hwid.len] at hl
  simp only;have:rows.length * n<=cap * n:=by omega
  exact Nat.le_of_mul_le_mul_right this hn
def Zib (n:Nat) (s:Sl) (rows:List (List Value)) (S:World->Prop):Prop:=
 s.len=rows.length/\∀ k (hk:k<rows.length),∃ b off,s.a=some ⟨b,off,none⟩/\∀ j vs,Pre vs (rows[k].drop j)->At S ⟨b,off + (k * n + j),none⟩ vs
theorem ZP.reads {rows:List (List Value)} (hw:Sat R (ZP n s T rows::Hs) w) {S:World->Prop} {Hs'} (hS:∀ w,S w->Sat R (ZP n s T rows::Hs') w):Zib n s rows S:=by
 refine ⟨ZP.len hw,λ k hk=>?_⟩;obtain ⟨hwid,⟨_,rfl,_⟩|⟨b,rest,fr,cap,rfl,hl,_,_⟩⟩:=ZP.cases hw
 ·simp at hk
 ·refine ⟨b,0,rfl,λ j vs hp w hw i v hv=>?_⟩
  obtain ⟨_,⟨h0,_,_⟩|⟨b',rest',fr',cap',he,_,_,h⟩⟩:=ZP.cases (hS w hw)
  ·cases h0
  ·simp only [Sl.mk.injEq,Option.some.injEq,Addr.mk.injEq,and_true] at he
   obtain ⟨rfl,_⟩:=he;have:=(Wid.pre rest' hwid hk hp).get i v hv;rw [List.getElem?_drop] at this;rw [Zz,Nat.zero_add,Zaz h.at,this]
theorem Zib.rng {S:World->Prop} {rows:List (List Value)} (h:Zib n s rows S) {k:Nat} (hk:k<rows.length) {F:Addr->Prop} (f:∀ b off,s.a=some ⟨b,off,none⟩->(∀ j vs,Pre vs (rows[k].drop j)->At S ⟨b,off + (k * n + j),none⟩ vs)->F ⟨b,off,none⟩):
  Rng (k:Int) s.len (Zd s.a F):=by
 obtain ⟨b,off,ha,hat⟩:=h.2 k hk;have:=h.1;exact Rng.mk (by omega) (by omega) (Zd.mk ha (f b off ha hat))
theorem ZuD (b off k n j:Nat):(⟨(Addr.add ⟨b,off,none⟩ (ZgL k n)).block,(Addr.add ⟨b,off,none⟩ (ZgL k n)).off + j,none⟩:Addr)=⟨b,off + (k * n + j),none⟩:=by
 rw [Zz,Zf6];simp only [Addr.mk.injEq,and_true,true_and];omega
theorem ZhX (b off k n:Nat):Addr.add ⟨b,off,none⟩ (ZgL k n)=⟨b,off + (k * n + 0),none⟩:=by
 rw [Zz,Zf6];rfl
structure RoN (n:Nat) (R:Cx) (s:Sl) (rows:List (List Value)):Prop where
 wid:Wid n rows
 len:s.len=rows.length
 mem:rows≠[]->∃ b off l T fr,s.a=some ⟨b,off,none⟩/\R.m b=some (.cells l T fr)/\∀ (i:Nat) v,rows.flatten[i]? =some v->l[off + i]? =some v
theorem RoN.reads {rows:List (List Value)} (hr:RoN n R s rows) {S:World->Prop} {Hs'} (hS:∀ w,S w->Sat R Hs' w):Zib n s rows S:=by
 refine ⟨hr.len,λ k hk=>?_⟩;obtain ⟨b,off,l,T,fr,ha,hb,hl⟩:=hr.mem (λ h=>by rw [h] at hk;simp at hk);refine ⟨b,off,ha,λ j vs hp w hw i v hv=>?_⟩;have h1:=(Wid.pre [] hr.wid hk hp).get i v hv;rw [List.append_nil,List.getElem?_drop] at h1;have:=(hS w hw).of_ro hb;rw [Zz];simp only [World.cell?,this,Option.isSome_none,Bool.false_eq_true,if_false];rw [Nat.add_assoc];exact hl _ _ h1
theorem ZP.lend {rows:List (List Value)} (h:Sat R (ZP n s T rows::Hs) w):
  ∃ R':Cx,RoN n R' s rows/\(∃ x,R'=R.add x)/\Sat R' Hs w/\∀ {Hs' w'},Sat R' Hs' w'->Sat R (ZP n s T rows::Hs') w':=by
 obtain ⟨hwid,⟨rfl,rfl,h2⟩|⟨b,rest,fr,cap,rfl,hl,hf,h2⟩⟩:=ZP.cases h
 ·exact ⟨R,⟨hwid,rfl,λ h=>absurd rfl h⟩,⟨Z1.none,(Cx.add_none R).symm⟩,h2,λ h=>ZP.nil h⟩
 ·obtain ⟨hn,h3⟩:=Sat.lend.1 h2
  refine ⟨_,⟨hwid,rfl,λ _=>⟨b,0,_,T,fr,rfl,Cx.lent hn,λ i v hv=>?_⟩⟩,⟨_,rfl⟩,h3,λ h=>ZP.of_pts hwid hl (Sat.lend.2 ⟨hn,h⟩)⟩;obtain ⟨hi,rfl⟩:=List.getElem?_eq_some_iff.1 hv;simp [List.getElem?_append_left hi]
def ZzS (P:Program) (T:TypeId) (n bytes:Nat):Bool:=
 match P.info? T with
 |some i=>match i.zero with
  |some z=>i.size==n && i.bytes==bytes && z.cells.size==n
  |none=>false
 |none=>false
structure ElN (P:Program) (t1 t2 T:TypeId) (n bytes:Nat):Prop where
 ht:P.underlying t1=some (.slice T)
 hk:∃ e',P.underlying t2=some (.slice e')
 hi:ZzS P T n bytes=true
theorem Zkg {P:Program} {T:TypeId} {n bytes:Nat} (h:ZzS P T n bytes=true):∃ i z,P.info? T=some i/\i.zero=some z/\i.size=n/\i.bytes=bytes/\z.cells.size=n:=by
 unfold ZzS at h;split at h
 ·rename_i i hi
  split at h
  ·rename_i z hz
   simp only [Bool.and_eq_true,beq_iff_eq] at h;exact ⟨i,z,hi,hz,h.1.1,h.1.2,h.2⟩
  ·cases h
 ·cases h
theorem ZgE {t1 t2 ty:TypeId} {bytes:Nat} (E:ElN P t1 t2 T n bytes) {rows ys:List (List Value)} {src:Value} {K:Sl->World->Prop}
  (hw:Sat R (ZP n s T rows::Hs) w) (hs:Src P n t2 src ys.length ys.flatten w) (hy:Wid n ys) (hb:2 * (rows.length + ys.length) * bytes<=281474976710656) (hb':rows.length + ys.length<=9223372036854775807)
  (k:∀ s' w',Sat R (ZP n s' T (rows++ys)::Hs) w'->K s' w'):
  ∃ w',∃ t:Sl,(Builtin.append_ #[t1,t2] ty #[.slice s.a s.len s.cap,src]).run P w=.ok (.slice t.a t.len t.cap) w'/\K t w':=by
 obtain ⟨i,z,hi,hz,hsize,hbytes,hzc⟩:=Zkg E.hi;have hs':Src P i.size t2 src ys.length ys.flatten w:=by rw [hsize];exact hs
 have hlen:=ZP.len hw;have hwid:=ZP.wid hw;have hwid2:=hwid.app hy;generalize hcn:ys.length=c at *;have fit:∀ cap,cap<rows.length + c->Builtin.nextslicecap (rows.length + c) cap * i.bytes<=281474976710656:=λ cap hc=>by
  have h2:Builtin.nextslicecap (rows.length + c) cap<=2 * (rows.length + c):=by
   unfold Builtin.nextslicecap;split
   ·omega
   ·split
    ·omega
    ·have:=nextslicecap_le_wide hc
     unfold Builtin.nextslicecap at this;rw [if_neg (by assumption),if_neg (by assumption)] at this;omega
  rw [hbytes];exact Nat.le_trans (Nat.mul_le_mul_right _ h2) hb
 -- a new row
 have grow:∀ (base:Option Addr) (cap:Nat),cap<rows.length + c->(Builtin.firstCells i.size rows.length (.slice base rows.length cap)).run P w.drew=.ok rows.flatten.toArray w.drew->Sat R Hs w->
   ∃ w',∃ t:Sl,(Builtin.append_ #[t1,t2] ty #[.slice base rows.length cap,src]).run P w=.ok (.slice t.a t.len t.cap) w'/\K t w':=λ base cap hc hold hw=>by
  have hr:=run_append_grow_src w t1 t2 ty T i z E.ht hi hz base rows.length cap rows.flatten hold src c ys.flatten hs' hc (by omega) (fit cap hc);refine ⟨_,⟨some ⟨w.heap.size,0,none⟩,rows.length + c,grownCap w (rows.length + c) cap T⟩,hr,k _ _ ?_⟩;have hz0:(Builtin.zeroCells z.cells (grownCap w (rows.length + c) cap T - (rows.length + c))).size=(grownCap w (rows.length + c) cap T - (rows.length + c)) * n:=by
   simp [Builtin.zeroCells,hzc]
  have hg:=grownCap_ge w (rows.length + c) cap T;generalize hG:grownCap w (rows.length + c) cap T=G at *;have ho':Obj.cells ((rows.flatten++ys.flatten).toArray++Builtin.zeroCells z.cells (G - (rows.length + c))) T=.cells ((rows++ys).flatten++(Builtin.zeroCells z.cells (G - (rows.length + c))).toList).toArray T (0,0):=by
   congr 1
   apply Array.ext';simp
  have:=Sat.alloc (Obj.cells ((rows.flatten++ys.flatten).toArray++Builtin.zeroCells z.cells (G - (rows.length + c))) T) (Sat.drew hw);rw [ho'] at this ⊢;have hlenG:((rows++ys).flatten++(Builtin.zeroCells z.cells (G - (rows.length + c))).toList).length=G * n:=by
   have hz1:(Builtin.zeroCells z.cells (G - (rows.length + c))).toList.length=(G - (rows.length + c)) * n:=by rw [Array.length_toList];exact hz0
   rw [List.length_append,hz1,hwid2.len,List.length_append,hcn,<-Nat.add_mul]
   congr 1;omega
  have h3:=ZP.of_pts (cap:=G) hwid2 hlenG this;have e:(⟨some ⟨w.drew.heap.size,0,none⟩,(rows++ys).length,G⟩:Sl)=⟨some ⟨w.heap.size,0,none⟩,rows.length + c,G⟩:=by
   simp only [List.length_append,World.size_drew,hcn]
  rw [e] at h3;exact h3
 obtain ⟨_,⟨rfl,rfl,hz2⟩|⟨b,rest,fr,cap,rfl,hl,hfr,hp⟩⟩:=ZP.cases hw
 ·by_cases hn0:c=0
  ·subst hn0
   have hy0:ys=[]:=List.length_eq_zero_iff.1 hcn;subst hy0;obtain ⟨e',he'⟩:=E.hk;refine ⟨w,⟨none,0,0⟩,?_,k _ _ (by simpa using ZP.nil hz2)⟩;have hcz:=hs'.cells;simp [Builtin.append_,run_underlying E.ht,run_underlying he',sizeOf,typeInfo,hi,hs'.len,hcz]
  ·exact grow none 0 (by simp;omega) (run_firstCells_none w.drew i.size 0 0 0) hz2
 ·have hl0:=hl
  rw [List.length_append,hwid.len] at hl;by_cases hroom:rows.length + c<=cap
  ·have hat:=hp.at
   have hcapn:(rows.length + c) * n<=cap * n:=Nat.mul_le_mul_right _ hroom;rw [Nat.add_mul] at hcapn;have hyl:ys.flatten.length=c * n:=by rw [hy.len,hcn]
   have hr:=run_append_room_src w t1 t2 ty T i E.ht hi b 0 rows.length cap src c ys.flatten hs' hroom
    (λ j hj=>by
     rw [Zaz hat,hsize,List.getElem?_eq_getElem (by rw [hl0];omega)];rfl) (λ j hj=>ZcH hat hfr (by rw [hsize];omega))
   refine ⟨_,⟨some ⟨b,0,none⟩,rows.length + c,cap⟩,hr,k _ _ ?_⟩;have h2:=ZaL ys.flatten (rows.flatten++rest) (rows.length * n) w hp;have e1:ZeI (rows.flatten++rest) (rows.length * n) ys.flatten=(rows++ys).flatten++rest.drop (c * n):=by
    rw [ZeX _ _ _ (by rw [hyl,hl0];omega),List.take_left' hwid.len,hyl,<-List.drop_drop,List.drop_left' hwid.len];simp
   rw [e1] at h2;rw [hsize,Nat.zero_add];have h3:=ZP.of_pts (cap:=cap) hwid2 (by rw [List.length_append,hwid2.len,List.length_append,hcn,List.length_drop,Nat.add_mul];omega) h2;rw [List.length_append,hcn] at h3;exact h3
  ·have hat:=hp.at
   refine grow (some ⟨b,0,none⟩) cap (by omega) ?_ hp.drop;refine run_firstCells_some w.drew i.size rows.length ⟨b,0,none⟩ rows.length _ rows.flatten (by rw [hsize,hwid.len]) ?_;intro j u hj;rw [World.cell?_drew,Zz,Zaz hat,Nat.zero_add];obtain ⟨hlt,rfl⟩:=List.getElem?_eq_some_iff.1 hj;simp [List.getElem?_append_left hlt]
theorem Zoo {t2:TypeId} (hk:∃ e',P.underlying t2=some (.slice e')) {b:Nat} {x:List Value} {fr:Nat × Nat} (c:Nat)
  (hw:Sat R Hs w) [t:ZeO b Hs (.cells x.toArray T fr) Rest] (hx:x.length=n) (h1:Za0 x=true):Src P n t2 (.slice (some ⟨b,0,none⟩) 1 c) [x].length [x].flatten w:=by
 obtain ⟨e',he'⟩:=hk;refine Go.Src.ofSlice w he' _ 1 c _ (by simp [hx]) ?_ ?_
 ·intro j u hj
  have:=hw.look b;rw [Zz,Zaz this];simpa using hj
 ·intro u hu;simp at hu;exact List.all_eq_true.1 h1 u hu
theorem ZiJ {t1 t2 ty T':TypeId} {bytes:Nat} (E:ElN P t1 t2 T n bytes) {rows:List (List Value)} {x:List Value} {K:Sl->World->Prop}
  (hw:Sat R (ZP n s T rows::Hs) w) (hx:x.length=n) (h1:Za0 x=true) (hb:2 * (rows.length + 1) * bytes<=281474976710656) (hb':rows.length + 1<=9223372036854775807)
  (k:∀ s' w',Sat R (ZP n s' T (rows++[x])::Hs) w'->K s' w'):
  New (.cells x.toArray T' (0,0)) (λ b w=>∃ w',∃ t:Sl,(Builtin.append_ #[t1,t2] ty #[.slice s.a s.len s.cap,.slice (some ⟨b,0,none⟩) 1 1]).run P w=.ok (.slice t.a t.len t.cap) w'/\K t w') w:=by
 refine Zb hw λ b w hw=>?_;have hw:Sat R (pts b (.cells x.toArray T' (0,0))::ZP n s T rows::Hs) w:=hw;exact ZgE E hw.swap (Zoo E.hk 1 hw hx h1) (Wid.one hx) hb hb' λ s' w' h=>k s' w' h.swap.drop
structure Elt (n:Nat) (S:World->Prop) (a:Addr) (k:Nat) (row:List Value):Prop where
 f:∀ (j:Nat) {vs:List Value},Pre vs (row.drop j)->At S ⟨(Addr.add a (ZgL (k:Int).toNat n)).block,(Addr.add a (ZgL (k:Int).toNat n)).off + j,none⟩ vs
 z:∀ {vs:List Value},Pre vs row->At S (Addr.add a (ZgL (k:Int).toNat n)) vs
 zz:∀ {vs:List Value},Pre vs row->At S (Addr.add (Addr.add a (ZgL (k:Int).toNat n)) 0) vs
theorem Zpt (b off k n:Nat):Addr.add (Addr.add ⟨b,off,none⟩ (ZgL k n)) 0=⟨b,off + (k * n + 0),none⟩:=by
 rw [ZhX,Zz];rfl
theorem Zib.rngM {α:Type} {E:List α} {g:α->List Value} {S:World->Prop} (h:Zib n s (E.map g) S) {k:Nat} (hk:k<E.length) {F:Addr->Prop} (f:∀ a,s.a=some a->Elt n S a k (g E[k])->F a):Rng (k:Int) s.len (Zd s.a F):=by
 have hg:(E.map g)[k]'(by simpa using hk)=g E[k]:=by simp
 refine h.rng (k:=k) (by simpa using hk) λ b off ha hat=>f _ ha ⟨λ j vs hp=>?_,λ hp=>?_,λ hp=>?_⟩
 ·rw [Int.toNat_natCast,ZuD];exact hat j _ (by rw [hg];exact hp)
 ·rw [Int.toNat_natCast,ZhX];exact hat 0 _ (by rw [hg];exact hp)
 ·rw [Int.toNat_natCast,Zpt];exact hat 0 _ (by rw [hg];exact hp)
theorem ZP.readsM {rows:List (List Value)} (hw:Sat R Hs w) [t:Ztu (ZP n s T rows) Hs Rest] {S:World->Prop} (hS:∀ w,S w->Sat R Hs w):Zib n s rows S:=
 ZP.reads (hw.perm t.perm) λ w h=>(hS w h).perm t.perm
class Arr (Hs Hs':List HP):Prop where
 perm:Hs.Perm Hs'
instance (priority:=2000) Arr.refl {Hs:List HP}:Arr Hs Hs:=⟨List.Perm.refl _⟩
instance Arr.cons {A:HP} {Hs Rest Hs':List HP} [t:Ztu A Hs Rest] [r:Arr Rest Hs']:Arr Hs (A::Hs'):=⟨t.perm.trans (r.perm.cons A)⟩
theorem Sat.arr {Hs':List HP} (h:Sat R Hs w) [a:Arr Hs Hs']:Sat R Hs' w:=h.perm a.perm
theorem Br.d {p:Prop} {inst:Decidable p} {A B:Prop} (h:p->A) (h':¬ p->B):Br (@decide p inst) A B:=Br.mk (λ e=>h (of_decide_eq_true e)) (λ e=>h' (of_decide_eq_false e))
theorem Br.nd {p:Prop} {inst:Decidable p} {A B:Prop} (h:¬ p->A) (h':p->B):Br (!@decide p inst) A B:=Br.mk (λ e=>h (by simpa using e)) (λ e=>h' (by simpa using e))
theorem Br.e {x y:Int} {A B:Prop} (h:x=y->A) (h':¬ x=y->B):Br (x==y) A B:=Br.mk (λ e=>h (by simpa using e)) (λ e=>h' (by simpa using e))
theorem Br.ne {x y:Int} {A B:Prop} (h:¬ x=y->A) (h':x=y->B):Br (x !=y) A B:=Br.mk (λ e=>h (by simpa using e)) (λ e=>h' (by simpa using e))
theorem Br.nb {b:Bool} {A B:Prop} (h:b=false->A) (h':b=true->B):Br (!b) A B:=Br.mk (λ e=>h (by simpa using e)) (λ e=>h' (by simpa using e))
theorem Zqq (a b:ByteArray):(a.toList==b.toList)=decide (a=b):=by
 rw [ByteArray.toList_eq,ByteArray.toList_eq];by_cases h:a=b
 ·simp [h]
 ·have:a.data≠b.data:=λ h2=>h (by cases a;cases b;simp_all)
  simp [h,this]
theorem Br.sne {x y:ByteArray} {A B:Prop} (h:¬ x=y->A) (h':x=y->B):Br (!(x.toList==y.toList)) A B:=by rw [Zqq];exact Br.nd h h'
end
theorem Zp5 {x:Int} (h0:0<=x) (h1:x<256):IntKind.u8.wrap x=x:=by rw [IntKind.wrap_u8'];omega
theorem ZvO (x:Int):IntKind.u8.wrap x=x % 256:=IntKind.wrap_u8' x
theorem Zax {x:Int} (h0:0<=x) (h1:x<18446744073709551616):IntKind.u64.wrap x=x:=by rw [IntKind.wrap_u64];omega
theorem ZeC (n x:Nat) (h:x<2 ^ n):(BitVec.ofInt n (x:Int)).toNat=x:=by
 rw [BitVec.toNat_ofInt];have:((x:Int) % (2 ^ n:Nat))=x:=Int.emod_eq_of_lt (by omega) (by exact_mod_cast h);rw [this];rfl
theorem Zzw {x y:Nat} (hx:x<18446744073709551616) (hy:y<18446744073709551616):ZfM .or .u64 x y=((x|||y:Nat):Int):=by
 have e:(BitVec.ofInt 64 (x:Int)|||BitVec.ofInt 64 (y:Int)).toNat=x|||y:=by rw [BitVec.toNat_or,ZeC 64 x hx,ZeC 64 y hy]
 show IntKind.u64.wrap (((BitVec.ofInt 64 (x:Int)|||BitVec.ofInt 64 (y:Int)).toNat:Nat):Int)=_;rw [e];have:x|||y<18446744073709551616:=Nat.or_lt_two_pow (n:=64) hx hy
 exact Zax (by omega) (by omega)
theorem ZvI {x y:Nat} (hx:x<18446744073709551616) (hy:y<18446744073709551616):ZfM .and .u64 x y=((x &&& y:Nat):Int):=by
 have e:(BitVec.ofInt 64 (x:Int) &&& BitVec.ofInt 64 (y:Int)).toNat=x &&& y:=by rw [BitVec.toNat_and,ZeC 64 x hx,ZeC 64 y hy]
 show IntKind.u64.wrap (((BitVec.ofInt 64 (x:Int) &&& BitVec.ofInt 64 (y:Int)).toNat:Nat):Int)=_;rw [e];have:x &&& y<18446744073709551616:=Nat.and_lt_two_pow (n:=64) x hy;exact Zax (by omega) (by omega)
theorem Zwm (x y:Nat) (hy:y<256):x * 256|||y=x * 256 + y:=by
 have:=Nat.two_pow_add_eq_or_of_lt (i:=8) (b:=y) (by omega) x;rw [Nat.mul_comm] at this;exact this.symm
section
variable {P:Program} {R:Cx} {Hs Rest:List HP} {w:World} {s:Sl}
structure SlR (h:Z1) (s:Sl) (xs:List Value):Prop where
 len:s.len=xs.length
 cap:s.len<=s.cap
 mem:xs≠[]->∃ b off l T fr,s.a=some ⟨b,off,none⟩/\h b=some (.cells l T fr)/\∀ (i:Nat) v,xs[i]? =some v->l[off + i]? =some v
def ZM (s:Sl) (xs:List Value):HP:=λ h=>SlR h s xs
theorem SlR.addR {h h':Z1} {xs:List Value} (hd:h'.dis h) (a:SlR h s xs):SlR (h'.add h) s xs:=
 ⟨a.len,a.cap,λ hx=>let ⟨b,off,l,T,fr,ha,hb,hl⟩:=a.mem hx;⟨b,off,l,T,fr,ha,by
  simp only [Z1.add,hd b (by rw [hb];simp)];exact hb,hl⟩⟩
theorem SlR.ro {xs:List Value} (a:SlR R.m s xs) (hb:xs.length<=9223372036854775807):Ro R s xs:=
 ⟨a.len,hb,a.mem⟩
theorem SlR.take {h:Z1} {xs:List Value} (a:SlR h s xs) {k:Nat} (hk:k<=xs.length):SlR h ⟨s.a,k,s.cap⟩ (xs.take k):=
 ⟨by simp;omega,by have:=a.len;have:=a.cap;simp only;omega,λ hx=>by
  obtain ⟨b,off,l,T,fr,ha,hb,hl⟩:=a.mem (λ h0=>hx (by rw [h0];simp));refine ⟨b,off,l,T,fr,ha,hb,λ i v hv=>hl i v ?_⟩;rw [List.getElem?_take] at hv;split at hv
  ·exact hv
  ·cases hv⟩
theorem SlR.drop {h:Z1} {xs:List Value} (a:SlR h s xs) {k:Nat} (hk:k<=xs.length):SlR h ⟨Zcn s.a k s.cap 1,s.len - k,s.cap - k⟩ (xs.drop k):=by
 have hlen:=a.len;have hcap:=a.cap;refine ⟨by simp;omega,by simp only;omega,λ hx=>?_⟩;obtain ⟨b,off,l,T,fr,ha,hb,hl⟩:=a.mem (λ h0=>hx (by rw [h0];simp));have hlt:0<(xs.drop k).length:=List.length_pos_iff.2 hx;rw [List.length_drop] at hlt;refine ⟨b,off + k,l,T,fr,?_,hb,λ i v hv=>?_⟩
 ·unfold Zcn
  rw [if_neg (by omega),ha];simp [Zz]
 ·rw [List.getElem?_drop] at hv
  rw [Nat.add_assoc];exact hl _ _ hv
theorem ZM.lend {xs:List Value} (h:Sat R (ZM s xs::Hs) w):∃ x:Z1,R.dis x/\SlR (R.add x).m s xs/\Sat (R.add x) Hs w/\SlR x s xs:=by
 obtain ⟨x,hx,hd,hs⟩:=h;exact ⟨x,hd,SlR.addR hd hx,hs,hx⟩
theorem ZM.back {xs:List Value} {x:Z1} (hd:R.dis x) (hx:SlR x s xs) (h:Sat (R.add x) Hs w):Sat R (ZM s xs::Hs) w:=⟨x,hx,hd,h⟩
theorem Own.reads {T:TypeId} {xs:List Value} (h:Sat R (Own s T xs::Hs) w):Sat R (ZM s xs::Hs) w:=by
 rcases Own.cases h with ⟨rfl,rfl,h2⟩|⟨b,rest,fr,rfl,hf,h2⟩
 ·exact ⟨Z1.none,⟨rfl,Nat.le_refl _,λ h=>absurd rfl h⟩,λ i hi=>absurd rfl hi,by rw [Cx.add_none];exact h2⟩
 ·obtain ⟨a,ha,hd,hs⟩:=h2
  refine ⟨a,⟨rfl,by simp,λ _=>⟨b,0,(xs++rest).toArray,T,fr,rfl,by rw [ha];simp [Z1.one],λ i v hv=>?_⟩⟩,hd,hs⟩;obtain ⟨hi,rfl⟩:=List.getElem?_eq_some_iff.1 hv;simp [List.getElem?_append_left hi]
theorem SlR.idxK {kd:IntKind} {xs:List Int} {S:World->Prop} (hr:SlR R.m s (xs.map (Value.int kd))) (hS:∀ w,S w->Sat R Hs w) {k:Nat} (hk:k<xs.length) {F:Int->Prop} (h:F xs[k]):
  Rng (k:Int) s.len (Zd s.a λ a=>∃ t:Int,(At S (a.add (k:Int).toNat) [.int kd t])/\F t):=by
 have hl:s.len=xs.length:=by have:=hr.len;simpa using this
 obtain ⟨b,off,l,T,fr,ha,hb,hel⟩:=hr.mem (by intro h0;rw [List.map_eq_nil_iff] at h0;rw [h0] at hk;simp at hk);refine Rng.mk (by omega) (by omega) (Zd.mk ha ⟨xs[k],λ w hw i v hv=>?_,h⟩);have hi:i=0:=by
  cases i with
  |zero=>rfl
  |succ i=>simp at hv
 subst hi;simp only [List.getElem?_cons_zero,Option.some.injEq] at hv;subst hv;rw [Int.toNat_natCast,Zz,Zz];have:=(hS w hw).of_ro hb;simp only [World.cell?,this,Option.isSome_none,Bool.false_eq_true,if_false];exact hel k _ (by simp [hk])
end
end Go.VC
namespace Go.Proofs.YtlplemdmegpoeaaGreatDoor
section
open Go Go.VC Tryz
variable {R:Cx} {Hs Rest:List HP} {w:World}
theorem _root_.Go.VC.Sat.re {A:HP} (B:HP) (h:Sat R (A::Hs) w) (e:A=B:=by rfl):Sat R (B::Hs) w:=e ▸ h
abbrev b8 (l:List Int):List Value:=l.map (Value.int .u8)
theorem Zvt:El prog 47 47 5 1:=⟨underlying47,⟨_,underlying47⟩,by kernel_rfl⟩
theorem ZnE (xs:List Int):Za0 (b8 xs)=true:=by unfold Za0;simp [Value.oneCell']
theorem ZeB {s:Sl} {xs:List Int} (hs:Ro R s (b8 xs)) (hl:xs.length<=1099511627776) (hw:Sat R Hs w):
  Zo prog 75 #[.slice s.a s.len s.cap] w λ r w'=>∃ t:Sl,r=.slice t.a t.len t.cap/\Sat R (Own t 5 (b8 xs)::Hs) w':=by
 apply ZAd;refine Br.mk (λ h=>?_) (λ h=>?_)
 ·have hx:xs=[]:=by
   by_cases hx:b8 xs=[]
   ·simpa using hx
   ·obtain ⟨b,off,_,_,_,ha,_⟩:=hs.mem hx
    rw [ha] at h;cases h
  subst hx;exact ⟨⟨none,0,0⟩,rfl,Own.nil hw⟩
 ·refine Zb hw λ b w hw=>?_
  have h0:Sat R (Own ⟨some ⟨b,0,none⟩,0,0⟩ 5 []::Hs) w:=Own.of_pts (xs:=[]) (rest:=[]) hw;have hsrc:Src prog 1 47 (.slice s.a s.len s.cap) xs.length (b8 xs) w:=by
   have:=ZvY underlying47 h0 hs (ZnE xs);simpa using this
  have:=ZcL (ty:=47) (K:=λ t w'=>∃ u:Sl,Value.slice t.a t.len t.cap=.slice u.a u.len u.cap/\Sat R (Own u 5 (b8 xs)::Hs) w') Zvt h0 hsrc rfl (by simp;omega) (by simp;omega) λ t w hw=>⟨t,rfl,by simpa using hw⟩;exact this
end
end Go.Proofs.YtlplemdmegpoeaaGreatDoor
namespace Go.VC
def dig (n:Nat):List Int:=if h:n=0 then [] else dig (n / 256)++[((n % 256:Nat):Int)]
termination_by n
decreasing_by omega
theorem ZbY:dig 0=[]:=by unfold dig;simp
theorem Zd6 {n:Nat} (h:n≠0):dig n=dig (n / 256)++[((n % 256:Nat):Int)]:=by
 conv=>lhs;unfold dig
 rw [dif_neg h]
def ZkH (acc:Int) (l:List Int):Int:=l.foldl (λ a b=>a * 256 + b) acc
theorem ZkG (acc b:Int) (l:List Int):ZkH acc (b::l)=ZkH (acc * 256 + b) l:=rfl
theorem ZtB (acc:Int) (a b:List Int):ZkH acc (a++b)=ZkH (ZkH acc a) b:=List.foldl_append
theorem ZkF (acc:Int) (a:List Int) (b:Int):ZkH acc (a++[b])=ZkH acc a * 256 + b:=by rw [ZtB];rfl
theorem Zmc:∀ {l:List Int} {acc:Int},0<=acc->(∀ x∈l,0<=x/\x<256)->0<=ZkH acc l
 |[],_,h,_=>h
 |b::l,acc,h,hb=>by
  rw [ZkG];have:=hb b List.mem_cons_self;exact Zmc (by omega) λ x hx=>hb x (List.mem_cons_of_mem _ hx)
theorem Zmd:∀ {l:List Int} {acc:Int},0<=acc->(∀ x∈l,0<=x/\x<256)->ZkH acc l<(acc + 1) * 256 ^ l.length
 |[],acc,h,_=>by simp [ZkH];omega
 |b::l,acc,h,hb=>by
  rw [ZkG];have h1:=hb b List.mem_cons_self;have:=Zmd (l:=l) (acc:=acc * 256 + b) (by omega) λ x hx=>hb x (List.mem_cons_of_mem _ hx);refine Int.lt_of_lt_of_le this ?_;rw [List.length_cons,Int.pow_succ,Int.mul_comm (256 ^ l.length) 256,<-Int.mul_assoc];exact Int.mul_le_mul_of_nonneg_right (by omega) (Int.le_of_lt (Int.pow_pos (by decide)))
theorem Zw2 (n:Nat):ZkH 0 (dig n)=n:=by
 induction n using Nat.strongRecOn with
 |ind n ih=>
  by_cases h:n=0
  ·subst h;rw [ZbY];rfl
  ·rw [Zd6 h,ZkF,ih (n / 256) (by omega)];omega
theorem ZzT (n:Nat):∀ x∈dig n,0<=x/\x<256:=by
 induction n using Nat.strongRecOn with
 |ind n ih=>
  by_cases h:n=0
  ·subst h;rw [ZbY];intro x hx;cases hx
  ·rw [Zd6 h]
   intro x hx;rcases List.mem_append.1 hx with hx|hx
   ·exact ih (n / 256) (by omega) x hx
   ·simp at hx;omega
theorem ZuG (n:Nat):∀ x l,dig n=x::l->x≠0:=by
 induction n using Nat.strongRecOn with
 |ind n ih=>
  intro x l hx;by_cases h:n=0
  ·subst h;rw [ZbY] at hx;cases hx
  ·rw [Zd6 h] at hx
   by_cases h2:n / 256=0
   ·rw [h2,ZbY] at hx
    simp at hx;omega
   ·cases hd:dig (n / 256) with
    |nil=>rw [Zd6 h2] at hd;simp at hd
    |cons y l'=>
     rw [hd] at hx;simp at hx;obtain ⟨rfl,_⟩:=hx;exact ih (n / 256) (by omega) _ _ hd
theorem Zi9:∀ (k n:Nat),n<256 ^ k->(dig n).length<=k
 |0,n,h=>by
  have:n=0:=by simpa using h
  subst this;rw [ZbY];simp
 |k + 1,n,h=>by
  by_cases h0:n=0
  ·subst h0;rw [ZbY];simp
  ·rw [Zd6 h0,List.length_append]
   have:=Zi9 k (n / 256) (by rw [Nat.pow_succ] at h;exact Nat.div_lt_of_lt_mul (by rwa [Nat.mul_comm] at h));simp;omega
theorem ZgZ {n:Nat} (h:n<18446744073709551616):(dig n).length<=8:=Zi9 8 n (by simpa using h)
theorem Zsw (n:Nat) (h:n<18446744073709551616):(Lib.bitLen n + 7) / 8=(dig n).length:=by
 induction n using Nat.strongRecOn with
 |ind n ih=>
  by_cases h0:n=0
  ·subst h0;rw [ZbY];decide
  ·rw [Zd6 h0,List.length_append]
   by_cases h1:256<=n
   ·rw [Lib.bitLen_shift8 n h1 h,<-ih (n / 256) (by omega) (by omega)]
    simp;omega
   ·have e:n / 256=0:=by omega
    rw [e,ZbY];have h2:∀ m:Fin 256,m.val≠0->(Lib.bitLen m.val + 7) / 8=1:=by decide +kernel
    simpa using h2 ⟨n,by omega⟩ h0
theorem Zn9:∀ (k n:Nat),k<=(dig n).length->(dig n).take ((dig n).length - k)=dig (n / 256 ^ k)
 |0,n,_=>by simp
 |k + 1,n,h=>by
  by_cases h0:n=0
  ·subst h0;rw [ZbY] at h;simp at h
  ·rw [Zd6 h0] at h ⊢
   rw [List.length_append] at h ⊢;simp only [List.length_cons,List.length_nil] at h ⊢;have e:(dig (n / 256)).length + (0 + 1) - (k + 1)=(dig (n / 256)).length - k:=by omega
   rw [e,List.take_append_of_le_length (by omega),Zn9 k (n / 256) (by omega),Nat.div_div_eq_div_mul,Nat.pow_succ,Nat.mul_comm 256]
theorem Zw3 {n k:Nat} (h:k<(dig n).length):(dig n)[(dig n).length - 1 - k]'(by omega)=((n / 256 ^ k % 256:Nat):Int):=by
 have h1:=Zn9 k n (by omega);have hn:n / 256 ^ k≠0:=by
  intro h0;rw [h0,ZbY] at h1;have:=congrArg List.length h1;simp at this;omega
 rw [Zd6 hn] at h1;have h2:((dig n).take ((dig n).length - k)).getLast? =some ((n / 256 ^ k % 256:Nat):Int):=by rw [h1];simp
 rw [List.getLast?_eq_getElem?,List.length_take,Nat.min_eq_left (by omega),List.getElem?_take] at h2;split at h2
 ·rw [List.getElem?_eq_some_iff] at h2
  obtain ⟨h3,h4⟩:=h2;have e:(dig n).length - 1 - k=(dig n).length - k - 1:=by omega
  simp only [e];exact h4
 ·cases h2
def Zf4 (n:Nat):List Int:=((dig n).length:Int)::dig n
def ZaX (b:List Int):List Int:=Zf4 b.length++b
theorem ZjF {n:Nat} (h:n<18446744073709551616):∀ x∈Zf4 n,0<=x/\x<256:=by
 intro x hx;rcases List.mem_cons.1 hx with rfl|hx
 ·have:=ZgZ h;omega
 ·exact ZzT n x hx
theorem Zbx {n:Nat} (h:n<18446744073709551616):(Zf4 n).length<=9:=by
 have:=ZgZ h;unfold Zf4;simp;omega
def Zb6 (l:List Int):Option (Int × Bool × Nat):=
 match l with
 |[]=>none
 |k::rest=>
  let neg:=decide (16<=k)
  let w:=(if 16<=k then k - 16 else k).toNat
  if k<32/\w<=8/\w<=rest.length/\(w=0->k=0)/\(w≠0->rest.head?≠some 0) then some (ZkH 0 (rest.take w),neg,w + 1) else none
theorem Zlh {n:Nat} (h:n<18446744073709551616) (rest:List Int):Zb6 (Zf4 n++rest)=some ((n:Int),false,(Zf4 n).length):=by
 have h8:=ZgZ h;unfold Zb6 Zf4;simp only [List.cons_append];have e1:¬ (16:Int)<=((dig n).length:Int):=by omega
 rw [if_neg e1];rw [if_pos]
 ·simp only [Int.toNat_natCast,List.take_left',Zw2,List.length_cons,Option.some.injEq,Prod.mk.injEq,and_true,true_and]
  simpa using e1
 ·refine ⟨by omega,by omega,by simp,λ h0=>by omega,λ h0=>?_⟩
  simp only [Int.toNat_natCast] at h0;cases hd:dig n with
  |nil=>rw [hd] at h0;simp at h0
  |cons x l=>
   have:=ZuG n x l hd;simp;exact this
theorem ZnA {l:List Int} {n:Int} {neg:Bool} {k:Nat} (hb:∀ x∈l,0<=x/\x<256) (h:Zb6 l=some (n,neg,k)):0<=n/\n<18446744073709551616/\1<=k/\k<=9/\k<=l.length:=by
 unfold Zb6 at h;split at h
 ·cases h
 ·rename_i c rest
  simp only at h;generalize hw:(if 16<=c then c - 16 else c).toNat=w at h
  split at h
  ·rename_i hc
   obtain ⟨_,h8,hr,_,_⟩:=hc;simp only [Option.some.injEq,Prod.mk.injEq] at h;obtain ⟨rfl,_,rfl⟩:=h;have hb2:∀ x∈rest.take w,0<=x/\x<256:=λ x hx=>hb x (List.mem_cons_of_mem _ (List.mem_of_mem_take hx));refine ⟨Zmc (Int.le_refl _) hb2,?_,by omega,by omega,by simp;omega⟩;refine Int.lt_of_lt_of_le (Zmd (Int.le_refl _) hb2) ?_;rw [List.length_take,Nat.min_eq_left hr,Int.zero_add,Int.one_mul];have h9:256 ^ w<=256 ^ 8:=Nat.pow_le_pow_right (by omega) h8;have:((256 ^ w:Nat):Int)<=((256 ^ 8:Nat):Int):=Int.ofNat_le.2 h9;rw [Int.natCast_pow] at this;exact Int.le_trans this (by decide)
  ·cases h
structure Rd where
 bs:List Int
 bad:Bool
def Zc (most:Int) (r:Rd):Int × Rd:=
 if r.bad then (0,r) else match Zb6 r.bs with
 |some (n,neg,k)=>if neg=false/\n<=most then (n,⟨r.bs.drop k,false⟩) else (0,⟨r.bs,true⟩)
 |none=>(0,⟨r.bs,true⟩)
def ZL (most:Int) (r:Rd):List Int × Rd:=
 if r.bad then ([],r) else match Zb6 r.bs with
 |some (n,neg,k)=>if neg=false/\0<=most/\n<=most/\n<=((r.bs.length:Int) - k) then (((r.bs.drop k).take n.toNat),⟨r.bs.drop (k + n.toNat),false⟩) else ([],⟨r.bs,true⟩)
 |none=>([],⟨r.bs,true⟩)
def Z5 (r:Rd):Bool:=!r.bad && decide (r.bs.length=0)
end Go.VC
namespace Go.Proofs.YtlplemdmegpoeaaGreatDoor
section
open Go Go.VC Tryz
variable {R:Cx} {Hs Rest:List HP} {w:World}
theorem _root_.Go.VC.SlR.mono {h h':Z1} {s:Sl} {xs:List Value} (hs:∀ b o,h b=some o->h' b=some o) (a:SlR h s xs):SlR h' s xs:=
 ⟨a.len,a.cap,λ hx=>let ⟨b,off,l,T,fr,ha,hb,hl⟩:=a.mem hx;⟨b,off,l,T,fr,ha,hs _ _ hb,hl⟩⟩
abbrev ZeS:List PanicEntry:=[⟨.iface 274 (.agg #[]),false,false⟩]
theorem ZcW {b:Bool} {Q:Ending->World->Prop} (h1:b=true->Q (.returned (.tuple #[])) w) (h2:b=false->Q (.panicked ZeS) w):Calls prog 152 #[.bool b] w Q:=by
 have h:ZaV prog 152 #[.bool b] w (λ ch w'=>b=false/\ch=ZeS/\w'=w) (λ v w'=>b=true/\v=.tuple #[]/\w'=w):=by
  apply ZyB;refine Br.nb (λ h=>?_) (λ h=>?_)
  ·exact ⟨h,rfl,rfl⟩
  ·exact ⟨h,rfl,rfl⟩
 refine h.use ?_ ?_
 ·rintro v w' ⟨hb,rfl,e⟩;rw [e];exact h1 hb
 ·rintro v w' ⟨hb,rfl,e⟩;rw [e];exact h2 hb
abbrev lp (l:Nat) (s:Sl):HP:=pts l (.cells [.slice s.a s.len s.cap].toArray 47 (0,0))
abbrev Zde (s:Sl) (k:Nat):Sl:=⟨Zcn s.a k s.cap 1,s.len - k,s.cap - k⟩
theorem Zhb {l:Nat} {s:Sl} {xs:List Value} {k:Nat} (hr:SlR R.m s xs) (hw:Sat R (lp l s::Hs) w):
  ZaV prog 154 #[.pointer (some ⟨l,0,none⟩),.int .i64 k] w
   (λ ch w'=>xs.length<k/\ch=ZeS/\Sat R (lp l s::Hs) w')
   (λ v w'=>k<=xs.length/\v=.slice s.a k s.cap/\Sat R (lp l (Zde s k)::Hs) w'):=by
 have hlen:=hr.len;have hcap:=hr.cap;apply Zyz;refine Zd.mk rfl ⟨s,oA hw,ZcW (λ h=>.inl ⟨rfl,?_⟩) (λ h=>.inr ⟨_,rfl,?_⟩)⟩
 ·have h:=of_decide_eq_true h
  refine Zd.mk rfl ⟨s,oA hw,by omega,by omega,Zd.mk rfl ⟨s,oA hw,by omega,by omega,Zd.mk rfl ?_⟩⟩;rw [Int.toNat_natCast];refine Za hw (by kernel_rfl) rfl (by simp [Value.cells]) λ w hw=>?_;exact ⟨by omega,rfl,hw⟩
 ·have h:=of_decide_eq_false h
  exact ⟨by omega,rfl,hw⟩
theorem ZAM:∀ c:Fin 32,ZfM .andNot .u8 ((c.1:Nat):Int) 16=if 16<=((c.1:Nat):Int) then ((c.1:Nat):Int) - 16 else ((c.1:Nat):Int):=by decide +kernel
theorem andn {c:Int} (h0:0<=c) (h1:c<32):IntKind.i64.wrap (ZfM .andNot .u8 c 16)=if 16<=c then c - 16 else c:=by
 obtain ⟨n,rfl⟩:=Int.eq_ofNat_of_zero_le h0;have:=ZAM ⟨n,by omega⟩;simp only at this;rw [this];split<;>exact Zl (by omega) (by omega)
theorem ZvZ {n t:Int} (h0:0<=n) (h1:n<72057594037927936) (t0:0<=t) (t1:t<256):ZfM .or .u64 (Zvb .u64 n 8) (IntKind.u64.wrap t)=n * 256 + t:=by
 have e:Zvb .u64 n 8=n * 256:=by
  show IntKind.u64.wrap (n * 2 ^ 8)=_;rw [Zax (by omega) (by omega)];omega
 rw [e,Zax t0 (by omega)];obtain ⟨a,rfl⟩:=Int.eq_ofNat_of_zero_le h0;obtain ⟨b,rfl⟩:=Int.eq_ofNat_of_zero_le t0;have:=Zzw (x:=a * 256) (y:=b) (by omega) (by omega);rw [Zwm a b (by omega)] at this;rw [show ((a * 256:Nat):Int)=(a:Int) * 256 from Int.natCast_mul a 256] at this
 rw [this];exact (Int.natCast_add (a * 256) b).trans (by rw [Int.natCast_mul];rfl)
abbrev Zl5 (c:Int):Nat:=(if 16<=c then c - 16 else c).toNat
theorem Zi2 {h:Z1} {l:Nat} {s:Sl} {bs:List Int} (hb:∀ x∈bs,0<=x/\x<256) (hsub:∀ b o,h b=some o->R.m b=some o) (hr0:SlR h s (b8 bs)) (hw:Sat R (lp l s::Hs) w):
  ZaV prog 151 #[.pointer (some ⟨l,0,none⟩)] w
   (λ ch w'=>Zb6 bs=none/\ch=ZeS/\∃ s',Sat R (lp l s'::Hs) w')
   (λ v w'=>∃ n neg k s',Zb6 bs=some (n,neg,k)/\v=.tuple #[.int .u64 n,.bool neg]/\SlR h s' (b8 (bs.drop k))/\Sat R (lp l s'::Hs) w'):=by
 have hr:SlR R.m s (b8 bs):=hr0.mono hsub;apply ZyC;refine (Zhb (k:=1) hr hw).use ?_ ?_
 rotate_left
 ·rintro _ w ⟨h,rfl,hw⟩
  refine .inr ⟨_,rfl,?_,rfl,s,hw⟩;cases bs with
  |nil=>rfl
  |cons=>simp at h
 rintro _ w ⟨hlen,rfl,hw⟩;cases bs with
 |nil=>simp at hlen
 |cons c rest=>
 have hc:=hb c List.mem_cons_self;have hbr:∀ x∈rest,0<=x/\x<256:=λ x hx=>hb x (List.mem_cons_of_mem _ hx);refine .inl ⟨⟨s.a,1,s.cap⟩,rfl,?_⟩;have hr1:SlR R.m ⟨s.a,1,s.cap⟩ (b8 [c]):=hr.take (k:=1) hlen;have hrd:SlR R.m (Zde s 1) (b8 rest):=hr.drop (k:=1) hlen;have:=SlR.idxK (Hs:=lp l (Zde s 1)::Hs) (S:=λ w'=>w'=w) hr1 (eqS hw) (k:=0) (by simp) (F:=λ t=>t=c) rfl;obtain ⟨h0,h1,this⟩:=this.out;obtain ⟨a,ha,t,hat,rfl⟩:=this.out;refine Rng.mk h0 h1 (Zd.mk ha ⟨t,hat,?_⟩);have hsnone:∀ {p:Prop},¬ p->True:=λ _=>trivial;refine ⟨λ w=>(t<32/\Zl5 t<=8/\(Zl5 t=0->t=0))/\Sat R (lp l (Zde s 1)::Hs) w,?_,?_⟩
 ·have bad:(t<32/\Zl5 t<=8/\Zl5 t<=rest.length/\(Zl5 t=0->t=0)/\(Zl5 t≠0->rest.head?≠some 0)->False)->Zb6 (t::rest)=none:=λ h=>by
   unfold Zb6;simp only;rw [if_neg h]
  refine Br.d (λ h=>?_) (λ h=>?_)
  ·rw [andn hc.1 h]
   refine Br.d (λ h2=>?_) (λ h2=>?_)
   ·refine Br.d (λ h3=>?_) (λ h3=>?_)
    ·exact ZcW (λ _=>.inl ⟨rfl,⟨h,by unfold Zl5;omega,λ h4=>by unfold Zl5 at h4;omega⟩,hw⟩) (λ h=>by cases h)
    ·refine ZcW (λ h4=>.inl ⟨rfl,⟨h,by unfold Zl5;omega,λ h5=>?_⟩,hw⟩) (λ h4=>.inr ⟨_,rfl,bad ?_,rfl,_,hw⟩)
     ·simp only [ge_iff_le,Bool.not_eq_true',decide_eq_false_iff_not] at h4
      rw [if_neg h4] at h3;omega
     ·simp only [ge_iff_le,Bool.not_eq_false',decide_eq_true_eq] at h4
      rintro ⟨_,_,_,h5,_⟩;rw [if_pos h4] at h3;have:=h5 (by unfold Zl5;rw [if_pos h4];omega);omega
   ·exact ZcW (λ h=>by cases h) (λ _=>.inr ⟨_,rfl,bad (by rintro ⟨_,h3,_⟩;unfold Zl5 at h3;omega),rfl,_,hw⟩)
  ·exact ZcW (λ h=>by cases h) (λ _=>.inr ⟨_,rfl,bad (by rintro ⟨h3,_⟩;exact h h3),rfl,_,hw⟩)
 clear hat ha h0 h1;rintro _ w ⟨⟨h32,h8,hz⟩,hw⟩;rw [andn hc.1 h32];have hwid:(if 16<=t then t - 16 else t)=((Zl5 t:Nat):Int):=by
  unfold Zl5;rw [Int.toNat_of_nonneg];split<;>omega
 rw [hwid];generalize hW:Zl5 t=W at *;refine (Zhb (k:=W) hrd hw).use ?_ ?_
 rotate_left
 ·rintro _ w ⟨h,rfl,hw⟩
  refine .inr ⟨_,rfl,?_,rfl,_,hw⟩;unfold Zb6;simp only;rw [if_neg];rintro ⟨_,_,h3,_⟩;have:Zl5 t<=rest.length:=h3;simp at h;omega
 rintro _ w ⟨hl,rfl,hw⟩;have hl:W<=rest.length:=by simpa using hl
 have hrt:SlR R.m ⟨(Zde s 1).a,W,(Zde s 1).cap⟩ (b8 (rest.take W)):=by have:=hrd.take (k:=W) (by simpa using hl);rwa [<-List.map_take] at this
 have hlt:(rest.take W).length=W:=by simp;omega
 refine .inl ⟨⟨(Zde s 1).a,W,(Zde s 1).cap⟩,rfl,?_⟩;refine ⟨λ n i w=>∃ k:Nat,i=k/\k<=W/\n=ZkH 0 (rest.take k)/\(k≠0->rest.head?≠some 0)/\Sat R (lp l (Zde (Zde s 1) W)::Hs) w,λ _ i _=>W - i.toNat,⟨0,rfl,Nat.zero_le _,rfl,λ h=>absurd rfl h,hw⟩,?_⟩;rintro _ _ _ w ⟨k,rfl,hk,rfl,hh,hw⟩;refine Br.d (λ h=>?_) (λ h=>?_)
 ·have hk2:k<W:=by have:((k:Nat):Int)<(W:Int):=h;omega
  have hkr:k<rest.length:=by omega
  have:=SlR.idxK (Hs:=lp l (Zde (Zde s 1) W)::Hs) (S:=λ w'=>w'=w) hrt (eqS hw) (k:=k) (by omega) (F:=λ t=>t=rest[k]) (by simp);obtain ⟨h0,h1,this⟩:=this.out;obtain ⟨a,ha,x,hat,rfl⟩:=this.out;refine Rng.mk h0 h1 (Zd.mk ha ⟨_,hat,?_⟩);have hx:=hbr rest[k] (List.getElem_mem _);have hvb:∀ x∈rest.take k,0<=x/\x<256:=λ x hx=>hbr x (List.mem_of_mem_take hx);have hv0:=Zmc (acc:=0) (Int.le_refl _) hvb;have hv1:ZkH 0 (rest.take k)<72057594037927936:=by
   refine Int.lt_of_lt_of_le (Zmd (Int.le_refl _) hvb) ?_;rw [List.length_take,Nat.min_eq_left (by omega),Int.zero_add,Int.one_mul];have h9:256 ^ k<=256 ^ 7:=Nat.pow_le_pow_right (by omega) (by omega);have:((256 ^ k:Nat):Int)<=((256 ^ 7:Nat):Int):=Int.ofNat_le.2 h9;rw [Int.natCast_pow] at this;exact Int.le_trans this (by decide)
  have hstep:∀ w,(rest.head?≠some 0)->Sat R (lp l (Zde (Zde s 1) W)::Hs) w->
    (∃ k':Nat,IntKind.i64.wrap ((k:Int) + 1)=k'/\k'<=W/\ZfM .or .u64 (Zvb .u64 (ZkH 0 (rest.take k)) 8) (IntKind.u64.wrap rest[k])=ZkH 0 (rest.take k')/\(k'≠0->rest.head?≠some 0)/\Sat R (lp l (Zde (Zde s 1) W)::Hs) w)/\W - (IntKind.i64.wrap ((k:Int) + 1)).toNat<W - (k:Int).toNat:=λ w h1 hw=>by
   rw [Zl (by omega) (by omega)];refine ⟨⟨k + 1,by omega,by omega,?_,λ _=>h1,hw⟩,by omega⟩;rw [ZvZ hv0 hv1 hx.1 hx.2,List.take_succ_eq_append_getElem hkr,ZkF]
  refine Br.d (λ h3=>?_) (λ h3=>?_)
  ·exact ZcW (λ _=>.inl ⟨rfl,hstep _ (hh (by omega)) hw⟩) (λ h=>by cases h)
  ·have hk0:k=0:=by omega
   subst hk0;have hhead:rest.head? =some rest[0]:=by rw [List.head?_eq_getElem?,List.getElem?_eq_getElem hkr]
   refine ZcW (λ h4=>.inl ⟨rfl,hstep _ ?_ hw⟩) (λ h4=>.inr ⟨_,rfl,?_,rfl,_,hw⟩)
   ·have h4:=of_decide_eq_true h4
    rw [hhead];intro h5;simp only [Option.some.injEq] at h5;omega
   ·have h4:=of_decide_eq_false h4
    unfold Zb6;simp only;rw [if_neg];rintro ⟨_,_,_,_,h5⟩;have h6:Zl5 t≠0:=by omega
    refine h5 h6 ?_;rw [hhead];congr 1;omega
 ·have hkW:k=W:=by have:¬ ((k:Nat):Int)<(W:Int):=h;omega
  subst hkW;refine ⟨ZkH 0 (rest.take k),decide (t >= 16),k + 1,Zde (Zde s 1) k,?_,rfl,?_,?_⟩
  ·unfold Zb6;simp only
   have e:(if 16<=t then t - 16 else t).toNat=k:=hW
   rw [e,if_pos ⟨h32,h8,hl,hz,hh⟩]
  ·have:=(hr0.drop (k:=1) hlen).drop (k:=k) (by simpa using hl)
   simpa using this
  ·exact hw
end
section
open Go Go.VC Tryz
variable {R:Cx} {Hs Rest:List HP} {w:World}
theorem Zjo (n k:Nat) (hk:k<=64):Zgu .u64 (n:Int) (k:Int)=((n / 2 ^ k:Nat):Int):=by
 have e:min ((k:Int).toNat) IntKind.u64.bits=k:=by rw [Int.toNat_natCast];exact Nat.min_eq_left hk
 unfold Zgu;rw [e,Int.fdiv_eq_ediv_of_nonneg _ (by exact Int.le_of_lt (Int.pow_pos (by decide)))];rw [show ((2:Int) ^ k)=((2 ^ k:Nat):Int) from (Int.natCast_pow 2 k).symm]
 exact (Int.natCast_ediv n (2 ^ k)).symm
theorem ZBH (n:Nat):Zgu .u64 (n:Int) 32=((n / 4294967296:Nat):Int):=Zjo n 32 (by omega)
theorem ZBI (n:Nat):Zgu .u64 (n:Int) 16=((n / 65536:Nat):Int):=Zjo n 16 (by omega)
theorem shr8 (n:Nat):Zgu .u64 (n:Int) 8=((n / 256:Nat):Int):=Zjo n 8 (by omega)
theorem Zpe {n:Nat} (hn:n<18446744073709551616) (hw:Sat R Hs w):
  Zo prog 205 #[.int .u64 n] w λ v w'=>v=.int .i64 (Lib.bitLen n:Nat)/\Sat R Hs w':=by
 apply Zx7;refine ⟨λ x j w=>∃ m i:Nat,x=m/\j=i/\m<4294967296/\i<=32/\Lib.bitLen n=i + Lib.bitLen m/\Sat R Hs w,?_,?_⟩
 ·refine Br.d (λ h=>?_) (λ h=>?_)
  ·rw [ZBH]
   exact ⟨n / 4294967296,32,rfl,rfl,by omega,by omega,Lib.bitLen_shift32 n (by omega) hn,hw⟩
  ·exact ⟨n,0,rfl,rfl,by omega,by omega,by omega,hw⟩
 rintro _ _ _ w ⟨m,i,rfl,rfl,hm,hi,he,hw⟩;refine ⟨λ x j w=>∃ m i:Nat,x=m/\j=i/\m<65536/\i<=48/\Lib.bitLen n=i + Lib.bitLen m/\Sat R Hs w,?_,?_⟩
 ·refine Br.d (λ h=>?_) (λ h=>?_)
  ·rw [ZBI,Zl (by omega) (by omega)]
   exact ⟨m / 65536,i + 16,rfl,by omega,by omega,by omega,by have:=Lib.bitLen_shift16 m (by omega) (by omega);omega,hw⟩
  ·exact ⟨m,i,rfl,rfl,by omega,by omega,he,hw⟩
 clear hm hi he hw;rintro _ _ _ w ⟨m,i,rfl,rfl,hm,hi,he,hw⟩;refine Br.d (λ h=>?_) (λ h=>?_)
 ·rw [shr8,Zp5 (by omega) (by omega)]
  have h8:Lib.bitLen (m / 256)<=8:=Lib.bitLen_le8 ⟨m / 256,by omega⟩;refine ⟨UInt8.ofNat (Lib.bitLen (m / 256)),by omega,?_,?_,hw⟩
  ·rw [Int.toNat_natCast]
   obtain ⟨q,hq⟩:∃ q:Fin 256,q.1=m / 256:=⟨⟨m / 256,by omega⟩,rfl⟩;rw [<-hq];clear hq h8 hw he hi hm h
   revert q
   decide +kernel
  ·have:(UInt8.ofNat (Lib.bitLen (m / 256))).toNat=Lib.bitLen (m / 256):=by simp;omega
   have h2:=Lib.bitLen_shift8 m (by omega) (by omega);rw [this,Zl (x:=((Lib.bitLen (m / 256):Nat):Int)) (by omega) (by omega),Zl (x:=(i:Int) + 8) (by omega) (by omega),Zl (by omega) (by omega)]
   congr 1;omega
 ·rw [Zp5 (by omega) (by omega)]
  have h8:Lib.bitLen m<=8:=Lib.bitLen_le8 ⟨m,by omega⟩;refine ⟨UInt8.ofNat (Lib.bitLen m),by omega,?_,?_,hw⟩
  ·rw [Int.toNat_natCast]
   obtain ⟨q,hq⟩:∃ q:Fin 256,q.1=m:=⟨⟨m,by omega⟩,rfl⟩;rw [<-hq];clear hq h8 hw he hi hm h
   revert q
   decide +kernel
  ·have:(UInt8.ofNat (Lib.bitLen m)).toNat=Lib.bitLen m:=by simp;omega
   rw [this,Zl (x:=((Lib.bitLen m:Nat):Int)) (by omega) (by omega),Zl (by omega) (by omega)]
   congr 1;omega
theorem ZbR {n:Nat} (hn:n<18446744073709551616) (hw:Sat R Hs w):
  Zo prog 128 #[.int .u64 n] w λ v w'=>∃ t:Sl,v=.slice t.a t.len t.cap/\Sat R (Own t 5 (b8 (Zf4 n))::Hs) w':=by
 apply ZyM;refine (Zpe hn hw).use ?_;rintro _ w ⟨rfl,hw⟩;refine ⟨_,rfl,?_⟩;have hwid:=Zsw n hn;have h8:=ZgZ hn;generalize hL:(dig n).length=L at *;have e:IntKind.i64.wrap ((IntKind.i64.wrap (((Lib.bitLen n:Nat):Int) + 7)).tdiv 8)=(L:Int):=by
  rw [Zl (x:=((Lib.bitLen n:Nat):Int) + 7) (by omega) (by omega),Int.tdiv_eq_ediv_of_nonneg (by omega),Zl (by omega) (by omega)];omega
 rw [e,Zp5 (by omega) (by omega)];refine Zb hw λ b w hw=>?_;have h0:Sat R (Own ⟨some ⟨b,0,none⟩,1,1⟩ 5 (b8 [(L:Int)])::Hs) w:=Own.of_pts (xs:=b8 [(L:Int)]) (rest:=[]) hw;refine ⟨λ wd out w=>∃ k:Nat,wd=k/\k<=L/\Sat R (Own out 5 (b8 ((L:Int)::(dig n).take (L - k)))::Hs) w,λ wd _ _=>wd.toNat,⟨L,rfl,Nat.le_refl _,by simpa using h0⟩,?_⟩;clear hw h0;rintro _ _ out w ⟨k,rfl,hk,hw⟩;refine Br.d (λ h=>?_) (λ h=>?_)
 ·have e1:IntKind.i64.wrap ((k:Int) - 1)=((k - 1:Nat):Int):=by rw [Zl (by omega) (by omega)];omega
  have e2:IntKind.i64.wrap (8 * ((k - 1:Nat):Int))=((8 * (k - 1):Nat):Int):=by rw [Zl (by omega) (by omega)];omega
  rw [e1,e2,Zjo n _ (by omega)];refine Ge0.mk (by omega) ?_;have hd:=Zw3 (n:=n) (k:=k - 1) (by omega);have hlen:((L:Int)::(dig n).take (L - k)).length<=9:=by simp;omega
  refine Zfk Zvt hw (ZnE _) rfl (by rw [List.length_map];omega) (by rw [List.length_map];omega) λ t w hw=>⟨⟨k - 1,rfl,by omega,?_⟩,by show ((k - 1:Nat):Int).toNat<(k:Int).toNat;omega⟩;have e3:((L:Int)::(dig n).take (L - (k - 1)))=((L:Int)::(dig n).take (L - k))++[IntKind.u8.wrap ((n / 2 ^ (8 * (k - 1)):Nat):Int)]:=by
   have e4:L - (k - 1)=(L - k) + 1:=by omega
   rw [e4,List.take_succ_eq_append_getElem (by omega),List.cons_append]
   congr 3
   rw [ZvO,show (2:Nat) ^ (8 * (k - 1))=256 ^ (k - 1) from by rw [Nat.pow_mul],show ((n / 256 ^ (k - 1):Nat):Int) % 256=((n / 256 ^ (k - 1) % 256:Nat):Int) from (Int.natCast_emod _ _).symm,<-hd]
   congr 1;omega
  rw [e3];simpa [b8] using hw
 ·have hk0:k=0:=by omega
  subst hk0;refine ⟨out,rfl,?_⟩;have:(dig n).take (L - 0)=dig n:=List.take_of_length_le (by omega);rw [this] at hw;unfold Zf4;rw [hL];exact hw
abbrev Zbv (s:Sl) (bad:Bool):Obj:=.cells [.slice s.a s.len s.cap,.bool bad].toArray 207 (0,0)
def ZC (r:Nat) (rd:Rd):HP:=exs λ s:Sl=>ZaI [pts r (Zbv s rd.bad),ZM s (b8 rd.bs)]
theorem Sat.rd {r:Nat} {rd:Rd}:Sat R (ZC r rd::Hs) w↔∃ s:Sl,Sat R (pts r (Zbv s rd.bad)::ZM s (b8 rd.bs)::Hs) w:=by
 unfold ZC;rw [Sat.exs];exact ⟨λ⟨s,h⟩=>⟨s,Sat.star.1 h⟩,λ⟨s,h⟩=>⟨s,Sat.star.2 h⟩⟩
abbrev ZB (r:Nat):Obj:=.cells [.pointer (some ⟨r,0,none⟩)].toArray 153 (0,0)
theorem Zvm {br r:Nat} {s:Sl} {bad:Bool} {Kr:World->Prop} (hw:Sat R (pts br (ZB r)::pts r (Zbv s bad)::Hs) w) (k:∀ w,Sat R (pts br (ZB r)::pts r (Zbv s true)::Hs) w->Kr w):
  Zs prog 223 [.pointer (some ⟨br,0,none⟩)] (.panicking ZeS) Kr w:=by
 unfold Zs;refine CallsD.mono (ZuV (some ⟨br,0,none⟩) (.iface 274 (.agg #[])) Kr w ?_) ?_
 ·refine ⟨true,λ w' _=>by kernel_rfl,Br.t rfl ?_⟩
  refine Zd.mk rfl ⟨some ⟨r,0,none⟩,oA hw,Zd.mk rfl ?_⟩;have hw:=hw.swap;refine Za hw (by kernel_rfl) rfl (by simp [Value.cells]) λ w hw=>?_;exact k w hw.swap
 ·rintro e v w' ⟨hy,rfl,hk⟩
  exact ⟨hy,rfl,hk⟩
theorem ZzH {br:Nat} {Kr:World->Prop} (k:Kr w):Zs prog 223 [.pointer (some ⟨br,0,none⟩)] .returning Kr w:=by
 unfold Zs;refine CallsD.mono (ZuT (some ⟨br,0,none⟩) Kr w ?_) ?_
 ·exact ⟨false,λ w' _=>by kernel_rfl,Br.f rfl k⟩
 ·rintro e v w' ⟨hy,rfl,hk⟩
  exact ⟨hy,rfl,hk⟩
theorem Zgv {r:Nat} {rd:Rd} {one:Value} {α:Type} {f:α->List Int} {Hs1:α->List HP} {Hs2:List HP} {G:α->Prop} {N:Prop} (hw:Sat R (ZC r rd::Hs) w)
  (hone:rd.bad=false->∀ (x:Z1) (l:Nat) (s:Sl) (A B:HP) (w:World),(∀ b o,x b=some o->(R.add x).m b=some o)->SlR x s (b8 rd.bs)->Sat (R.add x) (lp l s::A::B::Hs) w->
   Zak prog cl one [.pointer (some ⟨l,0,none⟩)] w λ e w'=>
    (e=.returned (.tuple #[])/\∃ y s',G y/\SlR x s' (b8 (f y))/\Sat (R.add x) (lp l s'::A::B::Hs1 y) w')\/
    (e=.panicked ZeS/\N/\∃ s',Sat (R.add x) (lp l s'::A::B::Hs2) w')):
  Zo prog 149 #[.pointer (some ⟨r,0,none⟩),one] w λ v w'=>v=.tuple #[]/\
   ((rd.bad=true/\Sat R (ZC r rd::Hs) w')\/(rd.bad=false/\∃ y,G y/\Sat R (ZC r ⟨f y,false⟩::Hs1 y) w')\/(rd.bad=false/\N/\Sat R (ZC r ⟨rd.bs,true⟩::Hs2) w')):=by
 obtain ⟨s,hw⟩:=Sat.rd.1 hw;apply ZyE;refine Zb hw λ br w hw=>?_;refine ⟨_,oA hw,Zd.mk rfl ?_⟩;refine ⟨_,oA hw,ZcW (λ h=>.inl ⟨rfl,?_⟩) (λ h=>.inr ⟨_,rfl,?_⟩)⟩
 ·have hbad:rd.bad=false:=by simpa using h
  refine ⟨_,oA hw,Zd.mk rfl ?_⟩;refine ⟨_,oA hw,?_⟩;refine Zb hw λ l w hw=>?_;have hw:Sat R (pts l (.cells [.slice none 0 0].toArray 47 (0,0))::pts br (ZB r)::pts r (Zbv s rd.bad)::ZM s (b8 rd.bs)::Hs) w:=hw;refine Za hw (by kernel_rfl) rfl (by simp [Value.cells]) λ w hw=>?_;have hw:Sat R (lp l s::pts br (ZB r)::pts r (Zbv s rd.bad)::ZM s (b8 rd.bs)::Hs) w:=hw;have hw:Sat R (ZM s (b8 rd.bs)::lp l s::pts br (ZB r)::pts r (Zbv s rd.bad)::Hs) w:=hw.arr;obtain ⟨x,hd,_,hx,hs⟩:=ZM.lend hw;have hsub:∀ b o,x b=some o->(R.add x).m b=some o:=λ b o hb=>by
   have:=hd b (by rw [hb];simp);simp only [Cx.add,Z1.add,this,hb]
  refine Zak.mono (hone hbad x l s _ _ w hsub hs hx) ?_;rintro e w' (⟨rfl,bs',s',hg,hs',hw⟩|⟨rfl,hn,s',hw⟩)
  ·refine .inl ⟨rfl,?_⟩
   have hw:Sat (R.add x) (pts br (ZB r)::pts r (Zbv s rd.bad)::lp l s'::Hs1 bs') w':=hw.arr;refine ⟨_,oA hw,?_⟩;refine ⟨_,oA hw,Zd.mk rfl ?_⟩;have hw:Sat (R.add x) (pts r (Zbv s rd.bad)::lp l s'::pts br (ZB r)::Hs1 bs') w':=hw.arr;refine Za hw (by kernel_rfl) rfl (by simp [Value.cells]) λ w hw=>?_;refine ZzH ⟨rfl,.inr (.inl ⟨hbad,bs',hg,?_⟩)⟩;have hw:Sat (R.add x) (pts r (Zbv s' rd.bad)::lp l s'::pts br (ZB r)::Hs1 bs') w:=hw;rw [hbad] at hw;have hw:Sat (R.add x) (pts r (Zbv s' false)::Hs1 bs') w:=hw.cons λ _ h=>h.drop.drop;refine Sat.rd.2 ⟨s',?_⟩;exact (ZM.back hd hs' hw).swap
  ·refine .inr ⟨_,rfl,?_⟩
   have hw:Sat (R.add x) (pts br (ZB r)::pts r (Zbv s rd.bad)::lp l s'::Hs2) w':=hw.arr;refine Zvm hw λ w hw=>⟨rfl,.inr (.inr ⟨hbad,hn,?_⟩)⟩;have hw:Sat (R.add x) (pts r (Zbv s true)::Hs2) w:=hw.drop.cons λ _ h=>h.drop;refine Sat.rd.2 ⟨s,?_⟩;exact (ZM.back hd hs hw).swap
 ·have hbad:rd.bad=true:=by simpa using h
  have hw:Sat R (pts br (ZB r)::pts r (Zbv s rd.bad)::ZM s (b8 rd.bs)::Hs) w:=hw;refine Zvm hw λ w hw=>⟨rfl,.inl ⟨hbad,?_⟩⟩;rw [<-hbad] at hw;exact Sat.rd.2 ⟨s,hw.drop⟩
end
section
open Go Go.VC Tryz
variable {R:Cx} {Hs Rest:List HP} {w:World}
theorem Zak.mk {g:FuncId} {captured:Array Value} {args:List Value} {Q:Ending->World->Prop} (hc:cl g=true) (h:Calls prog g (args++captured.toList).toArray w Q):Zak prog cl (.func (.func g) #[] captured) args w Q:=by
 unfold Zak;simp only [hc];exact h
theorem Zdj {s:Sl} {bs:List Int} (hs:Ro R s (b8 bs)) (hl:bs.length<=1099511627776) (hw:Sat R Hs w):
  Zo prog 91 #[.slice s.a s.len s.cap] w λ v w'=>∃ r,v=.pointer (some ⟨r,0,none⟩)/\Sat R (ZC r ⟨bs,false⟩::Hs) w':=by
 apply Zz9;refine (ZeB hs hl hw).use ?_;rintro _ w ⟨t,rfl,hw⟩;refine ⟨t,rfl,?_⟩;have hw:=Own.reads hw;refine Zb hw λ r w hw=>⟨r,rfl,Sat.rd.2 ⟨t,hw⟩⟩
theorem ZbK {r:Nat} {rd:Rd} (hw:Sat R (ZC r rd::Hs) w):
  Zo prog 96 #[.pointer (some ⟨r,0,none⟩)] w λ v w'=>v=.bool (Z5 rd)/\Sat R (ZC r rd::Hs) w':=by
 obtain ⟨s,hw⟩:=Sat.rd.1 hw;have hsl:s.len=rd.bs.length:=by
  obtain ⟨x,_,_,_,hx⟩:=ZM.lend hw.swap;have:=hx.len;simpa using this
 apply Zz4;refine Zd.mk rfl ⟨rd.bad,oA hw,Br.nb (λ h=>?_) (λ h=>?_)⟩
 ·refine Zd.mk rfl ?_
  refine ⟨s,oA hw,?_,Sat.rd.2 ⟨s,hw⟩⟩;unfold Z5;rw [h,hsl]
  congr 1
  simp only [Bool.not_false,Bool.true_and];cases rd.bs with
  |nil=>rfl
  |cons=>simp;omega
 ·refine ⟨?_,Sat.rd.2 ⟨s,hw⟩⟩
  unfold Z5;rw [h];rfl
theorem Zrv {h:Z1} {l bm bo:Nat} {s:Sl} {bs:List Int} {most:Int} (hb:∀ x∈bs,0<=x/\x<256) (hsub:∀ b o,h b=some o->R.m b=some o) (hr:SlR h s (b8 bs))
  (hw:Sat R (lp l s::pts bo (.cells [.int .u64 0].toArray 141 (0,0))::pts bm (.cells [.int .u64 most].toArray 141 (0,0))::Hs) w):
  ZaV prog 150 #[.pointer (some ⟨l,0,none⟩),.pointer (some ⟨bm,0,none⟩),.pointer (some ⟨bo,0,none⟩)] w
   (λ ch w'=>ch=ZeS/\(∀ n k,Zb6 bs=some (n,false,k)->¬ n<=most)/\∃ s',Sat R (lp l s'::pts bo (.cells [.int .u64 0].toArray 141 (0,0))::pts bm (.cells [.int .u64 most].toArray 141 (0,0))::Hs) w')
   (λ v w'=>v=.tuple #[]/\∃ n k s',Zb6 bs=some (n,false,k)/\n<=most/\SlR h s' (b8 (bs.drop k))/\
    Sat R (lp l s'::pts bo (.cells [.int .u64 n].toArray 141 (0,0))::pts bm (.cells [.int .u64 most].toArray 141 (0,0))::Hs) w'):=by
 apply ZyD;refine (Zi2 hb hsub hr hw).use ?_ ?_
 rotate_left
 ·rintro _ w ⟨hp,rfl,s',hw⟩
  refine .inr ⟨_,rfl,rfl,?_,s',hw⟩;intro n k h;rw [hp] at h;cases h
 rintro _ w ⟨n,neg,k,s',hp,rfl,hs',hw⟩;refine .inl ⟨n,neg,rfl,Br.nb (λ h=>?_) (λ h=>?_)⟩
 ·subst h
  have hw2:Sat R (pts bm (.cells [.int .u64 most].toArray 141 (0,0))::lp l s'::pts bo (.cells [.int .u64 0].toArray 141 (0,0))::Hs) w:=hw.arr;refine Zd.mk rfl ?_;refine ⟨most,oA hw,ZcW (λ h=>.inl ⟨rfl,?_⟩) (λ h=>.inr ⟨_,rfl,rfl,?_,s',hw⟩)⟩
  ·have h:=of_decide_eq_true h
   have hw:Sat R (pts bo (.cells [.int .u64 0].toArray 141 (0,0))::lp l s'::pts bm (.cells [.int .u64 most].toArray 141 (0,0))::Hs) w:=hw.swap;refine Za hw (by kernel_rfl) rfl (by simp [Value.cells]) λ w hw=>?_;exact ⟨rfl,n,k,s',hp,h,hs',hw.swap⟩
  ·have h:=of_decide_eq_false h
   intro n' k' hp';rw [hp] at hp';simp only [Option.some.injEq,Prod.mk.injEq,true_and] at hp';rw [<-hp'.1];exact h
 ·subst h
  refine ZcW (λ h=>by cases h) (λ _=>.inr ⟨_,rfl,rfl,?_,s',hw⟩);intro n' k' hp';rw [hp] at hp';simp at hp'
theorem Zcu {r:Nat} {rd:Rd} {most:Int} (hb:∀ x∈rd.bs,0<=x/\x<256) (hw:Sat R (ZC r rd::Hs) w):
  Zo prog 93 #[.pointer (some ⟨r,0,none⟩),.int .u64 most] w λ v w'=>v=.int .u64 (Zc most rd).1/\Sat R (ZC r (Zc most rd).2::Hs) w':=by
 apply Zz7;refine Zb hw λ bm w hw=>Zb hw λ bo w hw=>?_;have hw:Sat R (pts bo (.cells [.int .u64 0].toArray 141 (0,0))::pts bm (.cells [.int .u64 most].toArray 141 (0,0))::ZC r rd::Hs) w:=hw;refine Za hw (by kernel_rfl) rfl (by simp [Value.cells]) λ w hw=>?_;have hw:=hw.re (pts bo (.cells [.int .u64 0].toArray 141 (0,0)));have hw:Sat R (ZC r rd::pts bo (.cells [.int .u64 0].toArray 141 (0,0))::pts bm (.cells [.int .u64 most].toArray 141 (0,0))::Hs) w:=hw.arr;refine (Zgv (α:=Int × Nat) (f:=λ y=>rd.bs.drop y.2) (G:=λ y=>Zb6 rd.bs=some (y.1,false,y.2)/\y.1<=most) (N:=∀ n k,Zb6 rd.bs=some (n,false,k)->¬ n<=most)
  (Hs1:=λ y=>pts bo (.cells [.int .u64 y.1].toArray 141 (0,0))::pts bm (.cells [.int .u64 most].toArray 141 (0,0))::Hs)
  (Hs2:=pts bo (.cells [.int .u64 0].toArray 141 (0,0))::pts bm (.cells [.int .u64 most].toArray 141 (0,0))::Hs) hw ?_).use ?_
 ·intro _ x l s A B w hsub hs hw
  refine Zak.mk (by kernel_rfl) ?_;have hw2:Sat (R.add x) (lp l s::pts bo (.cells [.int .u64 0].toArray 141 (0,0))::pts bm (.cells [.int .u64 most].toArray 141 (0,0))::A::B::Hs) w:=hw.arr;refine (Zrv (h:=x) hb hsub hs hw2).use ?_ ?_
  ·rintro _ w ⟨rfl,n,k,s',hp,hn,hs',hw⟩
   exact .inl ⟨rfl,(n,k),s',⟨hp,hn⟩,hs',hw.arr⟩
  ·rintro _ w ⟨rfl,hn,s',hw⟩
   exact .inr ⟨rfl,hn,s',hw.arr⟩
 ·rintro _ w ⟨rfl,h⟩
  refine ⟨rfl,?_⟩;rcases h with ⟨hbad,hw⟩|⟨hbad,⟨n,k⟩,⟨hp,hn⟩,hw⟩|⟨hbad,hno,hw⟩
  ·have hw:Sat R (pts bo (.cells [.int .u64 0].toArray 141 (0,0))::ZC r rd::pts bm (.cells [.int .u64 most].toArray 141 (0,0))::Hs) w:=hw.swap
   refine ⟨0,oA hw,?_⟩;unfold Zc;rw [if_pos hbad];exact ⟨rfl,hw.drop.cons λ _ h=>h.drop⟩
  ·have hw:Sat R (pts bo (.cells [.int .u64 n].toArray 141 (0,0))::ZC r ⟨rd.bs.drop k,false⟩::pts bm (.cells [.int .u64 most].toArray 141 (0,0))::Hs) w:=hw.swap
   refine ⟨n,oA hw,?_⟩;unfold Zc;rw [if_neg (by rw [hbad];simp),hp];simp only;rw [if_pos (by simpa using hn)];exact ⟨rfl,hw.drop.cons λ _ h=>h.drop⟩
  ·have hw:Sat R (pts bo (.cells [.int .u64 0].toArray 141 (0,0))::ZC r ⟨rd.bs,true⟩::pts bm (.cells [.int .u64 most].toArray 141 (0,0))::Hs) w:=hw.swap
   refine ⟨0,oA hw,?_⟩;have e:Zc most rd=(0,⟨rd.bs,true⟩):=by
    unfold Zc;rw [if_neg (by rw [hbad];simp)];cases hp:Zb6 rd.bs with
    |none=>rfl
    |some p=>
     obtain ⟨n,neg,k⟩:=p;simp only;rw [if_neg];rintro ⟨rfl,h⟩;exact hno n k hp h
   rw [e];exact ⟨rfl,hw.drop.cons λ _ h=>h.drop⟩
theorem Ze {most:Int} {rd:Rd} (hb:∀ x∈rd.bs,0<=x/\x<256):∀ x∈(Zc most rd).2.bs,0<=x/\x<256:=by
 unfold Zc;split
 ·exact hb
 ·split
  ·split
   ·exact λ x hx=>hb x (List.mem_of_mem_drop hx)
   ·exact hb
  ·exact hb
theorem Zy {most:Int} {rd:Rd} (hb:∀ x∈rd.bs,0<=x/\x<256) (hm:0<=most):0<=(Zc most rd).1/\(Zc most rd).1<=most:=by
 unfold Zc;split
 ·exact ⟨Int.le_refl _,hm⟩
 ·split
  ·rename_i n neg k hp
   split
   ·rename_i h;exact ⟨(ZnA hb hp).1,h.2⟩
   ·exact ⟨Int.le_refl _,hm⟩
  ·exact ⟨Int.le_refl _,hm⟩
end
end Go.Proofs.YtlplemdmegpoeaaGreatDoor

namespace Go.VC
section
variable {P:Program} {R:Cx} {Hs Rest:List HP} {w:World} {s t:Sl} {T T2:TypeId}
theorem Zfn (k:IntKind) (xs:List Int):Za0 (xs.map (Value.int k))=true:=by
 induction xs with
 |nil=>rfl
 |cons x xs ih=>simp only [List.map_cons,Za0,List.all_cons,Bool.and_eq_true];exact ⟨rfl,ih⟩
theorem Zc4 {b n:Nat} {l:List Value} {fr:Nat × Nat} (hw:Sat R (pts b (.cells l.toArray T fr)::Hs) w) (hn:n=l.length:=by rfl) (hf:ZnG l.length fr:=by first|assumption|exact Or.inl rfl):Sat R (Own ⟨some ⟨b,0,none⟩,n,n⟩ T l::Hs) w:=by
 subst hn;have:=Own.of_pts (xs:=l) (rest:=[]) (by simpa using hw) (by simpa using hf);simpa using this
theorem Zkv {t1 t2 ty e':TypeId} {bytes n:Nat} {k:IntKind} (E:El P t1 t2 T bytes) {xs ys:List Int} {K:Sl->World->Prop} (h2:P.underlying t2=some (.slice e'))
  (hw:Sat R (Own s T (xs.map (Value.int k))::Hs) w) (hy:Ro R t (ys.map (Value.int k))) (hn:xs.length + ys.length<=n) (hb:2 * n * bytes<=281474976710656) (hb':n<=9223372036854775807)
  (kk:∀ s' w',Sat R (Own s' T ((xs++ys).map (Value.int k))::Hs) w'->K s' w'):
  ∃ w',∃ t':Sl,(Builtin.append_ #[t1,t2] ty #[.slice s.a s.len s.cap,.slice t.a t.len t.cap]).run P w=.ok (.slice t'.a t'.len t'.cap) w'/\K t' w':=by
 have hsrc:Src P 1 t2 (.slice t.a t.len t.cap) ys.length (ys.map (Value.int k)) w:=by
  have:=ZvY h2 hw hy (Zfn _ _);simpa using this
 refine ZcL E (s:=s) hw hsrc (Zfn _ _) ?_ (by rw [List.length_map];omega) λ s2 w hw=>kk s2 w (by simpa using hw);rw [List.length_map];have:2 * (xs.length + ys.length) * bytes<=2 * n * bytes:=Nat.mul_le_mul_right _ (by omega);omega
theorem ZfP {t1 t2 ty e':TypeId} {bytes n:Nat} {k:IntKind} (E:El P t1 t2 T bytes) {xs ys:List Int} {K:Sl->World->Prop} (h2:P.underlying t2=some (.slice e'))
  (hw:Sat R (Own s T (xs.map (Value.int k))::Own t T2 (ys.map (Value.int k))::Hs) w) (hn:xs.length + ys.length<=n) (hb:2 * n * bytes<=281474976710656) (hb':n<=9223372036854775807)
  (kk:∀ s' w',Sat R (Own s' T ((xs++ys).map (Value.int k))::Own t T2 (ys.map (Value.int k))::Hs) w'->K s' w'):
  ∃ w',∃ t':Sl,(Builtin.append_ #[t1,t2] ty #[.slice s.a s.len s.cap,.slice t.a t.len t.cap]).run P w=.ok (.slice t'.a t'.len t'.cap) w'/\K t' w':=by
 obtain ⟨R',hr,_,hw,back⟩:=Own.lend hw.swap (by rw [List.length_map];omega);exact Zkv E h2 hw hr hn hb hb' λ s' w' hw=>kk s' w' (back hw).swap
theorem Ro.ix {k:IntKind} {xs:List Int} {S:World->Prop} {i:Int} (hr:Ro R s (xs.map (Value.int k))) (hS:∀ w,S w->Sat R Hs w) (j:Nat) (hi:i=j) (hj:j<xs.length) {F:Int->Prop} (h:F xs[j]):
  Rng i s.len (Zd s.a λ a=>∃ t:Int,(At S (a.add i.toNat) [.int k t])/\F t):=by
 subst hi;exact hr.idxK hS hj h
end
section
variable {P:Program} {R R' R'':Cx} {Hs Rest:List HP} {w:World} {s:Sl} {T:TypeId}
structure Cx.Ext (R R':Cx):Prop where
 m:∀ b o,R.m b=some o->R'.m b=some o
 like:R'.like R
theorem Cx.Ext.refl:R.Ext R:=⟨λ _ _ h=>h,rfl,rfl,rfl⟩
theorem Cx.Ext.trans (h:R.Ext R') (h':R'.Ext R''):R.Ext R'':=
 ⟨λ b o hb=>h'.m b o (h.m b o hb),h.like.1.trans h'.like.1,h.like.2.1.trans h'.like.2.1,h.like.2.2.trans h'.like.2.2⟩
theorem Cx.Ext.add {h:Z1}:R.Ext (R.add h):=⟨λ b o hb=>by simp only [Cx.add,Z1.add,hb],rfl,rfl,rfl⟩
theorem Cx.Ext.back (h:R.Ext R') (hw:Sat R' Hs w):Sat R Hs w:=Sat.ro_of h.m h.like hw
theorem Cx.Ext.ro {xs:List Value} (h:R.Ext R') (a:Ro R s xs):Ro R' s xs:=
 ⟨a.len,a.bound,λ hx=>let ⟨b,off,l,T,fr,h1,h2,h3⟩:=a.mem hx;⟨b,off,l,T,fr,h1,h.m _ _ h2,h3⟩⟩
theorem Cx.Ext.roN {n:Nat} {xs:List (List Value)} (h:R.Ext R') (a:RoN n R s xs):RoN n R' s xs:=
 ⟨a.wid,a.len,λ hx=>let ⟨b,off,l,T,fr,h1,h2,h3⟩:=a.mem hx;⟨b,off,l,T,fr,h1,h.m _ _ h2,h3⟩⟩
theorem Cx.Ext.slR {xs:List Value} (h:R.Ext R') (a:SlR R.m s xs):SlR R'.m s xs:=
 ⟨a.len,a.cap,λ hx=>let ⟨b,off,l,T,fr,h1,h2,h3⟩:=a.mem hx;⟨b,off,l,T,fr,h1,h.m _ _ h2,h3⟩⟩
theorem ZM.leak {xs:List Value} (h:Sat R (ZM s xs::Hs) w):∃ R':Cx,R.Ext R'/\SlR R'.m s xs/\Sat R' Hs w:=by
 obtain ⟨x,_,h1,h2,_⟩:=ZM.lend h;exact ⟨_,.add,h1,h2⟩
theorem Own.leak {xs:List Value} (h:Sat R (Own s T xs::Hs) w):∃ R':Cx,R.Ext R'/\SlR R'.m s xs/\Sat R' Hs w:=ZM.leak (Own.reads h)
theorem ZP.leak {n:Nat} {rows:List (List Value)} (h:Sat R (ZP n s T rows::Hs) w):∃ R':Cx,R.Ext R'/\RoN n R' s rows/\Sat R' Hs w:=by
 obtain ⟨R',h1,⟨x,rfl⟩,h2,_⟩:=ZP.lend h;exact ⟨_,.add,h1,h2⟩
end
end Go.VC
namespace Go.Proofs.YtlplemdmegpoeaaGreatDoor
section
open Go Go.VC Tryz
set_option maxRecDepth 10000
def B166 (c:Sl) (K:Value->World->Prop) (w:World):Prop:=
 Br c.a.isNone
 (K (.slice none 0 0) w)
 (New (.cells #[] 3 (0,0)) (λ e f=>
 ∃ d:World,∃ b:Sl,((Builtin.append_ #[30,30] 30 #[.slice ((some ⟨e,0,none⟩)) 0 0,c.v]).run prog f=.ok (b.v) d)/\
 K (b.v) d) w)
theorem Zyp (b:Sl) (K:Value->World->Prop) (w:World) (h:B166 b K w):Zo prog 166 #[b.v] w K:=cq (sk:=.leaf) h func166
def B212 (b:Sl) (e:Value) (K:Value->World->Prop) (w:World):Prop:=
 Calls prog 272 #[b.v,e] w λ d f=>
 ∃ c,(d=.returned (.int .i64 c))/\
 K (.bool (decide (c >= 0))) f
theorem Zx5 (b:Sl) (c:Value) (K:Value->World->Prop) (w:World) (h:B212 b c K w):Zo prog 212 #[b.v,c] w K:=cq (sk:=.leaf) h func212
def B272 (e:Sl) (m:Value) (K:Value->World->Prop) (w:World):Prop:=
 ∃ (d:Int->World->Prop) (j:Int->World->Nat),(d 0 w)/\∀ (o:Env) (b:Int) (c:World),d b c->
 Br (decide (b<(↑e.len:Int)))
 (Rng b e.len (Zd e.a λ k=>
 ∃ g,(Aw c (Addr.add k b.toNat) [.int .i64 g])/\
 Zak prog cl m [.int .i64 g] c λ l f=>
 ∃ i,(l=.returned (.bool i))/\
 Br i
 (K (.int .i64 b) f)
 ((d (IntKind.i64.wrap (b + 1)) f)/\j (IntKind.i64.wrap (b + 1)) f<j b c)))
 (K (.int .i64 ((-1))) c)
def ZA9:Sk:=(.seq .leaf (.seq (.seq .leaf (.block (.loop [8] [(.int .i64)] [4,5,8,9,10,11,12,13,14,15,16,17,18] .leaf))) .leaf))
theorem Zxu (b:Sl) (c:Value) (K:Value->World->Prop) (w:World) (h:B272 b c K w):Zo prog 272 #[b.v,c] w K:=cq (sk:=ZA9) h func272
def B249 (b:Sl) (d:Int) (c:Sl) (K:Value->World->Prop) (w:World):Prop:=
 ((0:Int)<=d)/\
 ((d:Int)<=(↑b.len:Int))/\
 Br ((↑c.len:Int)==0)
 (K (.slice b.a b.len b.cap) w)
 (Br (d==(↑b.len:Int))
 (∃ i:World,∃ f:Sl,((Builtin.append_ #[30,30] 30 #[.slice b.a b.len b.cap,.slice c.a c.len c.cap]).run prog w=.ok (.slice f.a f.len f.cap) i)/\
 K (.slice f.a f.len f.cap) i)
 (Br (decide (IntKind.i64.wrap ((↑b.len:Int) + (↑c.len:Int))>(↑b.cap:Int)))
 (((0:Int)<=d)/\
 ((d:Int)<=(↑b.cap:Int))/\
 ∃ k:World,∃ e:Sl,((Builtin.append_ #[30,3] 30 #[.slice b.a d.toNat b.cap,.int .i64 (IntKind.i64.wrap (IntKind.i64.wrap ((↑b.len:Int) + (↑c.len:Int)) - d))]).run prog w=.ok (.slice e.a e.len e.cap) k)/\
 ((0:Int)<=d)/\
 ((d:Int)<=(↑e.len:Int))/\
 ∃ l:World,∃ s:Int,((Builtin.copy_ #[30,30] 3 #[.slice (Zcn e.a d.toNat e.cap 1) (e.len - d.toNat) (e.cap - d.toNat),.slice c.a c.len c.cap]).run prog k=.ok (.int .i64 s) l)/\
 Drw l λ C z=>
 ((0:Int)<=IntKind.i64.wrap (d + (↑c.len:Int)))/\
 ((IntKind.i64.wrap (d + (↑c.len:Int)):Int)<=(↑e.len:Int))/\
 ((0:Int)<=d)/\
 ((d:Int)<=(↑b.len:Int))/\
 ∃ m:World,∃ t:Int,((Builtin.copy_ #[30,30] 3 #[.slice (Zcn e.a (IntKind.i64.wrap (d + (↑c.len:Int))).toNat e.cap 1) (e.len - (IntKind.i64.wrap (d + (↑c.len:Int))).toNat) (e.cap - (IntKind.i64.wrap (d + (↑c.len:Int))).toNat),.slice (Zcn b.a d.toNat b.cap 1) (b.len - d.toNat) (b.cap - d.toNat)]).run prog z=.ok (.int .i64 t) m)/\
 K (.slice e.a e.len e.cap) m)
 (((0:Int)<=IntKind.i64.wrap ((↑b.len:Int) + (↑c.len:Int)))/\
 ((IntKind.i64.wrap ((↑b.len:Int) + (↑c.len:Int)):Int)<=(↑b.cap:Int))/\
 ((0:Int)<=IntKind.i64.wrap (d + (↑c.len:Int)))/\
 ((IntKind.i64.wrap (d + (↑c.len:Int)):Int)<=(↑(IntKind.i64.wrap ((↑b.len:Int) + (↑c.len:Int))).toNat:Int))/\
 Ext prog 282 #[.slice c.a c.len c.cap,.slice (Zcn b.a (IntKind.i64.wrap (d + (↑c.len:Int))).toNat b.cap 1) ((IntKind.i64.wrap ((↑b.len:Int) + (↑c.len:Int))).toNat - (IntKind.i64.wrap (d + (↑c.len:Int))).toNat) (b.cap - (IntKind.i64.wrap (d + (↑c.len:Int))).toNat)] w λ q n=>
 ∃ g,(q=.returned (.bool g))/\
 Br (!g)
 (Drw n λ D A=>
 ((0:Int)<=IntKind.i64.wrap (d + (↑c.len:Int)))/\
 ((IntKind.i64.wrap (d + (↑c.len:Int)):Int)<=(↑(IntKind.i64.wrap ((↑b.len:Int) + (↑c.len:Int))).toNat:Int))/\
 ((0:Int)<=d)/\
 ((d:Int)<=(↑(IntKind.i64.wrap ((↑b.len:Int) + (↑c.len:Int))).toNat:Int))/\
 ∃ o:World,∃ u:Int,((Builtin.copy_ #[30,30] 3 #[.slice (Zcn b.a (IntKind.i64.wrap (d + (↑c.len:Int))).toNat b.cap 1) ((IntKind.i64.wrap ((↑b.len:Int) + (↑c.len:Int))).toNat - (IntKind.i64.wrap (d + (↑c.len:Int))).toNat) (b.cap - (IntKind.i64.wrap (d + (↑c.len:Int))).toNat),.slice (Zcn b.a d.toNat b.cap 1) ((IntKind.i64.wrap ((↑b.len:Int) + (↑c.len:Int))).toNat - d.toNat) (b.cap - d.toNat)]).run prog A=.ok (.int .i64 u) o)/\
 ((0:Int)<=d)/\
 ((d:Int)<=(↑(IntKind.i64.wrap ((↑b.len:Int) + (↑c.len:Int))).toNat:Int))/\
 ∃ p:World,∃ v:Int,((Builtin.copy_ #[30,30] 3 #[.slice (Zcn b.a d.toNat b.cap 1) ((IntKind.i64.wrap ((↑b.len:Int) + (↑c.len:Int))).toNat - d.toNat) (b.cap - d.toNat),.slice c.a c.len c.cap]).run prog o=.ok (.int .i64 v) p)/\
 K (.slice b.a ((IntKind.i64.wrap ((↑b.len:Int) + (↑c.len:Int))).toNat) b.cap) p)
 (((0:Int)<=(↑b.len:Int))/\
 (((↑b.len:Int):Int)<=(↑(IntKind.i64.wrap ((↑b.len:Int) + (↑c.len:Int))).toNat:Int))/\
 ∃ j:World,∃ x:Int,((Builtin.copy_ #[30,30] 3 #[.slice (Zcn b.a (↑b.len:Int).toNat b.cap 1) ((IntKind.i64.wrap ((↑b.len:Int) + (↑c.len:Int))).toNat - (↑b.len:Int).toNat) (b.cap - (↑b.len:Int).toNat),.slice c.a c.len c.cap]).run prog n=.ok (.int .i64 x) j)/\
 ((0:Int)<=d)/\
 ((d:Int)<=(↑(IntKind.i64.wrap ((↑b.len:Int) + (↑c.len:Int))).toNat:Int))/\
 Calls prog 283 #[.slice (Zcn b.a d.toNat b.cap 1) ((IntKind.i64.wrap ((↑b.len:Int) + (↑c.len:Int))).toNat - d.toNat) (b.cap - d.toNat),.int .i64 ((↑c.len:Int))] j λ r y=>
 (r=.returned (.tuple #[]))/\
 K (.slice b.a ((IntKind.i64.wrap ((↑b.len:Int) + (↑c.len:Int))).toNat) b.cap) y))))
theorem ZxB (b:Sl) (d:Int) (c:Sl) (K:Value->World->Prop) (w:World) (h:B249 b d c K w):Zo prog 249 #[.slice b.a b.len b.cap,.int .i64 d,.slice c.a c.len c.cap] w K:=cq (sk:=.leaf) h func249
def B248 (e:Sl) (k:Int) (K:Value->World->Prop) (w:World):Prop:=
 ∃ (g:Int->Int->World->Prop) (j:Int->Int->World->Nat),(g 0 ((↑e.len:Int)) w)/\∀ (A:Env) (b:Int) (c:Int) (d:World),g b c d->
 Br (decide (b<c))
 (Rng (IntKind.i64.wrap (Zgu IntKind.u64 (IntKind.u64.wrap (IntKind.i64.wrap (b + c))) 1)) e.len (Zd e.a λ s=>
 ∃ l,(Aw d (Addr.add s ((IntKind.i64.wrap (Zgu IntKind.u64 (IntKind.u64.wrap (IntKind.i64.wrap (b + c))) 1)).toNat)) [.int .i64 l])/\
 Calls prog 267 #[.int .i64 l,.int .i64 k] d λ v i=>
 ∃ m,(v=.returned (.bool m))/\
 Br m
 ((g (IntKind.i64.wrap (IntKind.i64.wrap (Zgu IntKind.u64 (IntKind.u64.wrap (IntKind.i64.wrap (b + c))) 1) + 1)) c i)/\j (IntKind.i64.wrap (IntKind.i64.wrap (Zgu IntKind.u64 (IntKind.u64.wrap (IntKind.i64.wrap (b + c))) 1) + 1)) c i<j b c d)
 ((g b (IntKind.i64.wrap (Zgu IntKind.u64 (IntKind.u64.wrap (IntKind.i64.wrap (b + c))) 1)) i)/\j b (IntKind.i64.wrap (Zgu IntKind.u64 (IntKind.u64.wrap (IntKind.i64.wrap (b + c))) 1)) i<j b c d)))
 (Br (decide (b<(↑e.len:Int)))
 (Rng b e.len (Zd e.a λ t=>
 ∃ n,(Aw d (Addr.add t b.toNat) [.int .i64 n])/\
 Br (n==k)
 (K (.tuple #[.int .i64 b,.bool true]) d)
 (Rng b e.len (Zd e.a λ u=>
 ∃ o,(Aw d (Addr.add u b.toNat) [.int .i64 o])/\
 Calls prog 281 #[.int .i64 o] d λ x r=>
 ∃ p,(x=.returned (.bool p))/\
 Br p
 (Calls prog 281 #[.int .i64 k] r λ y z=>
 ∃ q,(y=.returned (.bool q))/\
 K (.tuple #[.int .i64 b,.bool q]) z)
 (K (.tuple #[.int .i64 b,.bool false]) r)))))
 (K (.tuple #[.int .i64 b,.bool false]) d))
def ZBb:Sk:=(.seq .leaf (.seq .leaf (.seq .leaf (.seq (.block (.loop [7,8] [(.int .i64),(.int .i64)] [7,8,9,13,14,15,16,17,18,19,20,21,22,23,24,25,26,27,28,29,30] .leaf)) .leaf))))
theorem ZxC (b:Sl) (c:Int) (K:Value->World->Prop) (w:World) (h:B248 b c K w):Zo prog 248 #[b.v,.int .i64 c] w K:=cq (sk:=ZBb) h func248
def B267 (a:Int) (b:Int) (K:Value->World->Prop) (w:World):Prop:=
 Calls prog 278 #[.int .i64 a] w λ g e=>
 ∃ c,(g=.returned (.bool c))/\
 Br c
 (Calls prog 278 #[.int .i64 b] e λ i f=>
 ∃ d,(i=.returned (.bool d))/\
 Br (!d)
 (K (.bool true) f)
 (K (.bool (decide (a<b))) f))
 (K (.bool (decide (a<b))) e)
theorem Zxv (a:Int) (b:Int) (K:Value->World->Prop) (w:World) (h:B267 a b K w):Zo prog 267 #[.int .i64 a,.int .i64 b] w K:=cq (sk:=.leaf) h func267
def B281 (a:Int) (K:Value->World->Prop) (w:World):Prop:=
 K (.bool (a !=a)) w
theorem Zxn (a:Int) (K:Value->World->Prop) (w:World) (h:B281 a K w):Zo prog 281 #[.int .i64 a] w K:=cq (sk:=.leaf) h func281
def B278 (a:Int) (K:Value->World->Prop) (w:World):Prop:=
 K (.bool (a !=a)) w
theorem ZsQ (a:Int) (K:Value->World->Prop) (w:World) (h:B278 a K w):Zo prog 278 #[.int .i64 a] w K:=cq (sk:=.leaf) h func278
def B165 (s:Int) (j:Sl) (K:Value->World->Prop) (w:World):Prop:=
 New (.cells #[.int .i64 s,j.v] 37 (0,0)) (λ d c=>
 ∃ o,(Aw c ⟨d,0,none⟩ [.int .i64 o])/\
 Br (decide (o<1))
 (K (.bool false) c)
 (∃ p,(Aw c ⟨d,0,none⟩ [.int .i64 p])/\
 Br (decide (p>60))
 (K (.bool false) c)
 (∃ g:Sl,(Aw c ⟨d,0 + 1,none⟩ [g.v])/\
 Br (decide ((↑g.len:Int)<1))
 (K (.bool false) c)
 (∃ i:Sl,(Aw c ⟨d,0 + 1,none⟩ [i.v])/\
 Br (decide ((↑i.len:Int)>4))
 (K (.bool false) c)
 (∃ e:Sl,(Aw c ⟨d,0 + 1,none⟩ [e.v])/\
 Calls prog 212 #[e.v,.func (.func 237) #[] #[]] c λ q k=>
 ∃ l,(q=.returned (.bool l))/\
 Br l
 (K (.bool false) k)
 (∃ m,∃ f:Sl,(Aw k ⟨d,0,none⟩ [.int .i64 m,f.v])/\
 Calls prog 236 #[.agg #[.int .i64 m,f.v]] k λ r t=>
 ∃ n,(r=.returned (.int .i64 n))/\
 K (.bool (decide (n<=10))) t)))))) w
theorem Zyq (c:Int) (b:Sl) (K:Value->World->Prop) (w:World) (h:B165 c b K w):Zo prog 165 #[.agg #[.int .i64 c,b.v]] w K:=cq (sk:=.leaf) h func165
def B237 (a:Int) (K:Value->World->Prop) (w:World):Prop:=
 Br (decide (a<1))
 (K (.bool true) w)
 (K (.bool (decide (a>10))) w)
theorem ZxL (a:Int) (K:Value->World->Prop) (w:World) (h:B237 a K w):Zo prog 237 #[.int .i64 a] w K:=cq (sk:=.leaf) h func237
def B236 (o:Int) (g:Sl) (K:Value->World->Prop) (w:World):Prop:=
 New (.cells #[.int .i64 o,g.v] 37 (0,0)) (λ n k=>
 ∃ c:Sl,(Aw k ⟨n,0 + 1,none⟩ [c.v])/\
 ∃ (f:Int->Int->World->Prop) (l:Int->Int->World->Nat),(f 0 0 k)/\∀ (p:Env) (e:Int) (b:Int) (d:World),f e b d->
 Br (decide (b<(↑c.len:Int)))
 (Rng b c.len (Zd c.a λ m=>
 ∃ i,(Aw d (Addr.add m b.toNat) [.int .i64 i])/\
 (f (IntKind.i64.wrap (e + i)) (IntKind.i64.wrap (b + 1)) d)/\l (IntKind.i64.wrap (e + i)) (IntKind.i64.wrap (b + 1)) d<l e b d))
 (K (.int .i64 e) d)) w
def ZBf:Sk:=(.seq .leaf (.seq .leaf (.seq (.seq .leaf (.block (.loop [3,9] [(.int .i64),(.int .i64)] [3,5,9,10,11,12,13,14,15,16] .leaf))) .leaf)))
theorem ZxM (c:Int) (b:Sl) (K:Value->World->Prop) (w:World) (h:B236 c b K w):Zo prog 236 #[.agg #[.int .i64 c,b.v]] w K:=cq (sk:=ZBf) h func236
def B164 (r:Int) (f:Sl) (K:Value->World->Prop) (w:World):Prop:=
 New (.cells #[.int .i64 r,f.v] 37 (0,0)) (λ e m=>
 ∃ g,∃ b:Sl,(Aw m ⟨e,0,none⟩ [.int .i64 g,b.v])/\
 Calls prog 165 #[.agg #[.int .i64 g,b.v]] m λ p n=>
 ∃ i,(p=.returned (.bool i))/\
 Br (!i)
 (K (.int .i64 0) n)
 (Drw n λ d t=>
 ∃ j,(At d ⟨e,0,none⟩ [.int .i64 j])/\
 ∃ k,∃ c:Sl,(At d ⟨e,0,none⟩ [.int .i64 k,c.v])/\
 Calls prog 236 #[.agg #[.int .i64 k,c.v]] t λ q o=>
 ∃ l,(q=.returned (.int .i64 l))/\
 (d o)/\
 K (.int .i64 (IntKind.i64.wrap (j * l))) o)) w
theorem Zyr (c:Int) (b:Sl) (K:Value->World->Prop) (w:World) (h:B164 c b K w):Zo prog 164 #[.agg #[.int .i64 c,b.v]] w K:=cq (sk:=.leaf) h func164
def B250 (k:Int) (c:Sl) (e:Int) (K:Value->World->Prop) (w:World):Prop:=
 New (.cells #[.int .i64 k,c.v] 37 (0,0)) (λ i d=>
 Br (decide (e >= 0))
 (∃ g,∃ b:Sl,(Aw d ⟨i,0,none⟩ [.int .i64 g,b.v])/\
 Calls prog 164 #[.agg #[.int .i64 g,b.v]] d λ j m=>
 ∃ f,(j=.returned (.int .i64 f))/\
 K (.bool (decide (e<f))) m)
 (K (.bool false) d)) w
theorem ZxA (c:Int) (b:Sl) (d:Int) (K:Value->World->Prop) (w:World) (h:B250 c b d K w):Zo prog 250 #[.agg #[.int .i64 c,b.v],.int .i64 d] w K:=cq (sk:=.leaf) h func250
def B253 (s:Int) (f:Sl) (c:Int) (K:Value->World->Prop) (w:World):Prop:=
 New (.cells #[.int .i64 s,f.v] 37 (0,0)) (λ k o=>
 ∃ m,∃ e:Sl,(Aw o ⟨k,0,none⟩ [.int .i64 m,e.v])/\
 Calls prog 250 #[.agg #[.int .i64 m,e.v],.int .i64 c] o λ p j=>
 ∃ n,(p=.returned (.bool n))/\
 Br (!n)
 (K (.tuple #[.string (ByteArray.mk #[]),.int .i64 1]) j)
 (∃ l,∃ d:Sl,(Aw j ⟨k,0,none⟩ [.int .i64 l,d.v])/\
 Calls prog 236 #[.agg #[.int .i64 l,d.v]] j λ q t=>
 ∃ b,(q=.returned (.int .i64 b))/\
 Drw t λ x u=>
 Nz b (Nz b (Nz b (((0:Int)<=IntKind.i64.wrap (c.tmod b + 1))/\
 ((IntKind.i64.wrap (c.tmod b + 1):Int)<=10)/\
 ((0:Int)<=c.tmod b)/\
 ((c.tmod b:Int)<=(↑(IntKind.i64.wrap (c.tmod b + 1)).toNat:Int))/\
 Calls prog 284 #[.int .i64 (IntKind.i64.wrap (IntKind.i64.wrap (c.tdiv b) + 1))] u λ r v=>
 ∃ g,(r=.returned (.string g))/\
 (((↑(g.size + ((ByteArray.mk #[65,66,67,68,69,70,71,72,74,75]).extract (c.tmod b).toNat (IntKind.i64.wrap (c.tmod b + 1)).toNat).size):Int):Int)<=9223372036854775807)/\
 K (.tuple #[.string (g++(ByteArray.mk #[65,66,67,68,69,70,71,72,74,75]).extract (c.tmod b).toNat (IntKind.i64.wrap (c.tmod b + 1)).toNat),.int .i64 0]) v))))) w
theorem Zxy (c:Int) (b:Sl) (d:Int) (K:Value->World->Prop) (w:World) (h:B253 c b d K w):Zo prog 253 #[.agg #[.int .i64 c,b.v],.int .i64 d] w K:=cq (sk:=.leaf) h func253
def B247 (U:Int) (u:Sl) (V:ByteArray) (K:Value->World->Prop) (w:World):Prop:=
 New (.cells #[.int .i64 U,u.v] 37 (0,0)) (λ m I=>
 ∃ y,∃ f:Sl,(Aw I ⟨m,0,none⟩ [.int .i64 y,f.v])/\
 Calls prog 165 #[.agg #[.int .i64 y,f.v]] I λ M J=>
 ∃ z,(M=.returned (.bool z))/\
 Br (!z)
 (K (.tuple #[.int .i64 0,.int .i64 1]) J)
 (New (.stringIter V 0) (λ L Y=>
 ∃ (l:Int->Int->World->Prop) (s:Int->Int->World->Nat),(l 0 ((-1)) Y)/\∀ (Z:Env) (b:Int) (c:Int) (o:World),l b c o->
 Zu8 ((some ⟨L,0,none⟩)) (λ T e p=>
 ∃ (k:Bool->World->Prop),(Br (decide (c >= 0))
 (k true p)
 (Br (T==0)
 (Br (e==48)
 (k true p)
 (k (decide (b>60)) p))
 (k (decide (b>60)) p)))/\
 ∀ (aa:Env) (A:Bool) (q:World),k A q->
 Br A
 (K (.tuple #[.int .i64 0,.int .i64 2]) q)
 (∃ (t:Bool->World->Prop),(Br (decide (e >= 48))
 (t (decide (e<=57)) q)
 (t false q))/\
 ∀ (ab:Env) (C:Bool) (r:World),t C r->
 Br C
 ((l (IntKind.i64.wrap (IntKind.i64.wrap (10 * b) + IntKind.i64.wrap (IntKind.i32.wrap (e - 48)))) c r)/\s (IntKind.i64.wrap (IntKind.i64.wrap (10 * b) + IntKind.i64.wrap (IntKind.i32.wrap (e - 48)))) c r<s b c o)
 (Calls prog 280 #[.int .i32 e] r λ N x=>
 ∃ n,(N=.returned (.int .i64 n))/\
 Br (decide (n<0))
 (K (.tuple #[.int .i64 0,.int .i64 2]) x)
 ((l b n x)/\s b n x<s b c o))))
 (λ j=>
 Br (decide (b<1))
 (K (.tuple #[.int .i64 0,.int .i64 2]) j)
 (∃ D,(Aw j ⟨m,0,none⟩ [.int .i64 D])/\
 Br (decide (b>D))
 (K (.tuple #[.int .i64 0,.int .i64 2]) j)
 (Br (decide (c<0))
 (K (.tuple #[.int .i64 0,.int .i64 2]) j)
 (∃ E,∃ g:Sl,(Aw j ⟨m,0,none⟩ [.int .i64 E,g.v])/\
 Calls prog 236 #[.agg #[.int .i64 E,g.v]] j λ O v=>
 ∃ F,(O=.returned (.int .i64 F))/\
 Br (decide (c >= F))
 (K (.tuple #[.int .i64 0,.int .i64 2]) v)
 (∃ G,∃ i:Sl,(Aw v ⟨m,0,none⟩ [.int .i64 G,i.v])/\
 Calls prog 236 #[.agg #[.int .i64 G,i.v]] v λ Q X=>
 ∃ H,(Q=.returned (.int .i64 H))/\
 K (.tuple #[.int .i64 (IntKind.i64.wrap (IntKind.i64.wrap (IntKind.i64.wrap (b - 1) * H) + c)),.int .i64 0]) X))))) o) J)) w
def ZBc:Sk:=(.seq .leaf (.seq .leaf (.seq .leaf (.seq (.seq .leaf (.block (.loop [6,7] [(.int .i64),(.int .i64)] [4,5,6,7,8,9,15,16,17,18,19,20,21,22,23,24,25,26,27,28,29,30,31,32,33,34,35,36,37,38,39,40,41,42,43,44,45,46,47,48,49,50] (.seq .leaf (.seq .leaf (.block (.seq .leaf (.block (.cut [23] [.bool] [23,24,25,26,27,28,29,30,31,32,33,34,35,36,37] .leaf (.cond .leaf (.cut [38] [.bool] [38,39,40,41,42,43,44] .leaf .leaf))))))))))) .leaf))))
theorem ZxD (c:Int) (b:Sl) (d:ByteArray) (K:Value->World->Prop) (w:World) (h:B247 c b d K w):Zo prog 247 #[.agg #[.int .i64 c,b.v],.string d] w K:=cq (sk:=ZBc) h func247
def B280 (f:Int) (K:Value->World->Prop) (w:World):Prop:=
 ∃ (c:Int->World->Prop) (e:Int->World->Nat),(c 0 w)/\∀ (g:Env) (a:Int) (b:World),c a b->
 Br (decide (a<10))
 (∃ d:UInt8,((0:Int)<=a)/\
 ((ByteArray.mk #[65,66,67,68,69,70,71,72,74,75])[a.toNat]? =some d)/\
 Br (IntKind.i32.wrap (↑d.toNat:Int)==f)
 (K (.int .i64 a) b)
 ((c (IntKind.i64.wrap (a + 1)) b)/\e (IntKind.i64.wrap (a + 1)) b<e a b))
 (K (.int .i64 ((-1))) b)
def ZA6:Sk:=(.seq .leaf (.seq (.seq .leaf (.block (.loop [4] [(.int .i64)] [2,3,4,5,6,7,8,9,10,11,12,13] .leaf))) .leaf))
theorem Zxo (a:Int) (K:Value->World->Prop) (w:World) (h:B280 a K w):Zo prog 280 #[.int .i32 a] w K:=cq (sk:=ZA6) h func280
def B251 (t:Int) (k:Sl) (u:Int) (K:Value->World->Prop) (w:World):Prop:=
 New (.cells #[.int .i64 t,k.v] 37 (0,0)) (λ m o=>
 ∃ n,∃ e:Sl,(Aw o ⟨m,0,none⟩ [.int .i64 n,e.v])/\
 Calls prog 236 #[.agg #[.int .i64 n,e.v]] o λ s p=>
 ∃ l,(s=.returned (.int .i64 l))/\
 Nz l (∃ f:Sl,(Aw p ⟨m,0 + 1,none⟩ [f.v])/\
 ∃ (j:Int->Int->World->Prop) (q:Int->Int->World->Nat),(j (u.tmod l) 0 p)/\∀ (v:Env) (b:Int) (c:Int) (d:World),j b c d->
 Br (decide (c<(↑f.len:Int)))
 (Rng c f.len (Zd f.a λ r=>
 ∃ g,(Aw d (Addr.add r c.toNat) [.int .i64 g])/\
 Br (decide (b<g))
 (K (.tuple #[.int .i64 b,.int .i64 (IntKind.i64.wrap (IntKind.i64.wrap (g - 1) - b))]) d)
 ((j (IntKind.i64.wrap (b - g)) (IntKind.i64.wrap (c + 1)) d)/\q (IntKind.i64.wrap (b - g)) (IntKind.i64.wrap (c + 1)) d<q b c d)))
 (K (.tuple #[.int .i64 0,.int .i64 0]) d))) w
def ZBa:Sk:=(.seq .leaf (.seq .leaf (.seq (.seq .leaf (.block (.loop [6,16] [(.int .i64),(.int .i64)] [4,5,6,8,16,17,18,19,20,21,22,23,24,25,26,27,28,29,30,31] .leaf))) .leaf)))
theorem Zxz (c:Int) (b:Sl) (d:Int) (K:Value->World->Prop) (w:World) (h:B251 c b d K w):Zo prog 251 #[.agg #[.int .i64 c,b.v],.int .i64 d] w K:=cq (sk:=ZBa) h func251
def B179 (ar:Int) (F:Sl) (H:Sl) (j:Int) (K:Value->World->Prop) (w:World):Prop:=
 New (.cells #[.int .i64 ar,F.v] 37 (0,0)) (λ r I=>
 ∃ (N:World->Prop),(Br (decide (j<1))
 (K (.tuple #[.slice none 0 0,.int .i64 1]) I)
 (∃ O,∃ m:Sl,(Aw I ⟨r,0,none⟩ [.int .i64 O,m.v])/\
 Calls prog 164 #[.agg #[.int .i64 O,m.v]] I λ am ae=>
 ∃ Q,(am=.returned (.int .i64 Q))/\
 Br (decide (j>Q))
 (K (.tuple #[.slice none 0 0,.int .i64 1]) ae)
 (N  ae)))/\
 ∀ (az:Env)  (J:World),N  J->
 ∃ T,∃ n:Sl,(Aw J ⟨r,0,none⟩ [.int .i64 T,n.v])/\
 Calls prog 164 #[.agg #[.int .i64 T,n.v]] J λ an ax=>
 ∃ G,(an=.returned (.int .i64 G))/\
 ∃ af:World,∃ f:Sl,((Instr.makeSlice 291 (.int .i64 G) (.int .i64 G)).run prog ax=.ok (f.v) af)/\
 ∃ (u:Int->World->Prop) (D:Int->World->Nat),(u 0 af)/\∀ (a0:Env) (e:Int) (i:World),u e i->
 Br (decide (e<(↑H.len:Int)))
 (Rng e H.len (Zd H.a λ ag=>
 ∃ z,(Aw i (Addr.add ag e.toNat) [.int .i64 z])/\
 ∃ U,∃ o:Sl,(Aw i ⟨r,0,none⟩ [.int .i64 U,o.v])/\
 Calls prog 250 #[.agg #[.int .i64 U,o.v],.int .i64 z] i λ ao L=>
 ∃ V,(ao=.returned (.bool V))/\
 Br V
 (Rng z f.len (Zd f.a λ ah=>
 ∃ M:World,(St 4 (Addr.add ah z.toNat) (.bool true) L M)/\
 (u (IntKind.i64.wrap (e + 1)) M)/\D (IntKind.i64.wrap (e + 1)) M<D e i))
 ((u (IntKind.i64.wrap (e + 1)) L)/\D (IntKind.i64.wrap (e + 1)) L<D e i)))
 (∃ X,∃ p:Sl,(Aw i ⟨r,0,none⟩ [.int .i64 X,p.v])/\
 Calls prog 164 #[.agg #[.int .i64 X,p.v]] i λ ap ay=>
 ∃ Y,(ap=.returned (.int .i64 Y))/\
 ∃ (v:Sl->Sl->Int->World->Prop) (E:Sl->Sl->Int->World->Nat),(v ⟨none,0,0⟩ ⟨none,0,0⟩ 0 ay)/\∀ (a1:Env) (d:Sl) (y:Sl) (b:Int) (k:World),v d y b k->
 Br (decide (b<Y))
 (∃ (x:Sl->World->Prop),(∃ Z,∃ q:Sl,(Aw k ⟨r,0,none⟩ [.int .i64 Z,q.v])/\
 Calls prog 251 #[.agg #[.int .i64 Z,q.v],.int .i64 b] k λ aq A=>
 ∃ aa au,(aq=.returned (.tuple #[.int .i64 aa,.int .i64 au]))/\
 Br (aa==0)
 (x ⟨none,0,0⟩ A)
 (Rng b f.len (Zd f.a λ ai=>
 ∃ ab,(Aw A (Addr.add ai b.toNat) [.bool ab])/\
 Br ab
 (x ⟨none,0,0⟩ A)
 (x y A))))/\
 ∀ (a2:Env) (l:Sl) (t:World),x l t->
 Rng b f.len (Zd f.a λ aj=>
 ∃ ac,(Aw t (Addr.add aj b.toNat) [.bool ac])/\
 Br ac
 ((v d l (IntKind.i64.wrap (b + 1)) t)/\E d l (IntKind.i64.wrap (b + 1)) t<E d y b k)
 (New (.cells #[.int .i64 b] 3 (0,0)) (λ ak av=>
 ∃ ad:World,∃ s:Sl,((Builtin.append_ #[30,30] 30 #[d.v,.slice ((some ⟨ak,0,none⟩)) 1 1]).run prog av=.ok (s.v) ad)/\
 New (.cells #[.int .i64 b] 3 (0,0)) (λ al aw=>
 ∃ C:World,∃ g:Sl,((Builtin.append_ #[30,30] 30 #[l.v,.slice ((some ⟨al,0,none⟩)) 1 1]).run prog aw=.ok (g.v) C)/\
 Br ((↑g.len:Int)==j)
 (K (.tuple #[g.v,.int .i64 0]) C)
 ((v s g (IntKind.i64.wrap (b + 1)) C)/\E s g (IntKind.i64.wrap (b + 1)) C<E d y b k)) ad) t)))
 (Br (decide ((↑d.len:Int)<j))
 (K (.tuple #[.slice none 0 0,.int .i64 3]) k)
 (((0:Int)<=j)/\
 ((j:Int)<=(↑d.cap:Int))/\
 K (.tuple #[.slice d.a j.toNat d.cap,.int .i64 0]) k)))) w
def ZBo:Sk:=(.seq .leaf (.cut [] [] [6,7,16,17,18,19,20,21,22,23] .leaf (.seq .leaf (.seq (.seq .leaf (.block (.loop [29] [(.int .i64)] [10,29,30,31,32,33,34,35,36,37,38,39] .leaf))) (.seq .leaf (.seq (.seq .leaf (.block (.loop [11,12,42] [.sl,.sl,(.int .i64)] [6,7,11,12,13,14,15,42,43,44,45,46,47,48,49,50,51,52,53,54,55,56,57,58,59,60,61,62,63,64,65,66,67,68,69,70,71,72,73,74,75,76] (.seq .leaf (.seq .leaf (.seq (.block (.seq .leaf (.cut [12] [.sl] [12,14,15,45,46,47,48,49,50,51,52,53,54,55,56,57,58] .leaf .leaf))) .leaf)))))) .leaf))))))
theorem Zyc (d:Int) (b:Sl) (c:Sl) (e:Int) (K:Value->World->Prop) (w:World) (h:B179 d b c e K w):Zo prog 179 #[.agg #[.int .i64 d,b.v],c.v,.int .i64 e] w K:=cq (sk:=ZBo) h func179
def B234 (a:Int) (K:Value->World->Prop) (w:World):Prop:=
 Br (decide (a >= 0))
 (K (.bool (decide (a<=10000))) w)
 (K (.bool false) w)
theorem ZxO (a:Int) (K:Value->World->Prop) (w:World) (h:B234 a K w):Zo prog 234 #[.int .i64 a] w K:=cq (sk:=.leaf) h func234
def B201 (c:Sl) (k:Sl) (t:Value) (K:Value->World->Prop) (w:World):Prop:=
 ∃ (s:World->Prop),(Br (decide ((↑c.len:Int)<1))
 (K (.bool false) w)
 (Br (decide ((↑c.len:Int)>8))
 (K (.bool false) w)
 (Br ((↑k.len:Int) !=(↑c.len:Int))
 (K (.bool false) w)
 (s  w))))/\
 ∀ (Z:Env)  (E:World),s  E->
 ∃ (n:Int->Bool->Int->World->Prop) (o:Int->Bool->Int->World->Nat),(n 0 true (IntKind.i64.wrap ((↑c.len:Int) - 1)) E)/\∀ (aa:Env) (d:Int) (j:Bool) (b:Int) (l:World),n d j b l->
 Br (decide (b >= 0))
 (∃ (p:World->Prop),(Drw l λ i Y=>
 Rng b c.len (Zd c.a λ H=>
 ∃ u,(At i (Addr.add H b.toNat) [.int .i64 u])/\
 Calls prog 234 #[.int .i64 u] Y λ T r=>
 ∃ v,(T=.returned (.bool v))/\
 (i r)/\
 Br (!v)
 (K (.bool false) r)
 (Rng b k.len (Zd k.a λ I=>
 ∃ x,(At i (Addr.add I b.toNat) [.int .i64 x])/\
 Calls prog 234 #[.int .i64 x] r λ U m=>
 ∃ y,(U=.returned (.bool y))/\
 (i m)/\
 Br (!y)
 (K (.bool false) m)
 (Br (decide (b>0))
 (Rng b c.len (Zd c.a λ J=>
 ∃ z,(At i (Addr.add J b.toNat) [.int .i64 z])/\
 Rng (IntKind.i64.wrap (b - 1)) c.len (Zd c.a λ L=>
 ∃ A,(At i (Addr.add L ((IntKind.i64.wrap (b - 1)).toNat)) [.int .i64 A])/\
 Br (decide (z>A))
 (K (.bool false) m)
 (p  m))))
 (p  m))))))/\
 ∀ (ab:Env)  (g:World),p  g->
 Rng b k.len (Zd k.a λ M=>
 ∃ e,(Aw g (Addr.add M b.toNat) [.int .i64 e])/\
 Br j
 (Rng b c.len (Zd c.a λ N=>
 ∃ q,(Aw g (Addr.add N b.toNat) [.int .i64 q])/\
 Rng b c.len (Zd c.a λ O=>
 ∃ C,(Aw g (Addr.add O b.toNat) [.int .i64 C])/\
 Zak prog cl t [.int .i64 b,.int .i64 (IntKind.i64.wrap (C - IntKind.i64.wrap (d + e)))] g λ V F=>
 (V=.returned (.tuple #[]))/\
 (n (IntKind.i64.wrap (d + e)) (decide (IntKind.i64.wrap (d + e)<=q)) (IntKind.i64.wrap (b - 1)) F)/\o (IntKind.i64.wrap (d + e)) (decide (IntKind.i64.wrap (d + e)<=q)) (IntKind.i64.wrap (b - 1)) F<o d j b l)))
 (Rng b c.len (Zd c.a λ Q=>
 ∃ D,(Aw g (Addr.add Q b.toNat) [.int .i64 D])/\
 Zak prog cl t [.int .i64 b,.int .i64 (IntKind.i64.wrap (D - IntKind.i64.wrap (d + e)))] g λ X G=>
 (X=.returned (.tuple #[]))/\
 (n (IntKind.i64.wrap (d + e)) false (IntKind.i64.wrap (b - 1)) G)/\o (IntKind.i64.wrap (d + e)) false (IntKind.i64.wrap (b - 1)) G<o d j b l))))
 (K (.bool j) l)
def ZBm:Sk:=(.seq .leaf (.cut [] [] [6,10,11,12,13,14,15,16,17,18,19,20,21,22,23,24] .leaf (.seq .leaf (.seq (.seq .leaf (.block (.loop [7,8,9] [(.int .i64),.bool,(.int .i64)] [6,7,8,9,28,29,30,31,32,33,34,35,36,37,38,39,40,41,42,43,44,45,46,47,48,49,50,51,52,53,54,55,56,57,58,59,60,61,62,63,64,65,66,67,68,69,70,71,72,73,74,75,76,77,78,79,80,81,82,83,84,85] (.seq .leaf (.seq (.block (.cut [] [] [6,32,33,34,35,36,37,38,39,40,41,42,43,44,45,46,47,48,49,50,51,52,53,54,55,56,57,58,59,60,61] .leaf .leaf)) .leaf))))) .leaf))))
theorem Zx8 (b:Sl) (c:Sl) (d:Value) (K:Value->World->Prop) (w:World) (h:B201 b c d K w):Zo prog 201 #[b.v,c.v,d] w K:=cq (sk:=ZBm) h func201
def B226 (b:Sl) (c:Sl) (K:Value->World->Prop) (w:World):Prop:=
 Calls prog 201 #[b.v,c.v,.func (.func 273) #[] #[]] w λ e f=>
 ∃ d,(e=.returned (.bool d))/\
 K (.bool d) f
theorem ZxW (b:Sl) (c:Sl) (K:Value->World->Prop) (w:World) (h:B226 b c K w):Zo prog 226 #[b.v,c.v] w K:=cq (sk:=.leaf) h func226
def B273 (a:Int) (b:Int) (K:Value->World->Prop) (w:World):Prop:=
 K (.tuple #[]) w
theorem Zxt (a:Int) (b:Int) (K:Value->World->Prop) (w:World) (h:B273 a b K w):Zo prog 273 #[.int .i64 a,.int .i64 b] w K:=cq (sk:=.leaf) h func273
def B123 (d:Sl) (g:Sl) (n:Int) (K:Value->World->Prop) (w:World):Prop:=
 New (.cells #[.int .i64 n] 3 (0,0)) (λ e p=>
 New (.cells #[.int .i64 0] 3 (0,0)) (λ f q=>
 ∃ m:World,(St 3 ⟨f,0,none⟩ (.int .i64 10000) q m)/\
 Calls prog 201 #[d.v,g.v,.func (.func 202) #[] #[.pointer ((some ⟨e,0,none⟩)),.pointer ((some ⟨f,0,none⟩))]] m λ o b=>
 ∃ i,(o=.returned (.bool i))/\
 Br (!i)
 (K (.tuple #[.int .i64 0,.int .i64 1]) b)
 (∃ j,(Aw b ⟨e,0,none⟩ [.int .i64 j])/\
 Br (decide (j<0))
 (K (.tuple #[.int .i64 0,.int .i64 1]) b)
 (∃ k,(Aw b ⟨e,0,none⟩ [.int .i64 k])/\
 Br (decide (k >= (↑d.len:Int)))
 (K (.tuple #[.int .i64 0,.int .i64 1]) b)
 (∃ l,(Aw b ⟨f,0,none⟩ [.int .i64 l])/\
 K (.tuple #[.int .i64 l,.int .i64 0]) b)))) p) w
theorem ZyN (b:Sl) (c:Sl) (d:Int) (K:Value->World->Prop) (w:World) (h:B123 b c d K w):Zo prog 123 #[b.v,c.v,.int .i64 d] w K:=cq (sk:=.leaf) h func123
def B202 (k:Int) (d:Int) (j:Option Addr) (c:Option Addr) (K:Value->World->Prop) (w:World):Prop:=
 Zd j λ g=>
 ∃ e,(Aw w g [.int .i64 e])/\
 Br (decide (k<=e))
 (Zd c λ i=>
 ∃ a,(Aw w i [.int .i64 a])/\
 ∃ f:World,((Instr.storeAt 3 (.pointer c) (.int .i64 (if d<a then d else a))).run prog w=.ok () f)/\
 K (.tuple #[]) f)
 (K (.tuple #[]) w)
theorem ZsR (c:Int) (d:Int) (a:Option Addr) (b:Option Addr) (K:Value->World->Prop) (w:World) (h:B202 c d a b K w):Zo prog 202 #[.int .i64 c,.int .i64 d,.pointer a,.pointer b] w K:=cq (sk:=.leaf) h func202
def B168 (f:Sl) (b:Sl) (g:Int) (e:Int) (K:Value->World->Prop) (w:World):Prop:=
 Calls prog 123 #[f.v,b.v,.int .i64 g] w λ k d=>
 ∃ i j,(k=.returned (.tuple #[.int .i64 i,.int .i64 j]))/\
 Br (j !=0)
 (K (.tuple #[.slice none 0 0,.int .i64 1]) d)
 (Br (decide (e<1))
 (K (.tuple #[.slice none 0 0,.int .i64 1]) d)
 (Br (decide (e>10000))
 (K (.tuple #[.slice none 0 0,.int .i64 1]) d)
 (Br (decide (e>i))
 (K (.tuple #[.slice none 0 0,.int .i64 3]) d)
 (Calls prog 238 #[b.v,.int .i64 g,.int .i64 e] d λ l m=>
 ∃ c:Sl,(l=.returned (c.v))/\
 K (.tuple #[c.v,.int .i64 0]) m))))
theorem Zyn (b:Sl) (c:Sl) (d:Int) (e:Int) (K:Value->World->Prop) (w:World) (h:B168 b c d e K w):Zo prog 168 #[b.v,c.v,.int .i64 d,.int .i64 e] w K:=cq (sk:=.leaf) h func168
def B175 (f:Sl) (b:Sl) (e:Int) (g:Int) (K:Value->World->Prop) (w:World):Prop:=
 Calls prog 123 #[f.v,b.v,.int .i64 e] w λ l d=>
 ∃ n i,(l=.returned (.tuple #[.int .i64 n,.int .i64 i]))/\
 Br (i !=0)
 (K (.tuple #[.slice none 0 0,.int .i64 1]) d)
 (Br (decide (g<1))
 (K (.tuple #[.slice none 0 0,.int .i64 1]) d)
 (Rng e b.len (Zd b.a λ k=>
 ∃ j,(Aw d (Addr.add k e.toNat) [.int .i64 j])/\
 Br (decide (g>j))
 (K (.tuple #[.slice none 0 0,.int .i64 1]) d)
 (Calls prog 238 #[b.v,.int .i64 e,.int .i64 (IntKind.i64.wrap (0 - g))] d λ m p=>
 ∃ c:Sl,(m=.returned (c.v))/\
 K (.tuple #[c.v,.int .i64 0]) p))))
theorem Zyg (b:Sl) (c:Sl) (d:Int) (e:Int) (K:Value->World->Prop) (w:World) (h:B175 b c d e K w):Zo prog 175 #[b.v,c.v,.int .i64 d,.int .i64 e] w K:=cq (sk:=.leaf) h func175
def B238 (d:Sl) (c:Int) (l:Int) (K:Value->World->Prop) (w:World):Prop:=
 Calls prog 166 #[d.v] w λ k f=>
 ∃ b:Sl,(k=.returned (b.v))/\
 Rng c b.len (Zd b.a λ i=>
 ∃ e,(Aw f (Addr.add i c.toNat) [.int .i64 e])/\
 Rng c b.len (Zd b.a λ j=>
 ∃ g:World,(St 3 (Addr.add j c.toNat) (.int .i64 (IntKind.i64.wrap (e + l))) f g)/\
 K (b.v) g))
theorem ZxK (b:Sl) (c:Int) (d:Int) (K:Value->World->Prop) (w:World) (h:B238 b c d K w):Zo prog 238 #[b.v,.int .i64 c,.int .i64 d] w K:=cq (sk:=.leaf) h func238
def B163 (j:Int) (d:Sl) (K:Value->World->Prop) (w:World):Prop:=
 ∃ (o:World->Prop),(Calls prog 234 #[.int .i64 j] w λ z g=>
 ∃ p,(z=.returned (.bool p))/\
 Br (!p)
 (K (.tuple #[.slice none 0 0,.int .i64 1]) g)
 (Br (decide ((↑d.len:Int)<1))
 (K (.tuple #[.slice none 0 0,.int .i64 1]) g)
 (Br (decide ((↑d.len:Int)>8))
 (K (.tuple #[.slice none 0 0,.int .i64 1]) g)
 (o  g))))/\
 ∀ (F:Env)  (r:World),o  r->
 New (.cells #[.int .i64 j] 3 (0,0)) (λ x D=>
 ((0:Int)<=1)/\
 ((1:Int)<=(↑d.len:Int))/\
 ∃ (i:Sl->Int->World->Prop) (t:Sl->Int->World->Nat),(i ⟨(some ⟨x,0,none⟩),1,1⟩ 0 D)/\∀ (G:Env) (b:Sl) (c:Int) (f:World),i b c f->
 Br (decide (c<(↑(d.len - Int.toNat 1):Int)))
 (Rng c (d.len - Int.toNat 1) (Zd (Zcn d.a (Int.toNat 1) d.cap 1) λ u=>
 ∃ q,(Aw f (Addr.add u c.toNat) [.float .f64 q])/\
 Calls prog 235 #[.float .f64 q,.int .i64 j] f λ A s=>
 ∃ k C,(A=.returned (.tuple #[.int .i64 k,.int .i64 C]))/\
 Rng c b.len (Zd b.a λ v=>
 ∃ l,(Aw s (Addr.add v c.toNat) [.int .i64 l])/\
 New (.cells #[.int .i64 (if l<k then l else k)] 3 (0,0)) (λ y E=>
 ∃ n:World,∃ e:Sl,((Builtin.append_ #[30,30] 30 #[b.v,.slice ((some ⟨y,0,none⟩)) 1 1]).run prog E=.ok (e.v) n)/\
 (i e (IntKind.i64.wrap (c + 1)) n)/\t e (IntKind.i64.wrap (c + 1)) n<t b c f) s)))
 (K (.tuple #[b.v,.int .i64 0]) f)) r
def ZBr:Sk:=(.seq .leaf (.cut [] [] [4,5,11,12,13,14,15,16,17,18,19,20,21,22,23] .leaf (.seq .leaf (.seq (.seq .leaf (.block (.loop [6,29] [.sl,(.int .i64)] [6,7,8,9,10,29,30,31,32,33,34,35,36,37,38,39,40,41,42,43,44,45,46,47,48,49] .leaf))) .leaf))))
theorem Zys (c:Int) (b:Sl) (K:Value->World->Prop) (w:World) (h:B163 c b K w):Zo prog 163 #[.int .i64 c,b.v] w K:=cq (sk:=ZBr) h func163
def B235 (c:Nat) (d:Int) (K:Value->World->Prop) (w:World):Prop:=
 ∃ (e:Bool->World->Prop),(Br (decide (d<0))
 (e true w)
 (e (decide (d>10000)) w))/\
 ∀ (q:Env) (n:Bool) (b:World),e n b->
 Br n
 (K (.tuple #[.int .i64 0,.int .i64 1]) b)
 (∃ i:Bool,(∀ a,(λ a=>a=b) a->((do eqGuard BinOp.gtr 35 (Operand.tmp 14) (Operand.const (Value.float FloatKind.f64 0)) (.float .f64 c) (.float .f64 0);binOp BinOp.gtr 35 (.float .f64 c) (.float .f64 0):Sem Value)).run prog a=.ok (.bool i) a)/\
 Br (!i)
 (K (.tuple #[.int .i64 0,.int .i64 0]) b)
 (∃ j:Bool,(∀ a,(λ a=>a=b) a->((do eqGuard BinOp.geq 35 (Operand.tmp 18) (Operand.const (Value.float FloatKind.f64 4607182418800017408)) (.float .f64 c) (.float .f64 4607182418800017408);binOp BinOp.geq 35 (.float .f64 c) (.float .f64 4607182418800017408):Sem Value)).run prog a=.ok (.bool j) a)/\
 Br j
 (K (.tuple #[.int .i64 d,.int .i64 0]) b)
 (∃ g:World,∃ f:Nat,((convert 3 35 (.int .i64 d)).run prog b=.ok (.float .f64 f) g)/\
 ∃ k:Nat,(∀ a,(λ a=>a=g) a->((do eqGuard BinOp.mul 35 (Operand.tmp 21) (Operand.tmp 23) (.float .f64 c) (.float .f64 f);binOp BinOp.mul 35 (.float .f64 c) (.float .f64 f):Sem Value)).run prog a=.ok (.float .f64 k) a)/\
 Calls prog 276 #[.float .f64 k] g λ p o=>
 ∃ l,(p=.returned (.float .f64 l))/\
 ∃ m:Int,(∀ a,(λ a=>a=o) a->((convert 35 3 (.float .f64 l))).run prog a=.ok (.int .i64 m) a)/\
 K (.tuple #[.int .i64 m,.int .i64 0]) o)))
def ZBg:Sk:=(.seq .leaf (.seq (.block (.cut [6] [.bool] [6,7,8,9,10,11,12] .leaf .leaf)) .leaf))
theorem ZxN (a:Nat) (b:Int) (K:Value->World->Prop) (w:World) (h:B235 a b K w):Zo prog 235 #[.float .f64 a,.int .i64 b] w K:=cq (sk:=ZBg) h func235
def B276 (d:Nat) (K:Value->World->Prop) (w:World):Prop:=
 Ext prog 291 #[.float .f64 d] w λ b c=>
 ∃ a,(b=.returned (.float .f64 a))/\
 K (.float .f64 a) c
theorem Zxq (a:Nat) (K:Value->World->Prop) (w:World) (h:B276 a K w):Zo prog 276 #[.float .f64 a] w K:=cq (sk:=.leaf) h func276
def B284 (c:Int) (K:Value->World->Prop) (w:World):Prop:=
 Calls prog 296 #[.int .i64 c] w λ b d=>
 ∃ a,(b=.returned (.string a))/\
 K (.string a) d
theorem Zxm (a:Int) (K:Value->World->Prop) (w:World) (h:B284 a K w):Zo prog 284 #[.int .i64 a] w K:=cq (sk:=.leaf) h func284
end
section
open Go Go.VC Tryz
set_option maxRecDepth 10000
def B98 (n:Int) (F:Int) (m:Sl) (o:Sl) (K:Value->World->Prop) (w:World):Prop:=
 New (.cells #[.int .i64 F,m.v] 37 (0,0)) (λ j y=>
 ∃ q,∃ c:Sl,(Aw y ⟨j,0,none⟩ [.int .i64 q,c.v])/\
 Calls prog 164 #[.agg #[.int .i64 q,c.v]] y λ z G=>
 ∃ r,(z=.returned (.int .i64 r))/\
 Calls prog 163 #[.int .i64 r,o.v] G λ A k=>
 ∃ d:Sl,∃ s,(A=.returned (.tuple #[d.v,.int .i64 s]))/\
 Br (decide (n<1))
 (K (.tuple #[.pointer none,.int .i64 1]) k)
 (Br (decide (n>9999))
 (K (.tuple #[.pointer none,.int .i64 1]) k)
 (∃ t,∃ e:Sl,(Aw k ⟨j,0,none⟩ [.int .i64 t,e.v])/\
 Calls prog 165 #[.agg #[.int .i64 t,e.v]] k λ C l=>
 ∃ u,(C=.returned (.bool u))/\
 Br (!u)
 (K (.tuple #[.pointer none,.int .i64 1]) l)
 (Br (s !=0)
 (K (.tuple #[.pointer none,.int .i64 1]) l)
 (∃ f:Sl,(Aw l ⟨j,0 + 1,none⟩ [f.v])/\
 Calls prog 166 #[f.v] l λ D H=>
 ∃ g:Sl,(D=.returned (g.v))/\
 ∃ p:World,(St 30 ⟨j,0 + 1,none⟩ (g.v) H p)/\
 ∃ v,∃ i:Sl,(Aw p ⟨j,0,none⟩ [.int .i64 v,i.v])/\
 Calls prog 167 #[.int .i64 n,.agg #[.int .i64 v,i.v],d.v] p λ E I=>
 ∃ x,(E=.returned (.pointer x))/\
 K (.tuple #[.pointer x,.int .i64 0]) I))))) w
theorem Zz2 (e:Int) (d:Int) (b:Sl) (c:Sl) (K:Value->World->Prop) (w:World) (h:B98 e d b c K w):Zo prog 98 #[.int .i64 e,.agg #[.int .i64 d,b.v],c.v] w K:=cq (sk:=.leaf) h func98
def B167 (g:Int) (ah:Int) (n:Sl) (b:Sl) (K:Value->World->Prop) (w:World):Prop:=
 New (.cells #[.int .i64 ah,.slice n.a n.len n.cap] 37 (0,0)) (λ O ai=>
 Drw ai λ c t=>
 ∃ f,∃ d:Sl,(At c ⟨O,0,none⟩ [.int .i64 f,.slice d.a d.len d.cap])/\
 (∃ m:World,∃ e:Sl,((Instr.makeSlice 30 (.int .i64 ((↑b.len:Int))) (.int .i64 ((↑b.len:Int)))).run prog t=.ok (.slice e.a e.len e.cap) m)/\
 (c m)/\
 (New (.map #[] 0) (λ Q H=>
 (c H)/\
 New (.map #[] 0) (λ X I=>
 (c I)/\
 New (.cells #[.int .i64 g,.int .i64 f,.slice d.a d.len d.cap,.slice b.a b.len b.cap,.slice e.a e.len e.cap,.map ((some Q)),.map ((some X))] 186 (0,0)) (λ ab J=>
 (c J)/\
 K (.pointer ((some ⟨ab,0,none⟩))) J) I) H) m)/\
 New (.map #[] 0) (λ Y L=>
 (c L)/\
 New (.map #[] 0) (λ T M=>
 (c M)/\
 New (.cells #[.int .i64 g,.int .i64 f,.slice d.a d.len d.cap,.slice b.a b.len b.cap,.slice e.a e.len e.cap,.map ((some T)),.map ((some Y))] 186 (0,0)) (λ ac N=>
 (c N)/\
 K (.pointer ((some ⟨ac,0,none⟩))) N) M) L) m)/\
 (New (.map #[] 0) (λ v o=>
 (c o)/\
 (∃ p:World,∃ i:Sl,((Instr.makeSlice 30 (.int .i64 ((↑b.len:Int))) (.int .i64 ((↑b.len:Int)))).run prog o=.ok (.slice i.a i.len i.cap) p)/\
 (c p)/\
 New (.map #[] 0) (λ Z y=>
 (c y)/\
 New (.cells #[.int .i64 g,.int .i64 f,.slice d.a d.len d.cap,.slice b.a b.len b.cap,.slice i.a i.len i.cap,.map ((some v)),.map ((some Z))] 186 (0,0)) (λ ad z=>
 (c z)/\
 K (.pointer ((some ⟨ad,0,none⟩))) z) y) p)/\
 New (.map #[] 0) (λ aa A=>
 (c A)/\
 ∃ q:World,∃ j:Sl,((Instr.makeSlice 30 (.int .i64 ((↑b.len:Int))) (.int .i64 ((↑b.len:Int)))).run prog A=.ok (.slice j.a j.len j.cap) q)/\
 (c q)/\
 New (.cells #[.int .i64 g,.int .i64 f,.slice d.a d.len d.cap,.slice b.a b.len b.cap,.slice j.a j.len j.cap,.map ((some v)),.map ((some aa))] 186 (0,0)) (λ ae C=>
 (c C)/\
 K (.pointer ((some ⟨ae,0,none⟩))) C) q) o) t)/\
 New (.map #[] 0) (λ x r=>
 (c r)/\
 (∃ s:World,∃ k:Sl,((Instr.makeSlice 30 (.int .i64 ((↑b.len:Int))) (.int .i64 ((↑b.len:Int)))).run prog r=.ok (.slice k.a k.len k.cap) s)/\
 (c s)/\
 New (.map #[] 0) (λ U D=>
 (c D)/\
 New (.cells #[.int .i64 g,.int .i64 f,.slice d.a d.len d.cap,.slice b.a b.len b.cap,.slice k.a k.len k.cap,.map ((some U)),.map ((some x))] 186 (0,0)) (λ af E=>
 (c E)/\
 K (.pointer ((some ⟨af,0,none⟩))) E) D) s)/\
 New (.map #[] 0) (λ V F=>
 (c F)/\
 ∃ u:World,∃ l:Sl,((Instr.makeSlice 30 (.int .i64 ((↑b.len:Int))) (.int .i64 ((↑b.len:Int)))).run prog F=.ok (.slice l.a l.len l.cap) u)/\
 (c u)/\
 New (.cells #[.int .i64 g,.int .i64 f,.slice d.a d.len d.cap,.slice b.a b.len b.cap,.slice l.a l.len l.cap,.map ((some V)),.map ((some x))] 186 (0,0)) (λ ag G=>
 (c G)/\
 K (.pointer ((some ⟨ag,0,none⟩))) G) u) r) t) w
theorem Zyo (e:Int) (d:Int) (b:Sl) (c:Sl) (K:Value->World->Prop) (w:World) (h:B167 e d b c K w):Zo prog 167 #[.int .i64 e,.agg #[.int .i64 d,.slice b.a b.len b.cap],.slice c.a c.len c.cap] w K:=cq (sk:=.leaf) h func167
def B101 (f:Option Addr) (g:Int) (r:Int) (s:Int) (K:Value->World->Prop) (w:World):Prop:=
 Zd f λ m=>
 ∃ t:Option Nat,(Aw w ⟨m.block,m.off + 5,none⟩ [.map t])/\
 ∃ D:Option Addr,∃ u:Bool,(∀ b,(λ b=>b=w) b->((Instr.lookup 183 (.map t) (.int .i64 g) true)).run prog b=.ok (.tuple #[.pointer D,.bool u]) b)/\
 ∃ (k:World->Prop),(Br (decide (g<1))
 (K (.int .i64 1) w)
 (Br (decide (g>28629151))
 (K (.int .i64 1) w)
 (Br u
 (K (.int .i64 7) w)
 (k  w))))/\
 ∀ (G:Env)  (x:World),k  x->
 Drw x λ l E=>
 Zd f λ n=>
 ∃ c:Sl,(At l ⟨n.block,n.off + 3,none⟩ [c.v])/\
 Zd f λ o=>
 ∃ d:Sl,(At l ⟨o.block,o.off + 4,none⟩ [d.v])/\
 Calls prog 168 #[c.v,d.v,.int .i64 r,.int .i64 s] E λ C y=>
 ∃ e:Sl,∃ i,(C=.returned (.tuple #[e.v,.int .i64 i]))/\
 Br (i==0)
 (Zd f λ p=>
 ∃ j:World,(St 30 ⟨p.block,p.off + 4,none⟩ (e.v) y j)/\
 Zd f λ q=>
 ∃ v:Option Nat,(Aw j ⟨q.block,q.off + 5,none⟩ [.map v])/\
 New (.cells #[.int .i64 g,.int .i64 r,.int .i64 s,.slice none 0 0] 197 (0,0)) (λ A F=>
 ∃ z:World,((Instr.mapUpdate 183 (.map v) (.int .i64 g) (.pointer ((some ⟨A,0,none⟩)))).run prog F=.ok () z)/\
 K (.int .i64 i) z) j)
 (K (.int .i64 i) y)
def ZBG:Sk:=(.seq .leaf (.seq .leaf (.cut [] [] [8,22,23,24,25,26,27,28,29,30] .leaf .leaf)))
theorem ZyX (b:Option Addr) (d:Int) (a:Int) (c:Int) (K:Value->World->Prop) (w:World) (h:B101 b d a c K w):Zo prog 101 #[.pointer b,.int .i64 d,.int .i64 a,.int .i64 c] w K:=cq (sk:=ZBG) h func101
def B104 (d:Option Addr) (z:Int) (K:Value->World->Prop) (w:World):Prop:=
 Zd d λ p=>
 ∃ A:Option Nat,(Aw w ⟨p.block,p.off + 5,none⟩ [.map A])/\
 ∃ l:Option Addr,∃ C:Bool,(∀ b,(λ b=>b=w) b->((Instr.lookup 183 (.map A) (.int .i64 z) true)).run prog b=.ok (.tuple #[.pointer l,.bool C]) b)/\
 Br (!C)
 (K (.int .i64 2) w)
 (Zd l λ q=>
 ∃ e:Sl,(Aw w ⟨q.block,q.off + 3,none⟩ [e.v])/\
 ∃ (m:Int->World->Prop) (J:Int->World->Nat),(m 0 w)/\∀ (T:Env) (c:Int) (j:World),m c j->
 Br (decide (c<(↑e.len:Int)))
 (Rng c e.len (Zd e.a λ L=>
 ∃ D,(Aw j (Addr.add L c.toNat) [.int .i64 D])/\
 Zd d λ r=>
 ∃ E:Option Nat,(Aw j ⟨r.block,r.off + 6,none⟩ [.map E])/\
 ∃ n:World,((Builtin.delete_ #[184,3] 0 #[.map E,.int .i64 D]).run prog j=.ok (.tuple #[]) n)/\
 (m (IntKind.i64.wrap (c + 1)) n)/\J (IntKind.i64.wrap (c + 1)) n<J c j))
 (Drw j λ k O=>
 Zd d λ s=>
 ∃ f:Sl,(At k ⟨s.block,s.off + 3,none⟩ [f.v])/\
 Zd d λ t=>
 ∃ g:Sl,(At k ⟨t.block,t.off + 4,none⟩ [g.v])/\
 Zd l λ u=>
 ∃ F,(At k ⟨u.block,u.off + 1,none⟩ [.int .i64 F])/\
 Zd l λ v=>
 ∃ G,(At k ⟨v.block,v.off + 2,none⟩ [.int .i64 G])/\
 Calls prog 175 #[f.v,g.v,.int .i64 F,.int .i64 G] O λ M Q=>
 ∃ i:Sl,∃ N,(M=.returned (.tuple #[i.v,.int .i64 N]))/\
 Zd d λ x=>
 ∃ o:World,(St 30 ⟨x.block,x.off + 4,none⟩ (i.v) Q o)/\
 Zd d λ y=>
 ∃ H:Option Nat,(Aw o ⟨y.block,y.off + 5,none⟩ [.map H])/\
 ∃ I:World,((Builtin.delete_ #[183,3] 0 #[.map H,.int .i64 z]).run prog o=.ok (.tuple #[]) I)/\
 K (.int .i64 0) I))
def ZBE:Sk:=(.seq .leaf (.seq .leaf (.seq .leaf (.seq (.seq .leaf (.block (.loop [25] [(.int .i64)] [8,25,26,27,28,29,30,31,32,33,34] .leaf))) .leaf))))
theorem ZyU (a:Option Addr) (b:Int) (K:Value->World->Prop) (w:World) (h:B104 a b K w):Zo prog 104 #[.pointer a,.int .i64 b] w K:=cq (sk:=ZBE) h func104
def B177 (i:Option Addr) (q:Int) (p:ByteArray) (K:Value->World->Prop) (w:World):Prop:=
 Zd i λ f=>
 ∃ j:Option Nat,(Aw w ⟨f.block,f.off + 5,none⟩ [.map j])/\
 ∃ d:Option Addr,∃ k:Bool,(∀ b,(λ b=>b=w) b->((Instr.lookup 183 (.map j) (.int .i64 q) true)).run prog b=.ok (.tuple #[.pointer d,.bool k]) b)/\
 Zd i λ g=>
 ∃ l,∃ c:Sl,(Aw w ⟨g.block,g.off + 1,none⟩ [.int .i64 l,c.v])/\
 Calls prog 247 #[.agg #[.int .i64 l,c.v],.string p] w λ o n=>
 ∃ e m,(o=.returned (.tuple #[.int .i64 e,.int .i64 m]))/\
 Br k
 (K (.tuple #[.pointer d,.int .i64 e,.bool (m==0)]) n)
 (K (.tuple #[.pointer d,.int .i64 e,.bool false]) n)
theorem Zye (a:Option Addr) (c:Int) (b:ByteArray) (K:Value->World->Prop) (w:World) (h:B177 a c b K w):Zo prog 177 #[.pointer a,.int .i64 c,.string b] w K:=cq (sk:=.leaf) h func177
def B178 (y:Option Addr) (e:Option Addr) (f:Int) (K:Value->World->Prop) (w:World):Prop:=
 Zd e λ j=>
 ∃ b:Sl,(Aw w ⟨j.block,j.off + 3,none⟩ [b.v])/\
 Calls prog 248 #[b.v,.int .i64 f] w λ v q=>
 ∃ n z,(v=.returned (.tuple #[.int .i64 n,.bool z]))/\
 Zd e λ k=>
 ∃ c:Sl,(Aw q ⟨k.block,k.off + 3,none⟩ [c.v])/\
 New (.cells #[.int .i64 f] 3 (0,0)) (λ u A=>
 Calls prog 249 #[c.v,.int .i64 n,.slice ((some ⟨u,0,none⟩)) 1 1] A λ x C=>
 ∃ d:Sl,(x=.returned (d.v))/\
 Zd e λ l=>
 ∃ r:World,(St 30 ⟨l.block,l.off + 3,none⟩ (d.v) C r)/\
 Drw r λ i D=>
 Zd y λ m=>
 ∃ o:Option Nat,(At i ⟨m.block,m.off + 6,none⟩ [.map o])/\
 Zd e λ t=>
 ∃ p,(At i (Addr.add t 0) [.int .i64 p])/\
 ∃ s:World,((Instr.mapUpdate 184 (.map o) (.int .i64 f) (.int .i64 p)).run prog D=.ok () s)/\
 K (.tuple #[]) s) q
theorem Zyd (a:Option Addr) (b:Option Addr) (c:Int) (K:Value->World->Prop) (w:World) (h:B178 a b c K w):Zo prog 178 #[.pointer a,.pointer b,.int .i64 c] w K:=cq (sk:=.leaf) h func178
def B106 (f:Option Addr) (u:Int) (t:ByteArray) (K:Value->World->Prop) (w:World):Prop:=
 Calls prog 177 #[.pointer f,.int .i64 u,.string t] w λ r e=>
 ∃ c g n,(r=.returned (.tuple #[.pointer c,.int .i64 g,.bool n]))/\
 Zd f λ k=>
 ∃ o:Option Nat,(Aw e ⟨k.block,k.off + 6,none⟩ [.map o])/\
 ∃ v:Int,∃ p:Bool,(∀ b,(λ b=>b=e) b->((Instr.lookup 184 (.map o) (.int .i64 g) true)).run prog b=.ok (.tuple #[.int .i64 v,.bool p]) b)/\
 Br (!n)
 (K (.int .i64 2) e)
 (Drw e λ j i=>
 Zd c λ l=>
 ∃ d:Sl,(At j ⟨l.block,l.off + 3,none⟩ [d.v])/\
 Zd c λ m=>
 ∃ q,(At j ⟨m.block,m.off + 2,none⟩ [.int .i64 q])/\
 Br (decide ((↑d.len:Int) >= q))
 (K (.int .i64 7) i)
 (Br p
 (K (.int .i64 3) i)
 (Calls prog 178 #[.pointer f,.pointer c,.int .i64 g] i λ s x=>
 (s=.returned (.tuple #[]))/\
 K (.int .i64 0) x)))
theorem ZyS (a:Option Addr) (c:Int) (b:ByteArray) (K:Value->World->Prop) (w:World) (h:B106 a c b K w):Zo prog 106 #[.pointer a,.int .i64 c,.string b] w K:=cq (sk:=.leaf) h func106
def B107 (j:Option Addr) (Q:Int) (K:Value->World->Prop) (w:World):Prop:=
 Zd j λ o=>
 ∃ t:Option Nat,(Aw w ⟨o.block,o.off + 5,none⟩ [.map t])/\
 ∃ l:Option Addr,∃ u:Bool,(∀ b,(λ b=>b=w) b->((Instr.lookup 183 (.map t) (.int .i64 Q) true)).run prog b=.ok (.tuple #[.pointer l,.bool u]) b)/\
 Br (!u)
 (K (.tuple #[.slice none 0 0,.int .i64 2]) w)
 (Zd l λ p=>
 ∃ m:Sl,(Aw w ⟨p.block,p.off + 3,none⟩ [m.v])/\
 Br (decide ((↑m.len:Int)>0))
 (K (.tuple #[.slice none 0 0,.int .i64 7]) w)
 (Drw w λ e T=>
 Zd j λ q=>
 ∃ v,∃ f:Sl,(At e ⟨q.block,q.off + 1,none⟩ [.int .i64 v,f.v])/\
 Zd j λ r=>
 ∃ x:Option Nat,(At e ⟨r.block,r.off + 6,none⟩ [.map x])/\
 Zd l λ s=>
 ∃ z,(At e ⟨s.block,s.off + 2,none⟩ [.int .i64 z])/\
 Calls prog 180 #[.map x] T λ J D=>
 ∃ y:Value,(J=.returned (y))/\
 (e D)/\
 Calls prog 129 #[y] D λ L E=>
 ∃ g:Sl,(L=.returned (g.v))/\
 (e E)/\
 Calls prog 179 #[.agg #[.int .i64 v,f.v],g.v,.int .i64 z] E λ M F=>
 ∃ c:Sl,∃ A,(M=.returned (.tuple #[c.v,.int .i64 A]))/\
 (e F)/\
 ∃ (n:Int->World->Prop) (H:Int->World->Nat),(n 0 F)/\∀ (V:Env) (d:Int) (k:World),n d k->
 Br (decide (d<(↑c.len:Int)))
 (Rng d c.len (Zd c.a λ I=>
 ∃ C,(Aw k (Addr.add I d.toNat) [.int .i64 C])/\
 Calls prog 178 #[.pointer j,.pointer l,.int .i64 C] k λ N G=>
 (N=.returned (.tuple #[]))/\
 (n (IntKind.i64.wrap (d + 1)) G)/\H (IntKind.i64.wrap (d + 1)) G<H d k))
 (Calls prog 181 #[.pointer j,c.v] k λ O U=>
 ∃ i:Sl,(O=.returned (i.v))/\
 K (.tuple #[i.v,.int .i64 A]) U)))
def ZBD:Sk:=(.seq .leaf (.seq .leaf (.seq .leaf (.seq .leaf (.seq (.seq .leaf (.block (.loop [51] [(.int .i64)] [11,51,52,53,54,55,56,57,58,59] .leaf))) .leaf)))))
theorem ZyR (a:Option Addr) (b:Int) (K:Value->World->Prop) (w:World) (h:B107 a b K w):Zo prog 107 #[.pointer a,.int .i64 b] w K:=cq (sk:=ZBD) h func107
def B160 (c:Option Addr) (K:Value->World->Prop) (w:World):Prop:=
 Zd c λ b=>
 ∃ a,(Aw w (Addr.add b 0) [.int .i64 a])/\
 K (.int .i64 a) w
theorem Zyu (a:Option Addr) (K:Value->World->Prop) (w:World) (h:B160 a K w):Zo prog 160 #[.pointer a] w K:=cq (sk:=.leaf) h func160
def B55 (j:Option Addr) (K:Value->World->Prop) (w:World):Prop:=
 Zd j λ o=>
 ∃ f:Sl,(Aw w ⟨o.block,o.off + 3,none⟩ [f.v])/\
 ∃ q:World,∃ b:Sl,((Instr.makeSlice 30 (.int .i64 ((↑f.len:Int))) (.int .i64 ((↑f.len:Int)))).run prog w=.ok (b.v) q)/\
 ∃ (i:Int->World->Prop) (r:Int->World->Nat),(i 0 q)/\∀ (z:Env) (c:Int) (g:World),i c g->
 Br (decide (c<(↑b.len:Int)))
 (Drw g λ l x=>
 Zd j λ m=>
 ∃ d:Sl,(At l ⟨m.block,m.off + 3,none⟩ [d.v])/\
 Zd j λ n=>
 ∃ e:Sl,(At l ⟨n.block,n.off + 4,none⟩ [e.v])/\
 Calls prog 123 #[d.v,e.v,.int .i64 c] x λ t y=>
 ∃ p u,(t=.returned (.tuple #[.int .i64 p,.int .i64 u]))/\
 Rng c b.len (Zd b.a λ s=>
 ∃ k:World,(St 3 (Addr.add s c.toNat) (.int .i64 p) y k)/\
 (i (IntKind.i64.wrap (c + 1)) k)/\r (IntKind.i64.wrap (c + 1)) k<r c g))
 (K (b.v) g)
def sk55:Sk:=(.seq .leaf (.seq .leaf (.seq (.seq .leaf (.block (.loop [13] [(.int .i64)] [4,13,14,15,16,17,18,19,20,21,22,23,24,25,26,27,28,29,30,31,32] .leaf))) .leaf)))
theorem ZAn (a:Option Addr) (K:Value->World->Prop) (w:World) (h:B55 a K w):Zo prog 55 #[.pointer a] w K:=cq (sk:=sk55) h func55
def B134 (t:Option Addr) (K:Value->World->Prop) (w:World):Prop:=
 Zd t λ s=>
 ∃ u:Option Nat,(Aw w ⟨s.block,s.off + 5,none⟩ [.map u])/\
 Calls prog 209 #[.map u] w λ M Q=>
 ∃ v:Value,(M=.returned (v))/\
 Calls prog 61 #[v] Q λ N T=>
 ∃ f:Sl,(N=.returned (f.v))/\
 ∃ (n:Sl->Int->World->Prop) (H:Sl->Int->World->Nat),(n ⟨none,0,0⟩ 0 T)/\∀ (Y:Env) (c:Sl) (e:Int) (d:World),n c e d->
 Br (decide (e<(↑f.len:Int)))
 (Rng e f.len (Zd f.a λ I=>
 ∃ x,(Aw d (Addr.add I e.toNat) [.int .i64 x])/\
 Zd t λ r=>
 ∃ y:Option Nat,(Aw d ⟨r.block,r.off + 5,none⟩ [.map y])/\
 ∃ z:Option Addr,(∀ b,(λ b=>b=d) b->((Instr.lookup 183 (.map y) (.int .i64 x) false)).run prog b=.ok (.pointer z) b)/\
 Zd z λ J=>
 ∃ A C D,∃ g:Sl,(Aw d J [.int .i64 A,.int .i64 C,.int .i64 D,g.v])/\
 New (.cells #[.int .i64 0,.int .i64 0,.int .i64 0,.slice none 0 0] 197 (0,0)) (λ m U=>
 ∃ o:World,(St 197 ⟨m,0,none⟩ (.agg #[.int .i64 A,.int .i64 C,.int .i64 D,g.v]) U o)/\
 ∃ i:Sl,(Aw o ⟨m,0 + 3,none⟩ [i.v])/\
 Calls prog 166 #[i.v] o λ O V=>
 ∃ j:Sl,(O=.returned (j.v))/\
 ∃ p:World,(St 30 ⟨m,0 + 3,none⟩ (j.v) V p)/\
 ∃ E F G,∃ k:Sl,(Aw p ⟨m,0,none⟩ [.int .i64 E,.int .i64 F,.int .i64 G,k.v])/\
 New (.cells #[.int .i64 E,.int .i64 F,.int .i64 G,k.v] 197 (0,0)) (λ L X=>
 ∃ q:World,∃ l:Sl,((Builtin.append_ #[177,177] 177 #[c.v,.slice ((some ⟨L,0,none⟩)) 1 1]).run prog X=.ok (l.v) q)/\
 (n l (IntKind.i64.wrap (e + 1)) q)/\H l (IntKind.i64.wrap (e + 1)) q<H c e d) p) d))
 (K (c.v) d)
def ZBy:Sk:=(.seq .leaf (.seq .leaf (.seq (.seq .leaf (.block (.loop [3,14] [.sl,(.int .i64)] [3,5,6,14,15,16,17,18,19,20,21,22,23,24,25,26,27,28,29,30,31,32,33,34] .leaf))) .leaf)))
theorem ZyJ (a:Option Addr) (K:Value->World->Prop) (w:World) (h:B134 a K w):Zo prog 134 #[.pointer a] w K:=cq (sk:=ZBy) h func134
def B122 (g:Option Addr) (m:Int) (K:Value->World->Prop) (w:World):Prop:=
 Zd g λ f=>
 ∃ i:Option Nat,(Aw w ⟨f.block,f.off + 5,none⟩ [.map i])/\
 ∃ j:Option Addr,∃ k:Bool,(∀ b,(λ b=>b=w) b->((Instr.lookup 183 (.map i) (.int .i64 m) true)).run prog b=.ok (.tuple #[.pointer j,.bool k]) b)/\
 Br (!k)
 (K (.slice none 0 0) w)
 (Zd j λ e=>
 ∃ c:Sl,(Aw w ⟨e.block,e.off + 3,none⟩ [c.v])/\
 Calls prog 181 #[.pointer g,c.v] w λ l n=>
 ∃ d:Sl,(l=.returned (d.v))/\
 K (d.v) n)
theorem ZyO (a:Option Addr) (b:Int) (K:Value->World->Prop) (w:World) (h:B122 a b K w):Zo prog 122 #[.pointer a,.int .i64 b] w K:=cq (sk:=.leaf) h func122
def B181 (t:Option Addr) (i:Sl) (K:Value->World->Prop) (w:World):Prop:=
 ∃ (g:Sl->Int->World->Prop) (p:Sl->Int->World->Nat),(g ⟨none,0,0⟩ 0 w)/\∀ (y:Env) (b:Sl) (c:Int) (e:World),g b c e->
 Br (decide (c<(↑i.len:Int)))
 (Rng c i.len (Zd i.a λ q=>
 ∃ m,(Aw e (Addr.add q c.toNat) [.int .i64 m])/\
 Zd t λ l=>
 ∃ n,∃ d:Sl,(Aw e ⟨l.block,l.off + 1,none⟩ [.int .i64 n,d.v])/\
 Calls prog 253 #[.agg #[.int .i64 n,d.v],.int .i64 m] e λ s v=>
 ∃ o u,(s=.returned (.tuple #[.string o,.int .i64 u]))/\
 New (.cells #[.string o] 9 (0,0)) (λ r x=>
 ∃ k:World,∃ f:Sl,((Builtin.append_ #[31,31] 31 #[b.v,.slice ((some ⟨r,0,none⟩)) 1 1]).run prog x=.ok (f.v) k)/\
 (g f (IntKind.i64.wrap (c + 1)) k)/\p f (IntKind.i64.wrap (c + 1)) k<p b c e) v))
 (K (b.v) e)
def ZBn:Sk:=(.seq .leaf (.seq .leaf (.seq (.seq .leaf (.block (.loop [5,12] [.sl,(.int .i64)] [5,7,8,9,12,13,14,15,16,17,18,19,20,21,22,23,24,25,26,27,28,29] .leaf))) .leaf)))
theorem Zyb (c:Option Addr) (b:Sl) (K:Value->World->Prop) (w:World) (h:B181 c b K w):Zo prog 181 #[.pointer c,b.v] w K:=cq (sk:=ZBn) h func181
def B64 (e:Option Addr) (K:Value->World->Prop) (w:World):Prop:=
 New (.cells #[.slice none 0 0] 47 (0,0)) (λ y am=>
 New (.cells #[.nilFunc] 113 (0,0)) (λ c aq=>
 ∃ V:World,(St 113 ⟨c,0,none⟩ (.func (.func 132) #[] #[.pointer ((some ⟨y,0,none⟩))]) aq V)/\
 Drw V λ o ar=>
 ∃ z:Value,(At o ⟨c,0,none⟩ [z])/\
 Zd e λ aa=>
 ∃ A,(At o (Addr.add aa 0) [.int .i64 A])/\
 Zd e λ t=>
 ∃ C,(At o ⟨t.block,t.off + 1,none⟩ [.int .i64 C])/\
 New (.cells #[.int .i64 A,.int .i64 C] 3 (0,0)) (λ ac X=>
 (o X)/\
 Zak prog cl z [.slice ((some ⟨ac,0,none⟩)) 2 2] X λ af s=>
 (af=.returned (.tuple #[]))/\
 (o s)/\
 Zd e λ u=>
 ∃ f:Sl,(Aw s ⟨u.block,u.off + 1 + 1,none⟩ [f.v])/\
 Calls prog 133 #[f.v,.pointer ((some ⟨c,0,none⟩))] s λ ag Y=>
 (ag=.returned (.tuple #[]))/\
 Zd e λ v=>
 ∃ g:Sl,(Aw Y ⟨v.block,v.off + 3,none⟩ [g.v])/\
 Calls prog 133 #[g.v,.pointer ((some ⟨c,0,none⟩))] Y λ ah au=>
 (ah=.returned (.tuple #[]))/\
 Drw au λ p av=>
 ∃ D:Value,(At p ⟨c,0,none⟩ [D])/\
 Zd e λ x=>
 ∃ E:Option Nat,(At p ⟨x.block,x.off + 5,none⟩ [.map E])/\
 ∃ F:Int,(∀ b,p b->((Builtin.len_ #[183] 3 #[.map E])).run prog b=.ok (.int .i64 F) b)/\
 New (.cells #[.int .i64 F] 3 (0,0)) (λ ad O=>
 (p O)/\
 Zak prog cl D [.slice ((some ⟨ad,0,none⟩)) 1 1] O λ ai Q=>
 (ai=.returned (.tuple #[]))/\
 (p Q)/\
 Calls prog 134 #[.pointer e] Q λ aj an=>
 ∃ i:Sl,(aj=.returned (i.v))/\
 ∃ (r:Int->World->Prop) (Z:Int->World->Nat),(r 0 an)/\∀ (aw:Env) (d:Int) (m:World),r d m->
 Br (decide (d<(↑i.len:Int)))
 (Rng d i.len (Zd i.a λ ab=>
 ∃ G H I,∃ j:Sl,(Aw m (Addr.add ab (ZgL d.toNat 4)) [.int .i64 G,.int .i64 H,.int .i64 I,j.v])/\
 New (.cells #[.int .i64 0,.int .i64 0,.int .i64 0,.slice none 0 0] 197 (0,0)) (λ q ao=>
 ∃ n:World,(St 197 ⟨q,0,none⟩ (.agg #[.int .i64 G,.int .i64 H,.int .i64 I,j.v]) ao n)/\
 ∃ J:Value,(Aw n ⟨c,0,none⟩ [J])/\
 ∃ L,(Aw n ⟨q,0,none⟩ [.int .i64 L])/\
 ∃ M,(Aw n ⟨q,0 + 1,none⟩ [.int .i64 M])/\
 ∃ N,(Aw n ⟨q,0 + 2,none⟩ [.int .i64 N])/\
 New (.cells #[.int .i64 L,.int .i64 M,.int .i64 N] 3 (0,0)) (λ ae ap=>
 Zak prog cl J [.slice ((some ⟨ae,0,none⟩)) 3 3] ap λ ak T=>
 (ak=.returned (.tuple #[]))/\
 ∃ k:Sl,(Aw T ⟨q,0 + 3,none⟩ [k.v])/\
 Calls prog 133 #[k.v,.pointer ((some ⟨c,0,none⟩))] T λ al U=>
 (al=.returned (.tuple #[]))/\
 (r (IntKind.i64.wrap (d + 1)) U)/\Z (IntKind.i64.wrap (d + 1)) U<Z d m) n) m))
 (∃ l:Sl,(Aw m ⟨y,0,none⟩ [l.v])/\
 K (l.v) m)) av) ar) am) w
def sk64:Sk:=(.seq .leaf (.seq .leaf (.seq .leaf (.seq .leaf (.seq .leaf (.seq .leaf (.seq .leaf (.seq .leaf (.seq (.seq .leaf (.block (.loop [46] [(.int .i64)] [7,46,47,48,49,50,51,52,53,54,55,56,57,58,59,60,61,62,63] .leaf))) .leaf)))))))))
theorem ZAj (a:Option Addr) (K:Value->World->Prop) (w:World) (h:B64 a K w):Zo prog 64 #[.pointer a] w K:=cq (sk:=sk64) h func64
def B132 (i:Sl) (l:Option Addr) (K:Value->World->Prop) (w:World):Prop:=
 ∃ (g:Int->World->Prop) (p:Int->World->Nat),(g 0 w)/\∀ (v:Env) (b:Int) (f:World),g b f->
 Br (decide (b<(↑i.len:Int)))
 (Rng b i.len (Zd i.a λ r=>
 ∃ m,(Aw f (Addr.add r b.toNat) [.int .i64 m])/\
 Drw f λ k u=>
 Zd l λ q=>
 ∃ c:Sl,(At k q [c.v])/\
 Calls prog 128 #[.int .u64 (IntKind.u64.wrap m)] u λ s n=>
 ∃ d:Sl,(s=.returned (d.v))/\
 (k n)/\
 ∃ o:World,∃ e:Sl,((Builtin.append_ #[47,47] 47 #[c.v,d.v]).run prog n=.ok (e.v) o)/\
 ∃ j:World,((Instr.storeAt 47 (.pointer l) (e.v)).run prog o=.ok () j)/\
 (g (IntKind.i64.wrap (b + 1)) j)/\p (IntKind.i64.wrap (b + 1)) j<p b f))
 (K (.tuple #[]) f)
def ZBz:Sk:=(.seq .leaf (.block (.loop [7] [(.int .i64)] [4,7,8,9,10,11,12,13,14,15,16] .leaf)))
theorem ZyL (b:Sl) (c:Option Addr) (K:Value->World->Prop) (w:World) (h:B132 b c K w):Zo prog 132 #[b.v,.pointer c] w K:=cq (sk:=ZBz) h func132
def B133 (b:Sl) (d:Option Addr) (K:Value->World->Prop) (w:World):Prop:=
 Zd d λ i=>
 ∃ e:Value,(Aw w i [e])/\
 New (.cells #[.int .i64 ((↑b.len:Int))] 3 (0,0)) (λ k n=>
 Zak prog cl e [.slice ((some ⟨k,0,none⟩)) 1 1] n λ l g=>
 (l=.returned (.tuple #[]))/\
 Zd d λ j=>
 ∃ f:Value,(Aw g j [f])/\
 Zak prog cl f [.slice b.a b.len b.cap] g λ m o=>
 (m=.returned (.tuple #[]))/\
 K (.tuple #[]) o) w
theorem ZyK (b:Sl) (c:Option Addr) (K:Value->World->Prop) (w:World) (h:B133 b c K w):Zo prog 133 #[.slice b.a b.len b.cap,.pointer c] w K:=cq (sk:=.leaf) h func133
def B158 (I:Sl) (K:Value->World->Prop) (w:World):Prop:=
 Calls prog 91 #[I.v] w λ ck c7=>
 ∃ az,(ck=.returned (.pointer az))/\
 New (.cells #[.pointer none] 153 (0,0)) (λ J da=>
 ∃ bv:World,(St 153 ⟨J,0,none⟩ (.pointer az) da bv)/\
 New (.cells #[.nilFunc] 103 (0,0)) (λ g dc=>
 ∃ b9:World,(St 103 ⟨g,0,none⟩ (.func (.func 224) #[] #[.pointer ((some ⟨J,0,none⟩))]) dc b9)/\
 Drw b9 λ A de=>
 ∃ a0:Value,(At A ⟨g,0,none⟩ [a0])/\
 ∃ a2:Value,(At A ⟨g,0,none⟩ [a2])/\
 Zak prog cl a0 [.int .i64 9999] de λ cm ca=>
 ∃ a1,(cm=.returned (.int .i64 a1))/\
 (A ca)/\
 Zak prog cl a2 [.int .i64 60] ca λ cx cb=>
 ∃ a3,(cx=.returned (.int .i64 a3))/\
 (A cb)/\
 Calls prog 167 #[.int .i64 a1,.agg #[.int .i64 a3,.slice none 0 0],.slice none 0 0] cb λ c0 cc=>
 ∃ d,(c0=.returned (.pointer d))/\
 (A cc)/\
 Calls prog 225 #[.int .i64 4,.int .i64 10,.pointer ((some ⟨g,0,none⟩))] cc λ c1 c8=>
 ∃ n:Sl,(c1=.returned (n.v))/\
 Zd d λ ad=>
 ∃ bl:World,(St 30 ⟨ad.block,ad.off + 1 + 1,none⟩ (n.v) c8 bl)/\
 Calls prog 225 #[.int .i64 8,.int .i64 10000,.pointer ((some ⟨g,0,none⟩))] bl λ c2 c9=>
 ∃ o:Sl,(c2=.returned (o.v))/\
 Zd d λ ae=>
 ∃ U:World,(St 30 ⟨ae.block,ae.off + 3,none⟩ (o.v) c9 U)/\
 Zd d λ af=>
 ∃ D:Sl,(Aw U ⟨af.block,af.off + 3,none⟩ [D.v])/\
 ∃ bm:World,∃ p:Sl,((Instr.makeSlice 30 (.int .i64 ((↑D.len:Int))) (.int .i64 ((↑D.len:Int)))).run prog U=.ok (p.v) bm)/\
 Zd d λ ag=>
 ∃ bn:World,(St 30 ⟨ag.block,ag.off + 4,none⟩ (p.v) bm bn)/\
 ∃ (y:Bool->World->Prop),(Drw bn λ f bo=>
 Zd d λ ch=>
 ∃ a4,(At f (Addr.add ch 0) [.int .i64 a4])/\
 Br (decide (a4>0))
 (Zd d λ ah=>
 ∃ a5,∃ q:Sl,(At f ⟨ah.block,ah.off + 1,none⟩ [.int .i64 a5,q.v])/\
 Calls prog 165 #[.agg #[.int .i64 a5,q.v]] bo λ c3 V=>
 ∃ a6,(c3=.returned (.bool a6))/\
 (f V)/\
 Br a6
 (Zd d λ ai=>
 ∃ r:Sl,(At f ⟨ai.block,ai.off + 3,none⟩ [r.v])/\
 Zd d λ aj=>
 ∃ s:Sl,(At f ⟨aj.block,aj.off + 4,none⟩ [s.v])/\
 Calls prog 226 #[r.v,s.v] V λ c4 X=>
 ∃ a7,(c4=.returned (.bool a7))/\
 (f X)/\
 Br a7
 (Zd d λ ak=>
 ∃ E:Sl,(At f ⟨ak.block,ak.off + 3,none⟩ [E.v])/\
 Rng 0 E.len (Zd E.a λ ci=>
 ∃ a8,(At f (Addr.add ci 0) [.int .i64 a8])/\
 Zd d λ al=>
 ∃ a9,∃ t:Sl,(At f ⟨al.block,al.off + 1,none⟩ [.int .i64 a9,t.v])/\
 Calls prog 164 #[.agg #[.int .i64 a9,t.v]] X λ c5 bp=>
 ∃ ba,(c5=.returned (.int .i64 ba))/\
 (f bp)/\
 y (a8==ba) bp))
 (y false X))
 (y false V))
 (y false bo))/\
 ∀ (df:Env) (ar:Bool) (Y:World),y ar Y->
 ∃ bb:Value,(Aw Y ⟨g,0,none⟩ [bb])/\
 Zak prog cl bb [.int .i64 600] Y λ c6 db=>
 ∃ bc,(c6=.returned (.int .i64 bc))/\
 ∃ (x:Bool->Int->Int->World->Prop) (v:Bool->Int->Int->World->Nat),(x ar 0 0 db)/\∀ (dg:Env) (l:Bool) (C:Int) (e:Int) (k:World),x l C e k->
 Br (decide (e<bc))
 (∃ (z:Option Addr->World->Prop),(Drw k λ b bq=>
 ∃ Q:Value,(At b ⟨g,0,none⟩ [Q])/\
 ∃ H:Value,(At b ⟨g,0,none⟩ [H])/\
 ∃ F:Value,(At b ⟨g,0,none⟩ [F])/\
 (Zak prog cl Q [.int .i64 28629151] bq λ cn Z=>
 ∃ G,(cn=.returned (.int .i64 G))/\
 (b Z)/\
 (Zak prog cl H [.int .i64 8] Z λ co aa=>
 ∃ T,(co=.returned (.int .i64 T))/\
 (b aa)/\
 (Zak prog cl F [.int .i64 600] aa λ cp br=>
 ∃ bg,(cp=.returned (.int .i64 bg))/\
 (b br)/\
 New (.cells #[.int .i64 0,.int .i64 0,.int .i64 0,.slice none 0 0] 197 (0,0)) (λ an bs=>
 (b bs)/\
 ∃ bt:World,(St 197 ⟨an,0,none⟩ (.agg #[.int .i64 G,.int .i64 T,.int .i64 bg,.slice none 0 0]) bs bt)/\
 z ((some ⟨an,0,none⟩)) bt) br)/\
 New (.cells #[.int .i64 0,.int .i64 0,.int .i64 0,.slice none 0 0] 197 (0,0)) (λ ao bu=>
 (b bu)/\
 Zak prog cl F [.int .i64 600] bu λ cq bw=>
 ∃ bh,(cq=.returned (.int .i64 bh))/\
 (b bw)/\
 ∃ bx:World,(St 197 ⟨ao,0,none⟩ (.agg #[.int .i64 G,.int .i64 T,.int .i64 bh,.slice none 0 0]) bw bx)/\
 z ((some ⟨ao,0,none⟩)) bx) aa)/\
 New (.cells #[.int .i64 0,.int .i64 0,.int .i64 0,.slice none 0 0] 197 (0,0)) (λ ap bz=>
 (b bz)/\
 Zak prog cl H [.int .i64 8] bz λ cr b0=>
 ∃ be,(cr=.returned (.int .i64 be))/\
 (b b0)/\
 Zak prog cl F [.int .i64 600] b0 λ cs b1=>
 ∃ bi,(cs=.returned (.int .i64 bi))/\
 (b b1)/\
 ∃ b2:World,(St 197 ⟨ap,0,none⟩ (.agg #[.int .i64 G,.int .i64 be,.int .i64 bi,.slice none 0 0]) b1 b2)/\
 z ((some ⟨ap,0,none⟩)) b2) Z)/\
 New (.cells #[.int .i64 0,.int .i64 0,.int .i64 0,.slice none 0 0] 197 (0,0)) (λ aq b3=>
 (b b3)/\
 Zak prog cl Q [.int .i64 28629151] b3 λ ct b4=>
 ∃ bd,(ct=.returned (.int .i64 bd))/\
 (b b4)/\
 Zak prog cl H [.int .i64 8] b4 λ cu b5=>
 ∃ bf,(cu=.returned (.int .i64 bf))/\
 (b b5)/\
 Zak prog cl F [.int .i64 600] b5 λ cv b6=>
 ∃ bj,(cv=.returned (.int .i64 bj))/\
 (b b6)/\
 ∃ b7:World,(St 197 ⟨aq,0,none⟩ (.agg #[.int .i64 bd,.int .i64 bf,.int .i64 bj,.slice none 0 0]) b6 b7)/\
 z ((some ⟨aq,0,none⟩)) b7) bq)/\
 ∀ (dh:Env) (j:Option Addr) (b8:World),z j b8->
 Calls prog 225 #[.int .i64 600,.int .i64 600,.pointer ((some ⟨g,0,none⟩))] b8 λ cw dd=>
 ∃ u:Sl,(cw=.returned (u.v))/\
 Zd j λ am=>
 ∃ i:World,(St 30 ⟨am.block,am.off + 3,none⟩ (u.v) dd i)/\
 Br l
 (Zd j λ cj=>
 ∃ bk,(Aw i (Addr.add cj 0) [.int .i64 bk])/\
 Br (decide (bk>C))
 (Zd j λ cd=>
 ∃ au av aw,∃ m:Sl,(Aw i cd [.int .i64 au,.int .i64 av,.int .i64 aw,m.v])/\
 Calls prog 227 #[.pointer d,.agg #[.int .i64 au,.int .i64 av,.int .i64 aw,m.v]] i λ cy ab=>
 ∃ L,(cy=.returned (.bool L))/\
 Zd j λ ce=>
 ∃ M,(Aw ab (Addr.add ce 0) [.int .i64 M])/\
 (x L M (IntKind.i64.wrap (e + 1)) ab)/\v L M (IntKind.i64.wrap (e + 1)) ab<v l C e k)
 (Zd j λ cf=>
 ∃ N,(Aw i (Addr.add cf 0) [.int .i64 N])/\
 (x false N (IntKind.i64.wrap (e + 1)) i)/\v false N (IntKind.i64.wrap (e + 1)) i<v l C e k))
 (Zd j λ cg=>
 ∃ O,(Aw i (Addr.add cg 0) [.int .i64 O])/\
 (x false O (IntKind.i64.wrap (e + 1)) i)/\v false O (IntKind.i64.wrap (e + 1)) i<v l C e k))
 (∃ ax,(Aw k ⟨J,0,none⟩ [.pointer ax])/\
 Calls prog 96 #[.pointer ax] k λ cz ac=>
 ∃ ay,(cz=.returned (.bool ay))/\
 Br (!ay)
 (K (.tuple #[.pointer none,.int .i64 6]) ac)
 (Br (!l)
 (K (.tuple #[.pointer none,.int .i64 6]) ac)
 (K (.tuple #[.pointer d,.int .i64 0]) ac)))) bv) c7
def ZBt:Sk:=(.seq .leaf (.seq .leaf (.seq .leaf (.seq .leaf (.seq .leaf (.seq .leaf (.seq .leaf (.seq .leaf (.cut [8] [.bool] [8,41,42,43,44,45,46,47,48,49,50,51,52,53,54,55,56,57,58,59,60,61,62,63,64,65,66,67,68,69,70,71,72,73,74,75,76,77] .leaf (.seq .leaf (.seq (.seq .leaf (.block (.loop [8,9,80] [.bool,(.int .i64),(.int .i64)] [8,9,10,80,81,82,83,84,85,86,87,88,89,90,91,92,93,94,95,96,97,98,99,100,101,102,103,104,105,106] (.seq .leaf (.seq .leaf (.seq (.block (.cut [10] [.ptr] [10,82,83,84,85,86,87,88] .leaf .leaf)) .leaf)))))) .leaf)))))))))))
theorem Zyw (b:Sl) (K:Value->World->Prop) (w:World) (h:B158 b K w):Zo prog 158 #[b.v] w K:=cq (sk:=ZBt) h func158
def B224 (f:Int) (d:Option Addr) (K:Value->World->Prop) (w:World):Prop:=
 Zd d λ c=>
 ∃ a,(Aw w c [.pointer a])/\
 Calls prog 93 #[.pointer a,.int .u64 (IntKind.u64.wrap f)] w λ e i=>
 ∃ b,(e=.returned (.int .u64 b))/\
 K (.int .i64 (IntKind.i64.wrap b)) i
theorem ZxY (b:Int) (a:Option Addr) (K:Value->World->Prop) (w:World) (h:B224 b a K w):Zo prog 224 #[.int .i64 b,.pointer a] w K:=cq (sk:=.leaf) h func224
def B225 (v:Int) (u:Int) (j:Option Addr) (K:Value->World->Prop) (w:World):Prop:=
 Zd j λ q=>
 ∃ m:Value,(Aw w q [m])/\
 Zak prog cl m [.int .i64 v] w λ s x=>
 ∃ n,(s=.returned (.int .i64 n))/\
 ∃ (f:Sl->Int->World->Prop) (o:Sl->Int->World->Nat),(f ⟨none,0,0⟩ 0 x)/\∀ (A:Env) (b:Sl) (c:Int) (e:World),f b c e->
 Br (decide (c<n))
 (Zd j λ p=>
 ∃ k:Value,(Aw e p [k])/\
 Zak prog cl k [.int .i64 u] e λ t y=>
 ∃ l,(t=.returned (.int .i64 l))/\
 New (.cells #[.int .i64 l] 3 (0,0)) (λ r z=>
 ∃ i:World,∃ d:Sl,((Builtin.append_ #[30,30] 30 #[b.v,.slice ((some ⟨r,0,none⟩)) 1 1]).run prog z=.ok (d.v) i)/\
 (f d (IntKind.i64.wrap (c + 1)) i)/\o d (IntKind.i64.wrap (c + 1)) i<o b c e) y)
 (K (b.v) e)
def ZBi:Sk:=(.seq .leaf (.seq .leaf (.seq (.seq .leaf (.block (.loop [6,10] [.sl,(.int .i64)] [6,10,11,12,13,14,15,16,17,18] .leaf))) .leaf)))
theorem ZxX (c:Int) (b:Int) (a:Option Addr) (K:Value->World->Prop) (w:World) (h:B225 c b a K w):Zo prog 225 #[.int .i64 c,.int .i64 b,.pointer a] w K:=cq (sk:=ZBi) h func225
def B227 (j:Option Addr) (Y:Int) (Z:Int) (aa:Int) (p:Sl) (K:Value->World->Prop) (w:World):Prop:=
 New (.cells #[.int .i64 Y,.int .i64 Z,.int .i64 aa,p.v] 197 (0,0)) (λ d n=>
 ∃ (t:World->Prop),(∃ z,(Aw n ⟨d,0,none⟩ [.int .i64 z])/\
 ∃ A,(Aw n ⟨d,0 + 1,none⟩ [.int .i64 A])/\
 ∃ C,(Aw n ⟨d,0 + 2,none⟩ [.int .i64 C])/\
 Calls prog 101 #[.pointer j,.int .i64 z,.int .i64 A,.int .i64 C] n λ U k=>
 ∃ D,(U=.returned (.int .i64 D))/\
 Br (D !=0)
 (K (.bool false) k)
 (∃ m:Sl,(Aw k ⟨d,0 + 3,none⟩ [m.v])/\
 ∃ E,(Aw k ⟨d,0 + 2,none⟩ [.int .i64 E])/\
 Br (decide ((↑m.len:Int)>E))
 (K (.bool false) k)
 (t  k)))/\
 ∀ (ad:Env)  (r:World),t  r->
 ∃ g:Sl,(Aw r ⟨d,0 + 3,none⟩ [g.v])/\
 ∃ (o:Int->Int->World->Prop) (Q:Int->Int->World->Nat),(o ((-1)) 0 r)/\∀ (ae:Env) (q:Int) (e:Int) (c:World),o q e c->
 Br (decide (e<(↑g.len:Int)))
 (Rng e g.len (Zd g.a λ T=>
 ∃ f,(Aw c (Addr.add T e.toNat) [.int .i64 f])/\
 ∃ (u:World->Prop),(Zd j λ v=>
 ∃ F:Option Nat,(Aw c ⟨v.block,v.off + 6,none⟩ [.map F])/\
 ∃ ab:Int,∃ G:Bool,(∀ b,(λ b=>b=c) b->((Instr.lookup 184 (.map F) (.int .i64 f) true)).run prog b=.ok (.tuple #[.int .i64 ab,.bool G]) b)/\
 Br G
 (K (.bool false) c)
 (Br (decide (f<=q))
 (K (.bool false) c)
 (Zd j λ x=>
 ∃ H,∃ i:Sl,(Aw c ⟨x.block,x.off + 1,none⟩ [.int .i64 H,i.v])/\
 Calls prog 164 #[.agg #[.int .i64 H,i.v]] c λ V N=>
 ∃ I,(V=.returned (.int .i64 I))/\
 Br (decide (f >= I))
 (K (.bool false) N)
 (u  N))))/\
 ∀ (af:Env)  (O:World),u  O->
 Drw O λ l ac=>
 Zd j λ y=>
 ∃ J:Option Nat,(At l ⟨y.block,y.off + 5,none⟩ [.map J])/\
 ∃ L,(At l ⟨d,0,none⟩ [.int .i64 L])/\
 ∃ M:Option Addr,(∀ b,l b->((Instr.lookup 183 (.map J) (.int .i64 L) false)).run prog b=.ok (.pointer M) b)/\
 Calls prog 178 #[.pointer j,.pointer M,.int .i64 f] ac λ X s=>
 (X=.returned (.tuple #[]))/\
 (l s)/\
 (o f (IntKind.i64.wrap (e + 1)) s)/\Q f (IntKind.i64.wrap (e + 1)) s<Q q e c))
 (K (.bool true) c)) w
def ZBh:Sk:=(.seq .leaf (.cut [] [] [4,10,11,12,13,14,15,16,17,18,19,20,21,22,23,24,25,26] .leaf (.seq .leaf (.seq (.seq .leaf (.block (.loop [5,30] [(.int .i64),(.int .i64)] [4,5,7,8,9,30,31,32,33,34,35,36,37,38,39,40,41,42,43,44,45,46,47,48,49,50,51,52,53,54,55,56,57,58,59,60,61,62,63,64,65,66,67,68,69] (.seq .leaf (.seq .leaf (.seq (.block (.seq .leaf (.cut [] [] [4,8,9,34,35,36,37,38,39,40,41,42,43,44,45,46,47,48,49,50,51,52,53,54,55,56,57] .leaf .leaf))) .leaf)))))) .leaf))))
theorem ZxV (c:Option Addr) (d:Int) (e:Int) (f:Int) (b:Sl) (K:Value->World->Prop) (w:World) (h:B227 c d e f b K w):Zo prog 227 #[.pointer c,.agg #[.int .i64 d,.int .i64 e,.int .i64 f,b.v]] w K:=cq (sk:=ZBh) h func227
end
end Go.Proofs.YtlplemdmegpoeaaGreatDoor




namespace Go.Proofs.YtlplemdmegpoeaaGreatDoor
section
open Go Go.VC Tryz
variable {R:Cx} {Hs Rest:List HP} {w:World}
theorem Zqp:∀ a b:List Int,(a++b).sum=a.sum + b.sum
 |[],b=>by simp
 |x::a,b=>by simp only [List.cons_append,List.sum_cons,Zqp a b];omega
theorem ZtI {g:List Int} {j:Nat} (h:j<g.length):(g.take (j + 1)).sum=(g.take j).sum + g[j]:=by
 rw [List.take_add_one,List.getElem?_eq_getElem h,Zqp];simp
theorem Znj {g:List Int} (h:∀ x∈g,0<=x/\x<=10):0<=g.sum/\g.sum<=10 * g.length:=by
 induction g with
 |nil=>simp
 |cons a g ih=>
  have:=ih λ x hx=>h x (List.mem_cons_of_mem _ hx);have:=h a List.mem_cons_self;simp only [List.sum_cons,List.length_cons];omega
def Zvp (g:List Int):Bool:=g.all λ x=>decide (1<=x/\x<=10)
def ZeJ (n:Int) (g:List Int):Bool:=decide (1<=n/\n<=60/\1<=g.length/\g.length<=4) && (Zvp g && decide (g.sum<=10))
def Za5 (n:Int) (g:List Int):Int:=if ZeJ n g then n * g.sum else 0
theorem Zan {n:Int} {g:List Int}:ZeJ n g=true↔(1<=n/\n<=60/\1<=g.length/\g.length<=4)/\(∀ x∈g,1<=x/\x<=10)/\g.sum<=10:=by
 simp [ZeJ,Zvp]
theorem Zjk {g:List Int} (h:∀ x∈g,1<=x/\x<=10) (hl:1<=g.length):1<=g.sum:=by
 match g,hl with
 |a::g,_=>
  have h1:=h a List.mem_cons_self;have h2:=Znj (g:=g) λ x hx=>by have:=h x (List.mem_cons_of_mem _ hx);omega
  simp only [List.sum_cons];omega
theorem ZmJ {n:Int} {g:List Int} (h:ZeJ n g=true):Za5 n g=n * g.sum:=by unfold Za5;rw [if_pos h]
theorem Zvj {a b:Int} (h0:0<=a) (h1:a<=60) (h2:0<=b) (h3:b<=10):0<=a * b/\a * b<=600:=
 ⟨Int.mul_nonneg h0 h2,by have:=Int.mul_le_mul h1 h3 h2 (by omega);omega⟩
theorem Zc7 (n:Int) (g:List Int):0<=Za5 n g/\Za5 n g<=600:=by
 unfold Za5;split
 ·rename_i h
  obtain ⟨h1,h2,h3⟩:=Zan.1 h;have:=Znj (λ x hx=>by have:=h2 x hx;omega) (g:=g);exact Zvj (by omega) (by omega) (by omega) (by omega)
 ·omega
abbrev ZgM (n:Int) (s:Sl):Obj:=.cells [.int .i64 n,.slice s.a s.len s.cap].toArray 37 (0,0)
theorem ZbV {n:Int} {s:Sl} {g:List Int} (hs:RoI R s g) (hg:∀ x∈g,0<=x/\x<=10) (hl:g.length<=4) (hw:Sat R Hs w):
  Zo prog 236 #[.agg #[.int .i64 n,.slice s.a s.len s.cap]] w λ v w'=>v=.int .i64 g.sum/\Sat R Hs w':=by
 have hlen:=hs.len;apply ZxM;refine Zb hw λ p w hw=>?_;have hw:Sat R (pts p (ZgM n s)::Hs) w:=hw;refine ⟨s,oA hw,?_⟩;refine ⟨λ m i w=>∃ j:Nat,i=j/\j<=g.length/\m=(g.take j).sum/\Sat R (pts p (ZgM n s)::Hs) w,λ _ i _=>g.length - i.toNat,⟨0,rfl,by omega,by simp,hw⟩,?_⟩;clear hw;rintro _ _ _ w ⟨j,rfl,hj,rfl,hw⟩;refine Br.d (λ h=>?_) (λ h=>?_)
 ·have hj2:j<g.length:=by omega
  refine hs.idx (eqS hw) hj2 ?_;have hb:=Znj (λ x hx=>hg x (List.mem_of_mem_take hx)) (g:=g.take j);have hb2:(g.take j).length<=4:=by rw [List.length_take];omega
  have hx:=hg g[j] (List.getElem_mem _);rw [Zl (x:=(j:Int) + 1) (by omega) (by omega),Zl (by omega) (by omega)];exact ⟨⟨j + 1,by omega,by omega,(ZtI hj2).symm,hw⟩,by dsimp only;omega⟩
 ·rw [List.take_of_length_le (by omega)]
  exact ⟨rfl,hw.drop⟩
theorem Zr8 {s:Sl} {l:List Int} {f:Value} {p:Int->Bool} (hs:RoI R s l) (hf:∀ x w,Sat R Hs w->Zak prog cl f [.int .i64 x] w λ e w'=>e=.returned (.bool (p x))/\Sat R Hs w') (hw:Sat R Hs w):
  Zo prog 272 #[.slice s.a s.len s.cap,f] w λ v w'=>(∃ n:Int,v=.int .i64 n/\(l.any p=true↔0<=n))/\Sat R Hs w':=by
 have hlen:=hs.len;have hbd:=hs.bound;apply Zxu;refine ⟨λ i w=>∃ j:Nat,i=j/\j<=l.length/\(l.take j).any p=false/\Sat R Hs w,λ i _=>l.length - i.toNat,⟨0,rfl,by omega,by simp,hw⟩,?_⟩;clear hw;rintro _ _ w ⟨j,rfl,hj,hn,hw⟩;refine Br.d (λ h=>?_) (λ h=>?_)
 ·have hj2:j<l.length:=by omega
  refine hs.idx (eqS hw) hj2 ?_;refine (hf l[j] _ hw).mono ?_;rintro _ w ⟨rfl,hw⟩;refine ⟨_,rfl,Br.mk (λ h=>⟨⟨j,rfl,⟨λ _=>by omega,λ _=>List.any_eq_true.2 ⟨_,List.getElem_mem _,h⟩⟩⟩,hw⟩) (λ h=>?_)⟩;rw [Zl (by omega) (by omega)];refine ⟨⟨j + 1,by omega,by omega,?_,hw⟩,by dsimp only;omega⟩;rw [List.take_add_one,List.getElem?_eq_getElem hj2,List.any_append,hn];simp [h]
 ·refine ⟨⟨-1,rfl,⟨λ h2=>?_,λ h2=>by omega⟩⟩,hw⟩
  rw [List.take_of_length_le (by omega)] at hn;rw [hn] at h2;cases h2
theorem Zjd {s:Sl} {l:List Int} {f:Value} {p:Int->Bool} (hs:RoI R s l) (hf:∀ x w,Sat R Hs w->Zak prog cl f [.int .i64 x] w λ e w'=>e=.returned (.bool (p x))/\Sat R Hs w') (hw:Sat R Hs w):
  Zo prog 212 #[.slice s.a s.len s.cap,f] w λ v w'=>v=.bool (l.any p)/\Sat R Hs w':=by
 apply Zx5;refine (Zr8 hs hf hw).use ?_;rintro _ w ⟨⟨n,rfl,h⟩,hw⟩;refine ⟨n,rfl,?_,hw⟩
 congr 1
 rw [Bool.eq_iff_iff,decide_eq_true_iff];exact h.symm
theorem Zuc {g:Int} (hw:Sat R Hs w):Zo prog 237 #[.int .i64 g] w λ v w'=>v=.bool (!decide (1<=g/\g<=10))/\Sat R Hs w':=by
 apply ZxL;refine Br.d (λ h=>⟨?_,hw⟩) (λ h=>⟨?_,hw⟩)
 ·rw [decide_eq_false (by omega)];rfl
 ·congr 1
  rw [<-decide_not,decide_eq_decide];omega
theorem Zft {n:Int} {g:List Int} (h:¬ ((1<=n/\n<=60/\1<=g.length/\g.length<=4)/\(∀ x∈g,1<=x/\x<=10)/\g.sum<=10)):ZeJ n g=false:=by
 rw [<-Bool.not_eq_true,Zan];exact h
theorem Zei {n:Int} {s:Sl} {g:List Int} (hs:RoI R s g) (hw:Sat R Hs w):
  Zo prog 165 #[.agg #[.int .i64 n,.slice s.a s.len s.cap]] w λ v w'=>v=.bool (ZeJ n g)/\Sat R Hs w':=by
 have hlen:=hs.len;apply Zyq;refine Zb hw λ p w hw=>?_;have hw:Sat R (pts p (ZgM n s)::Hs) w:=hw;refine ⟨n,oA hw,Br.d (λ h1=>⟨by rw [Zft (λ h=>by omega)],hw.drop⟩) (λ h1=>?_)⟩;refine ⟨n,oA hw,Br.d (λ h2=>⟨by rw [Zft (λ h=>by omega)],hw.drop⟩) (λ h2=>?_)⟩;refine ⟨s,oA hw,Br.d (λ h3=>⟨by rw [Zft (λ h=>by omega)],hw.drop⟩) (λ h3=>?_)⟩;refine ⟨s,oA hw,Br.d (λ h4=>⟨by rw [Zft (λ h=>by omega)],hw.drop⟩) (λ h4=>?_)⟩;refine ⟨s,oA hw,?_⟩;refine (Zjd (p:=λ x=>!decide (1<=x/\x<=10)) hs (λ x w hw=>Zak.mk (by kernel_rfl) ((Zuc hw).use λ v w' h=>⟨by rw [h.1],h.2⟩)) hw).use ?_;rintro _ w ⟨rfl,hw⟩;refine ⟨_,rfl,Br.mk (λ h5=>⟨?_,hw.drop⟩) (λ h5=>?_)⟩
 ·rw [Zft (λ h=>?_)]
  obtain ⟨x,hx,hx2⟩:=List.any_eq_true.1 h5;have:=h.2.1 x hx;rw [decide_eq_true this] at hx2;cases hx2
 have hg:∀ x∈g,1<=x/\x<=10:=λ x hx=>by
  by_cases h:1<=x/\x<=10
  ·exact h
  ·have:(g.any λ x=>!decide (1<=x/\x<=10))=true:=List.any_eq_true.2 ⟨x,hx,by rw [decide_eq_false h];rfl⟩
   rw [h5] at this;cases this
 refine ⟨n,s,At.own (eqS hw) (by exact ⟨rfl,rfl,trivial⟩),?_⟩;refine (ZbV hs (λ x hx=>by have:=hg x hx;omega) (by omega) hw).use ?_;rintro _ w ⟨rfl,hw⟩;refine ⟨_,rfl,?_,hw.drop⟩
 congr 1
 rw [Bool.eq_iff_iff,decide_eq_true_iff,Zan];exact ⟨λ h=>⟨⟨by omega,by omega,by omega,by omega⟩,hg,h⟩,λ h=>h.2.2⟩
theorem ZbU {n:Int} {s:Sl} {g:List Int} (hs:RoI R s g) (hw:Sat R Hs w):
  Zo prog 164 #[.agg #[.int .i64 n,.slice s.a s.len s.cap]] w λ v w'=>v=.int .i64 (Za5 n g)/\Sat R Hs w':=by
 apply Zyr;refine Zb hw λ p w hw=>?_;have hw:Sat R (pts p (ZgM n s)::Hs) w:=hw;refine ⟨n,s,At.own (eqS hw) (by exact ⟨rfl,rfl,trivial⟩),?_⟩;refine (Zei hs hw).use ?_;rintro _ w ⟨rfl,hw⟩;refine ⟨_,rfl,Br.nb (λ h=>⟨?_,hw.drop⟩) (λ h=>?_)⟩
 ·unfold Za5;rw [h];rfl
 obtain ⟨h1,h2,h3⟩:=Zan.1 h;refine Zu hw λ w hw=>?_;refine ⟨n,oS,n,s,At.own Zhj (by exact ⟨rfl,rfl,trivial⟩),?_⟩;refine (ZbV hs (λ x hx=>by have:=h2 x hx;omega) (by omega) hw).use ?_;rintro _ w ⟨rfl,hw⟩;have hb:=Zc7 n g;rw [ZmJ h] at hb ⊢;refine ⟨_,rfl,hw,?_,hw.drop⟩;rw [Zl (by omega) (by omega)]
theorem ZkU {n k:Int} {s:Sl} {g:List Int} (hs:RoI R s g) (hw:Sat R Hs w):
  Zo prog 250 #[.agg #[.int .i64 n,.slice s.a s.len s.cap],.int .i64 k] w λ v w'=>v=.bool (decide (0<=k/\k<Za5 n g))/\Sat R Hs w':=by
 apply ZxA;refine Zb hw λ p w hw=>?_;have hw:Sat R (pts p (ZgM n s)::Hs) w:=hw;refine Br.d (λ h=>?_) (λ h=>⟨by rw [decide_eq_false (by omega)],hw.drop⟩);refine ⟨n,s,At.own (eqS hw) (by exact ⟨rfl,rfl,trivial⟩),?_⟩;refine (ZbU hs hw).use ?_;rintro _ w ⟨rfl,hw⟩;refine ⟨_,rfl,?_,hw.drop⟩
 congr 1
 rw [decide_eq_decide];omega
end
section
open Go Go.VC Tryz
def ZhG:List Int:=[65,66,67,68,69,70,71,72,74,75]
def Za1 (c:Nat):Int:=ZhG.getD c 0
def Zns (r:Nat):List Int:=(if 10<=r then [48 + ((r / 10:Nat):Int)] else [])++[48 + ((r % 10:Nat):Int)]
def Zfu (r c:Nat):List Int:=Zns r++[Za1 c]
def Zwy (w k:Int):ByteArray:=VC.strOf (Zfu (k / w + 1).toNat (k % w).toNat)
def ZrP:ByteArray:=ByteArray.mk #[65,66,67,68,69,70,71,72,74,75]
theorem Zpc:∀ c:Fin 10,ZrP.extract c.1 (c.1 + 1)=VC.strOf [Za1 c.1]:=by decide +kernel
theorem ZrO:∀ c:Fin 10,∃ b:UInt8,ZrP[c.1]? =some b/\(b.toNat:Int)=Za1 c.1:=by decide +kernel
theorem ZrU:∀ r:Fin 61,∀ c:Fin 10,VC.strOf (Zns r.1)++VC.strOf [Za1 c.1]=VC.strOf (Zfu r.1 c.1):=by decide +kernel
def Zkp (c:Int):Int:=match ZhG.findIdx? (·==c) with|some i=>i|none=>-1
def Zr4 (c:Int):Bool:=decide (48<=c/\c<=57)
def prs:List Int->Bool->Int->Int->Option (Int × Int)
 |[],_,row,last=>some (row,last)
 |c::l,first,row,last=>
  if 0<=last\/(first=true/\c=48)\/row>60 then none
  else if Zr4 c then prs l false (10 * row + (c - 48)) last
  else if Zkp c<0 then none
  else prs l false row (Zkp c)
def Zke (n w:Int) (lab:ByteArray):Int × Int:=
 match prs (ZY lab) true 0 (-1) with
 |none=>(0,2)
 |some (row,last)=>if row<1\/row>n\/last<0\/last >= w then (0,2) else ((row - 1) * w + last,0)
theorem Zrc:∀ r:Fin 60,∀ c:Fin 10,prs (Zfu (r.1 + 1) c.1) true 0 (-1)=some ((r.1:Int) + 1,(c.1:Int)):=by decide +kernel
def ZA2 (l:List Int) (row:Int):Prop:=
 (l=[]/\row=0)\/(∃ d:Int,1<=d/\d<=9/\l=[48 + d]/\row=d)\/(∃ d e:Int,1<=d/\d<=9/\0<=e/\e<=9/\l=[48 + d,48 + e]/\row=10 * d + e)\/100<=row
def PrsI (l:List Int) (row last:Int):Prop:=(last=-1/\ZA2 l row)\/(0<=last/\last<10/\∃ l',l=l'++[Za1 last.toNat]/\ZA2 l' row)
theorem Zko {c:Int} (h:¬ Zkp c<0):0<=Zkp c/\Zkp c<10/\Za1 (Zkp c).toNat=c:=by
 unfold Zkp at *;split at h
 ·rename_i i hi
  obtain ⟨hlt,hp,_⟩:=List.findIdx?_eq_some_iff_getElem.1 hi;have hlt':i<10:=hlt;refine ⟨by omega,by omega,?_⟩;unfold Za1;rw [Int.toNat_natCast,List.getD_eq_getElem?_getD,List.getElem?_eq_getElem hlt];simpa using hp
 ·omega
theorem Zmx:∀ (l a:List Int) (first:Bool) (row last row' last':Int),(first=true↔a=[])->PrsI a row last->prs l first row last=some (row',last')->PrsI (a++l) row' last'
 |[],a,_,row,last,row',last',_,h,e=>by
  simp only [prs,Option.some.injEq,Prod.mk.injEq] at e;rw [List.append_nil,<-e.1,<-e.2];exact h
 |c::l,a,first,row,last,row',last',hf,h,e=>by
  have hne:(false=true↔a++[c]=[]):=by simp
  unfold prs at e;split at e
  ·cases e
  rename_i h1;have hl:last<0:=by omega
  have hd:ZA2 a row:=by
   rcases h with h|h
   ·exact h.2
   ·omega
  split at e
  ·rename_i h2
   have h2:=of_decide_eq_true h2;have:=Zmx l (a++[c]) false _ last row' last' hne (.inl ⟨?_,?_⟩) e
   ·rw [List.append_assoc] at this;exact this
   ·rcases h with h|h
    ·exact h.1
    ·omega
   ·rcases hd with ⟨rfl,rfl⟩|⟨d,hd1,hd2,rfl,rfl⟩|⟨d,e2,hd1,hd2,he1,he2,rfl,rfl⟩|hbig
    ·have:first=true:=hf.2 rfl
     refine .inr (.inl ⟨c - 48,?_,by omega,?_,by omega⟩)
     ·have:c≠48:=λ hc=>h1 (.inr (.inl ⟨this,hc⟩))
      omega
     ·rw [show (48:Int) + (c - 48)=c by omega];rfl
    ·refine .inr (.inr (.inl ⟨row,c - 48,hd1,hd2,by omega,by omega,?_,by omega⟩))
     rw [show (48:Int) + (c - 48)=c by omega];rfl
    ·exact .inr (.inr (.inr (by omega)))
    ·omega
  ·split at e
   ·cases e
   rename_i h2 h3;obtain ⟨c0,c1,c2⟩:=Zko h3;have:=Zmx l (a++[c]) false row (Zkp c) row' last' hne (.inr ⟨c0,c1,a,by rw [c2],hd⟩) e;rw [List.append_assoc] at this;exact this
theorem ZuH {l:List Int} {row:Int} (h:ZA2 l row) (h1:1<=row) (h2:row<=60):l=Zns row.toNat:=by
 rcases h with ⟨rfl,rfl⟩|⟨d,hd1,hd2,rfl,rfl⟩|⟨d,e,hd1,hd2,he1,he2,rfl,rfl⟩|hbig
 ·omega
 ·unfold Zns
  rw [if_neg (by omega)];simp only [List.nil_append,List.cons.injEq,and_true];omega
 ·unfold Zns
  rw [if_pos (by omega)];simp only [List.cons_append,List.nil_append,List.cons.injEq,and_true];constructor<;>omega
 ·omega
theorem Zwc {l:List Int} {row last:Int} (h:prs l true 0 (-1)=some (row,last)) (h1:1<=row) (h2:row<=60) (h3:0<=last):last<10/\l=Zfu row.toNat last.toNat:=by
 have:=Zmx l [] true 0 (-1) row last (by simp) (.inl ⟨rfl,.inl ⟨rfl,rfl⟩⟩) h;rw [List.nil_append] at this;rcases this with ⟨h,_⟩|⟨_,h4,l',rfl,hd⟩
 ·omega
 ·exact ⟨h4,by unfold Zfu;rw [ZuH hd h1 h2]⟩
theorem Zlw:∀ r:Fin 60,∀ c:Fin 10,∀ n∈Zfu (r.1 + 1) c.1,0<=n/\n<256:=by decide +kernel
theorem ZuB {n w k:Int} {lab:ByteArray} (hn:n<=60) (hw:1<=w) (hw2:w<=10):(Zke n w lab=(k,0))↔(0<=k/\k<n * w/\Zwy w k=lab):=by
 constructor
 ·intro h
  unfold Zke at h;split at h
  ·simp at h
  rename_i row last hp;split at h
  ·simp at h
  rename_i hr;simp only [Prod.mk.injEq,and_true] at h;obtain ⟨h4,h5⟩:=Zwc hp (by omega) (by omega) (by omega);have hm:(row - 1) * w<=(n - 1) * w:=Int.mul_le_mul_of_nonneg_right (by omega) (by omega);have hm0:0<=(row - 1) * w:=Int.mul_nonneg (by omega) (by omega);have hm2:(n - 1) * w=n * w - w:=by rw [Int.sub_mul];omega
  refine ⟨by omega,by omega,?_⟩;have e1:k / w=row - 1:=by
   rw [<-h,Int.mul_comm,Int.add_comm,Int.add_mul_ediv_left _ _ (by omega),Int.ediv_eq_zero_of_lt (by omega) (by omega)];omega
  have e2:k % w=last:=by
   rw [<-h,Int.mul_comm,Int.add_comm,Int.add_mul_emod_self_left,Int.emod_eq_of_lt (by omega) (by omega)]
  unfold Zwy;rw [e1,e2,show row - 1 + 1=row by omega,<-h5,ZkM]
 ·rintro ⟨h0,h1,rfl⟩
  have e0:0<=k / w:=Int.ediv_nonneg h0 (by omega);have e1:k / w<n:=Int.ediv_lt_of_lt_mul (by omega) h1;have e2:0<=k % w:=Int.emod_nonneg _ (by omega);have e3:k % w<w:=Int.emod_lt_of_pos _ (by omega);have e4:=Int.mul_ediv_add_emod k w;generalize hq:k / w=q at *;generalize hm:k % w=m at *;obtain ⟨a,rfl⟩:=Int.eq_ofNat_of_zero_le e0;obtain ⟨b,rfl⟩:=Int.eq_ofNat_of_zero_le e2;unfold Zke Zwy;rw [hq,hm,show ((a:Int) + 1).toNat=a + 1 by omega,Int.toNat_natCast];have hb:=Zlw ⟨a,by omega⟩ ⟨b,by omega⟩;have hp:=Zrc ⟨a,by omega⟩ ⟨b,by omega⟩;rw [ZlV hb,hp];dsimp only;rw [if_neg (by omega)];simp only [Prod.mk.injEq,and_true];rw [<-e4,show (a:Int) + 1 - 1=a by omega,Int.mul_comm]
theorem ZsA (s:ByteArray) (i:Nat) (h:¬ (s.get! (i + 0)).toNat<128):128<=(Utf8.decode s i).1:=by
 unfold Utf8.decode;dsimp only;rw [if_neg h];split
 ·split
  ·assumption
  ·decide
 ·split
  ·split
   ·rename_i h;simp only [Bool.and_eq_true,decide_eq_true_iff] at h;have:=h.1;dsimp only;omega
   ·decide
  ·split
   ·split
    ·rename_i h;simp only [Bool.and_eq_true,decide_eq_true_iff] at h;have:=h.1;dsimp only;omega
    ·decide
   ·decide
end
section
open Go Go.VC Tryz
set_option maxRecDepth 10000
def B296 (c:Int) (K:Value->World->Prop) (w:World):Prop:=
 Calls prog 302 #[.int .i64 c,.int .i64 10] w λ b d=>
 ∃ a,(b=.returned (.string a))/\
 K (.string a) d
theorem Zxk (a:Int) (K:Value->World->Prop) (w:World) (h:B296 a K w):Zo prog 296 #[.int .i64 a] w K:=cq (sk:=.leaf) h func296
def B302 (d:Int) (m:Int) (K:Value->World->Prop) (w:World):Prop:=
 Br (m==10)
 (∃ (f:World->Prop),(Br (decide (0<=d))
 (Br (decide (d<100))
 (Calls prog 306 #[.int .i64 d] w λ y D=>
 ∃ n,(y=.returned (.string n))/\
 K (.string n) D)
 (f  w))
 (f  w))/\
 ∀ (G:Env)  (u:World),f  u->
 New (.cells #[.int .u8 0,.int .u8 0,.int .u8 0,.int .u8 0,.int .u8 0,.int .u8 0,.int .u8 0,.int .u8 0,.int .u8 0,.int .u8 0,.int .u8 0,.int .u8 0,.int .u8 0,.int .u8 0,.int .u8 0,.int .u8 0,.int .u8 0,.int .u8 0,.int .u8 0,.int .u8 0,.int .u8 0,.int .u8 0,.int .u8 0,.int .u8 0] 328 (0,0)) (λ e v=>
 ∃ (g:Int->World->Prop),(Br (decide (d<0))
 (g (IntKind.u64.wrap (0 - IntKind.u64.wrap d)) v)
 (g (IntKind.u64.wrap d) v))/\
 ∀ (H:Env) (j:Int) (x:World),g j x->
 Calls prog 307 #[.int .u64 j] x λ z E=>
 ∃ b,(z=.returned (.int .i64 b))/\
 ∃ o:Addr,(some (Addr.mk e 0 none)=some o)/\
 ((0:Int)<=IntKind.i64.wrap (1 + b))/\
 ((IntKind.i64.wrap (1 + b):Int)<=24)/\
 ((0:Int)<=1)/\
 ((1:Int)<=(↑(IntKind.i64.wrap (1 + b)).toNat:Int))/\
 Calls prog 308 #[.slice (Zcn (some o) (Int.toNat 1) 24 1) ((IntKind.i64.wrap (1 + b)).toNat - Int.toNat 1) 23,.int .u64 j] E λ A k=>
 (A=.returned (.tuple #[]))/\
 Br (decide (d<0))
 (∃ l:World,(St 5 (Addr.add ⟨e,0,none⟩ 0) (.int .u8 45) k l)/\
 ∃ p:Addr,(some (Addr.mk e 0 none)=some p)/\
 ((0:Int)<=IntKind.i64.wrap (1 + b))/\
 ((IntKind.i64.wrap (1 + b):Int)<=24)/\
 ∃ q:ByteArray,(∀ c,(λ c=>c=l) c->((convert 47 9 (.slice ((some (p))) ((IntKind.i64.wrap (1 + b)).toNat) 24))).run prog c=.ok (.string q) c)/\
 K (.string q) l)
 (∃ r:Addr,(some (Addr.mk e 0 none)=some r)/\
 ((0:Int)<=IntKind.i64.wrap (1 + b))/\
 ((IntKind.i64.wrap (1 + b):Int)<=24)/\
 ((0:Int)<=1)/\
 ((1:Int)<=(↑(IntKind.i64.wrap (1 + b)).toNat:Int))/\
 ∃ s:ByteArray,(∀ c,(λ c=>c=k) c->((convert 47 9 (.slice (Zcn (some r) (Int.toNat 1) 24 1) ((IntKind.i64.wrap (1 + b)).toNat - Int.toNat 1) 23))).run prog c=.ok (.string s) c)/\
 K (.string s) k)) u)
 (Calls prog 309 #[.slice none 0 0,.int .u64 (IntKind.u64.wrap d),.int .i64 m,.bool (decide (d<0)),.bool false] w λ C F=>
 ∃ i:Sl,∃ t,(C=.returned (.tuple #[i.v,.string t]))/\
 K (.string t) F)
def ZA5:Sk:=(.seq .leaf (.seq (.seq .leaf (.cond (.cut [] [] [4,12,13,14,15,16,17,18,19] .leaf (.seq .leaf (.seq .leaf (.cut [6] [(.int .u64)] [6,22,23,24,25] .leaf .leaf)))) .leaf)) .leaf))
theorem Zxj (b:Int) (a:Int) (K:Value->World->Prop) (w:World) (h:B302 b a K w):Zo prog 302 #[.int .i64 b,.int .i64 a] w K:=cq (sk:=ZA5) h func302
def B306 (a:Int) (K:Value->World->Prop) (w:World):Prop:=
 Br (decide (a<10))
 (((0:Int)<=IntKind.i64.wrap (a + 1))/\
 ((IntKind.i64.wrap (a + 1):Int)<=36)/\
 ((0:Int)<=a)/\
 ((a:Int)<=(↑(IntKind.i64.wrap (a + 1)).toNat:Int))/\
 K (.string ((ByteArray.mk #[48,49,50,51,52,53,54,55,56,57,97,98,99,100,101,102,103,104,105,106,107,108,109,110,111,112,113,114,115,116,117,118,119,120,121,122]).extract a.toNat (IntKind.i64.wrap (a + 1)).toNat)) w)
 (((0:Int)<=IntKind.i64.wrap (IntKind.i64.wrap (a * 2) + 2))/\
 ((IntKind.i64.wrap (IntKind.i64.wrap (a * 2) + 2):Int)<=200)/\
 ((0:Int)<=IntKind.i64.wrap (a * 2))/\
 ((IntKind.i64.wrap (a * 2):Int)<=(↑(IntKind.i64.wrap (IntKind.i64.wrap (a * 2) + 2)).toNat:Int))/\
 K (.string ((ByteArray.mk (([48,48,48,49,48,50,48,51,48,52,48,53,48,54,48,55,48,56,48,57,49,48,49,49,49,50,49,51,49,52,49,53,49,54,49,55,49,56,49,57,50,48,50,49,50,50,50,51,50,52].append [50,53,50,54,50,55,50,56,50,57,51,48,51,49,51,50,51,51,51,52,51,53,51,54,51,55,51,56,51,57,52,48,52,49,52,50,52,51,52,52,52,53,52,54,52,55,52,56,52,57]).append ([53,48,53,49,53,50,53,51,53,52,53,53,53,54,53,55,53,56,53,57,54,48,54,49,54,50,54,51,54,52,54,53,54,54,54,55,54,56,54,57,55,48,55,49,55,50,55,51,55,52].append [55,53,55,54,55,55,55,56,55,57,56,48,56,49,56,50,56,51,56,52,56,53,56,54,56,55,56,56,56,57,57,48,57,49,57,50,57,51,57,52,57,53,57,54,57,55,57,56,57,57])).toArray).extract (IntKind.i64.wrap (a * 2)).toNat (IntKind.i64.wrap (IntKind.i64.wrap (a * 2) + 2)).toNat)) w)
theorem Zxi (a:Int) (K:Value->World->Prop) (w:World) (h:B306 a K w):Zo prog 306 #[.int .i64 a] w K:=cq (sk:=.leaf) h func306
end
section
open Go Go.VC Tryz
variable {R:Cx} {Hs Rest:List HP} {w:World}
def Zzq:ByteArray:=ByteArray.mk #[48,49,50,51,52,53,54,55,56,57,97,98,99,100,101,102,103,104,105,106,107,108,109,110,111,112,113,114,115,116,117,118,119,120,121,122]
def Zzp:ByteArray:=ByteArray.mk (([48,48,48,49,48,50,48,51,48,52,48,53,48,54,48,55,48,56,48,57,49,48,49,49,49,50,49,51,49,52,49,53,49,54,49,55,49,56,49,57,50,48,50,49,50,50,50,51,50,52].append [50,53,50,54,50,55,50,56,50,57,51,48,51,49,51,50,51,51,51,52,51,53,51,54,51,55,51,56,51,57,52,48,52,49,52,50,52,51,52,52,52,53,52,54,52,55,52,56,52,57]).append ([53,48,53,49,53,50,53,51,53,52,53,53,53,54,53,55,53,56,53,57,54,48,54,49,54,50,54,51,54,52,54,53,54,54,54,55,54,56,54,57,55,48,55,49,55,50,55,51,55,52].append [55,53,55,54,55,55,55,56,55,57,56,48,56,49,56,50,56,51,56,52,56,53,56,54,56,55,56,56,56,57,57,48,57,49,57,50,57,51,57,52,57,53,57,54,57,55,57,56,57,57])).toArray
theorem ZoF:∀ r:Fin 10,Zzq.extract r.1 (r.1 + 1)=VC.strOf (Zns r.1):=by decide +kernel
theorem ZoE:∀ r:Fin 100,10<=r.1->Zzp.extract (r.1 * 2) (r.1 * 2 + 2)=VC.strOf (Zns r.1):=by decide +kernel
theorem Zr1 {n:Nat} (h:n<100) (hw:Sat R Hs w):Zo prog 284 #[.int .i64 n] w λ v w'=>v=.string (VC.strOf (Zns n))/\Sat R Hs w':=by
 apply Zxm;have h3:Zo prog 306 #[.int .i64 n] w λ v w'=>v=.string (VC.strOf (Zns n))/\Sat R Hs w':=by
  apply Zxi;have w1:IntKind.i64.wrap ((n:Int) + 1)=((n + 1:Nat):Int):=Zl (by omega) (by omega);have w2:IntKind.i64.wrap ((n:Int) * 2)=((n * 2:Nat):Int):=Zl (by omega) (by omega);have w3:IntKind.i64.wrap (((n * 2:Nat):Int) + 2)=((n * 2 + 2:Nat):Int):=Zl (by omega) (by omega);rw [B306,w2,w3,w1];refine Br.d (λ h=>?_) (λ h=>?_)
  ·refine ⟨by omega,by omega,by omega,by omega,?_,hw⟩
   exact congrArg Value.string (ZoF ⟨n,by omega⟩)
  ·refine ⟨by omega,by omega,by omega,by omega,?_,hw⟩
   exact congrArg Value.string (ZoE ⟨n,by omega⟩ (by dsimp only;omega))
 have h2:Zo prog 302 #[.int .i64 n,.int .i64 10] w λ v w'=>v=.string (VC.strOf (Zns n))/\Sat R Hs w':=by
  apply Zxj;refine Br.t rfl ⟨λ _=>False,Br.t (decide_eq_true (by omega)) (Br.t (decide_eq_true (by omega)) ?_),λ _ _ h=>h.elim⟩;refine h3.use ?_;rintro _ w ⟨rfl,hw⟩;exact ⟨_,rfl,rfl,hw⟩
 have h1:Zo prog 296 #[.int .i64 n] w λ v w'=>v=.string (VC.strOf (Zns n))/\Sat R Hs w':=by
  apply Zxk;refine h2.use ?_;rintro _ w ⟨rfl,hw⟩;exact ⟨_,rfl,rfl,hw⟩
 refine h1.use ?_;rintro _ w ⟨rfl,hw⟩;exact ⟨_,rfl,rfl,hw⟩
def Zuo (n:Int) (g:List Int) (k:Int):ByteArray × Int:=if 0<=k/\k<Za5 n g then (Zwy g.sum k,0) else (⟨#[]⟩,1)
theorem ZrW {n:Int} {g:List Int} {k:Int} (h:0<=k/\k<Za5 n g):∃ a b q m:Nat,k=a/\g.sum=b/\1<=b/\b<=10/\q<60/\m<b/\Zwy g.sum k=VC.strOf (Zfu (q + 1) m)/\(∀ x∈g,1<=x/\x<=10)/\g.length<=4/\((a:Int)).tmod (b:Int)=(m:Int)/\((a:Int)).tdiv (b:Int)=(q:Int):=by
 have hok:ZeJ n g=true:=by
  by_cases hok:ZeJ n g=true
  ·exact hok
  ·unfold Za5 at h;rw [if_neg hok] at h;omega
 obtain ⟨h1,h2,h3⟩:=Zan.1 hok;have hp:=Zjk h2 (by omega);rw [ZmJ hok] at h;obtain ⟨a,rfl⟩:=Int.eq_ofNat_of_zero_le h.1;obtain ⟨b,hb⟩:=Int.eq_ofNat_of_zero_le (show 0<=g.sum by omega);rw [hb] at h hp h3;have hd:(a:Int) / (b:Int)<n:=Int.ediv_lt_of_lt_mul (by omega) h.2;refine ⟨a,b,a / b,a % b,rfl,hb,by omega,by omega,?_,Nat.mod_lt _ (by omega),?_,h2,by omega,rfl,rfl⟩
 ·rw [<-Int.natCast_ediv] at hd;omega
 ·unfold Zwy
  rw [hb,<-Int.natCast_ediv,<-Int.natCast_emod];rfl
theorem Zpk {n k:Int} {s:Sl} {g:List Int} (hs:RoI R s g) (hw:Sat R Hs w):
  Zo prog 253 #[.agg #[.int .i64 n,.slice s.a s.len s.cap],.int .i64 k] w λ v w'=>v=.tuple #[.string (Zuo n g k).1,.int .i64 (Zuo n g k).2]/\Sat R Hs w':=by
 apply Zxy;refine Zb hw λ p w hw=>?_;have hw:Sat R (pts p (ZgM n s)::Hs) w:=hw;refine ⟨n,s,At.own (eqS hw) (by exact ⟨rfl,rfl,trivial⟩),?_⟩;refine (ZkU hs hw).use ?_;rintro _ w ⟨rfl,hw⟩;refine ⟨_,rfl,Br.nd (λ h=>⟨?_,hw.drop⟩) (λ h=>?_)⟩
 ·unfold Zuo;rw [if_neg h]
 have e:Zuo n g k=(Zwy g.sum k,0):=by unfold Zuo;rw [if_pos h]
 rw [e];obtain ⟨a,b,q,m,rfl,hb,b1,b2,a1,a2,hl,hg,hg2,e1,e2⟩:=ZrW h;rw [hl];refine ⟨n,s,At.own (eqS hw) (by exact ⟨rfl,rfl,trivial⟩),?_⟩;refine (ZbV hs (λ x hx=>by have:=hg x hx;omega) hg2 hw).use ?_;rintro _ w ⟨rfl,hw⟩;rw [hb];refine ⟨_,rfl,?_⟩;refine Zu hw λ w hw=>?_;have w1:IntKind.i64.wrap ((m:Int) + 1)=((m + 1:Nat):Int):=Zl (by omega) (by omega);have w2:IntKind.i64.wrap (q:Int)=(q:Int):=Zl (by omega) (by omega);have w3:IntKind.i64.wrap ((q:Int) + 1)=((q + 1:Nat):Int):=Zl (by omega) (by omega);rw [e1,e2,w1,w2,w3];refine Nz.mk (by omega) (Nz.mk (by omega) (Nz.mk (by omega) ⟨by omega,by omega,by omega,by omega,?_⟩));refine (Zr1 (by omega) hw).use ?_;rintro _ w ⟨rfl,hw⟩;have eL:(ByteArray.mk #[65,66,67,68,69,70,71,72,74,75]).extract ((m:Int)).toNat (((m + 1:Nat):Int)).toNat=VC.strOf [Za1 (m)]:=Zpc ⟨m,by omega⟩;rw [eL];refine ⟨_,rfl,?_,?_,hw.drop⟩
 ·have:(VC.strOf (Zns (q + 1))).size<=2:=by
   show ((Zns (q + 1)).map _).toArray.size<=2;rw [List.size_toArray,List.length_map];unfold Zns;split<;>simp
  have h1:(VC.strOf [Za1 (m)]).size=1:=rfl;omega
 ·rw [ZrU ⟨q + 1,by omega⟩ ⟨m,by omega⟩]
theorem Zw7 {c:Int} {j:Nat} (hj:j<10) (hn:∀ i,i<j->Za1 i≠c) (h:Za1 j=c):Zkp c=j:=by
 have hl:ZhG.findIdx? (·==c)=some j:=by
  rw [List.findIdx?_eq_some_iff_getElem];refine ⟨hj,?_,λ i hi=>?_⟩
  ·unfold Za1 at h
   rw [List.getD_eq_getElem?_getD,List.getElem?_eq_getElem (show j<ZhG.length from hj)] at h
   exact beq_iff_eq.2 h
  ·have:=hn i hi
   unfold Za1 at this;rw [List.getD_eq_getElem?_getD,List.getElem?_eq_getElem (show i<ZhG.length from by show i<10;omega)] at this
   simpa using this
 unfold Zkp;rw [hl]
theorem Zw6 {c:Int} (hn:∀ i,i<10->Za1 i≠c):Zkp c=-1:=by
 unfold Zkp;split
 ·rename_i i hi
  obtain ⟨hlt,hp,_⟩:=List.findIdx?_eq_some_iff_getElem.1 hi;have:=hn i hlt;unfold Za1 at this;rw [List.getD_eq_getElem?_getD,List.getElem?_eq_getElem hlt] at this;exact absurd (by simpa using hp) this
 ·rfl
theorem ZmZ {c:Int} (hw:Sat R Hs w):Zo prog 280 #[.int .i32 c] w λ v w'=>v=.int .i64 (Zkp c)/\Sat R Hs w':=by
 apply Zxo;refine ⟨λ i w=>∃ j:Nat,i=j/\j<=10/\(∀ k,k<j->Za1 k≠c)/\Sat R Hs w,λ i _=>10 - i.toNat,⟨0,rfl,by omega,λ k h=>by omega,hw⟩,?_⟩;clear hw;rintro _ _ w ⟨j,rfl,hj,hn,hw⟩;refine Br.d (λ h=>?_) (λ h=>?_)
 ·obtain ⟨b,hb,hv⟩:=ZrO ⟨j,by omega⟩
  refine ⟨b,by omega,hb,?_⟩;have hbd:=b.toNat_lt;rw [show IntKind.i32.wrap (b.toNat:Int)=(b.toNat:Int) by rw [IntKind.wrap_i32];omega];refine Br.e (λ h2=>⟨?_,hw⟩) (λ h2=>?_)
  ·rw [Zw7 (by omega) hn (hv.symm.trans h2)]
  ·rw [Zl (by omega) (by omega)]
   refine ⟨⟨j + 1,by omega,by omega,λ k hk=>?_,hw⟩,by dsimp only;omega⟩;by_cases hkj:k=j
   ·subst hkj;rw [<-hv];exact h2
   ·exact hn k (by omega)
 ·exact ⟨by rw [Zw6 (λ i hi=>hn i (by omega))],hw⟩
def Zbe (n:Int) (g:List Int) (lab:ByteArray):Int × Int:=if ZeJ n g then Zke n g.sum lab else (0,1)
theorem Znz (c:Int) (l:List Int) (first:Bool) (row last:Int):prs (c::l) first row last=if 0<=last\/(first=true/\c=48)\/row>60 then none
  else if Zr4 c then prs l false (10 * row + (c - 48)) last else if Zkp c<0 then none else prs l false row (Zkp c):=rfl
theorem ZtU {lab:ByteArray} {pos:Nat} (h:pos<lab.size):(ZY lab).drop pos=((lab[pos]'h).toNat:Int)::(ZY lab).drop (pos + 1):=by
 have hl:pos<(ZY lab).length:=by rw [Zaj];exact h
 rw [List.drop_eq_getElem_cons hl]
 congr 1
 simp [ZY];rfl
theorem Zpd:∀ i:Fin 10,Za1 i.1<=75:=by decide +kernel
theorem ZsG {c:Int} (h:128<=c):Zkp c<0:=by
 by_cases h2:Zkp c<0
 ·exact h2
 ·obtain ⟨h0,h1,h3⟩:=Zko h2
  have:=Zpd ⟨(Zkp c).toNat,by omega⟩;dsimp only at this;omega
theorem Zsn {n:Int} {s:Sl} {g:List Int} {lab:ByteArray} (hs:RoI R s g) (hsz:lab.size<=9223372036854775807) (hw:Sat R Hs w):
  Zo prog 247 #[.agg #[.int .i64 n,.slice s.a s.len s.cap],.string lab] w λ v w'=>v=.tuple #[.int .i64 (Zbe n g lab).1,.int .i64 (Zbe n g lab).2]/\Sat R Hs w':=by
 apply ZxD;refine Zb hw λ p w hw=>?_;have hw:Sat R (pts p (ZgM n s)::Hs) w:=hw;refine ⟨n,s,At.own (eqS hw) (by exact ⟨rfl,rfl,trivial⟩),?_⟩;refine (Zei hs hw).use ?_;rintro _ w ⟨rfl,hw⟩;refine ⟨_,rfl,Br.nb (λ h=>⟨?_,hw.drop⟩) (λ hok=>?_)⟩
 ·unfold Zbe;rw [h];rfl
 have e:Zbe n g lab=Zke n g.sum lab:=by unfold Zbe;rw [if_pos hok]
 rw [e];obtain ⟨l1,l2,l3⟩:=Zan.1 hok;have hp:=Zjk l2 (by omega);refine Zb hw λ b w hw=>?_;have no:prs (ZY lab) true 0 (-1)=none->Zke n g.sum lab=(0,2):=λ h=>by unfold Zke;rw [h]
 refine ⟨λ row last w=>∃ pos:Nat,pos<=lab.size/\prs ((ZY lab).drop pos) (decide (pos=0)) row last=prs (ZY lab) true 0 (-1)/\0<=row/\row<=700/\-1<=last/\last<10/\Sat R (pts b (.stringIter lab pos)::pts p (ZgM n s)::Hs) w,
  λ _ _ w=>lab.size - w.iterPos b,⟨0,by omega,rfl,by omega,by omega,by omega,by omega,hw⟩,?_⟩
 clear hw;rintro _ row last w ⟨pos,hpos,hprs,r0,r1,t0,t1,hw⟩;have hpw:w.iterPos b=pos:=by have:=hw.at;simp [World.iterPos,this]
 refine ⟨b,lab,pos,rfl,hw.at,λ hlt=>?_,λ hlt=>?_⟩
 ·rw [ZtU hlt] at hprs
  have hbyte:=(lab[pos]'hlt).toNat_lt;have hw2:=hw.setPts (.stringIter lab (pos + (Utf8.decode lab pos).2));generalize hw':w.setBlock b (.stringIter lab (pos + (Utf8.decode lab pos).2))=w2 at hw2;have:({ w with heap:=w.heap.setIfInBounds b (.stringIter lab (pos + (Utf8.decode lab pos).2)) }:World)=w2:=hw';rw [this];have hc:((lab[pos]'hlt).toNat<128/\Utf8.decode lab pos=((lab[pos]'hlt).toNat,1))\/(128<=(lab[pos]'hlt).toNat/\128<=(Utf8.decode lab pos).1):=by
   by_cases h:(lab[pos]'hlt).toNat<128
   ·exact .inl ⟨h,decode_ascii lab pos hlt h⟩
   ·refine .inr ⟨by omega,ZsA lab pos ?_⟩
    have e:lab.get! (pos + 0)=lab[pos]'hlt:=by
     show lab.get! pos=_;simp [ByteArray.get!,getElem!_pos,hlt];rfl
    rw [e];exact h
  clear this hw';generalize hdc:Utf8.decode lab pos=dc at *;obtain ⟨c,wd⟩:=dc;dsimp only at hc hw2 ⊢;generalize hby:(lab[pos]'hlt).toNat=by0 at *;have hc0:(c:Int)=by0/\wd=1\/128<=by0/\128<=c:=by
   rcases hc with ⟨_,h⟩|h
   ·simp only [Prod.mk.injEq] at h;exact .inl ⟨by omega,h.2⟩
   ·exact .inr h
  have h48:(by0:Int)=48↔(c:Int)=48:=by omega
  refine ⟨λ t w=>t=decide (0<=last\/(decide (pos=0)=true/\(by0:Int)=48)\/row>60)/\Sat R (pts b (.stringIter lab (pos + wd))::pts p (ZgM n s)::Hs) w,?_,?_⟩
  ·refine Br.d (λ h=>⟨?_,hw2⟩) (λ h=>Br.e (λ h2=>Br.e (λ h3=>⟨?_,hw2⟩) (λ h3=>⟨?_,hw2⟩)) (λ h2=>⟨?_,hw2⟩))
   ·rw [decide_eq_true (.inl h)]
   ·rw [decide_eq_true (.inr (.inl ⟨decide_eq_true (by omega),h48.2 h3⟩))]
   ·rw [decide_eq_decide]
    constructor
    ·intro h4;exact .inr (.inr h4)
    ·rintro (h4|⟨_,h4⟩|h4)
     ·omega
     ·exact absurd (h48.1 h4) h3
     ·exact h4
   ·rw [decide_eq_decide]
    constructor
    ·intro h4;exact .inr (.inr h4)
    ·rintro (h4|⟨h4,_⟩|h4)
     ·omega
     ·have:=of_decide_eq_true h4;omega
     ·exact h4
  clear hw hw2;rintro _ _ w3 ⟨rfl,hw⟩;refine Br.d (λ h=>⟨?_,hw.drop.drop⟩) (λ h=>?_)
  ·rw [Znz] at hprs
   rw [if_pos h] at hprs;rw [no hprs.symm]
  rw [Znz] at hprs;rw [if_neg h] at hprs;refine ⟨λ t w=>t=Zr4 c/\Sat R (pts b (.stringIter lab (pos + wd))::pts p (ZgM n s)::Hs) w,?_,?_⟩
  ·unfold Zr4
   refine Br.d (λ h=>⟨?_,hw⟩) (λ h=>⟨?_,hw⟩)
   ·rw [decide_eq_decide];omega
   ·rw [decide_eq_false (by omega)]
  clear hw;rintro _ _ w4 ⟨rfl,hw⟩;refine Br.mk (λ h2=>?_) (λ h2=>?_)
  ·have h3:=of_decide_eq_true h2
   rcases hc0 with ⟨hcb,rfl⟩|hc0
   ·rw [<-hcb,if_pos h2] at hprs
    rw [show IntKind.i32.wrap ((c:Int) - 48)=(c:Int) - 48 by rw [IntKind.wrap_i32];omega,Zl (x:=10 * row) (by omega) (by omega),Zl (x:=(c:Int) - 48) (by omega) (by omega),Zl (by omega) (by omega)];refine ⟨⟨pos + 1,by omega,?_,by omega,by omega,by omega,by omega,hw⟩,?_⟩
    ·rw [decide_eq_false (by omega)];exact hprs
    ·have:w4.iterPos b=pos + 1:=by have:=hw.at;simp [World.iterPos,this]
     rw [this,hpw];omega
   ·omega
  ·refine (ZmZ hw).use ?_
   rintro _ w5 ⟨rfl,hw⟩;refine ⟨_,rfl,Br.d (λ h3=>⟨?_,hw.drop.drop⟩) (λ h3=>?_)⟩
   ·have hno:Zkp (by0:Int)<0:=by
     rcases hc0 with ⟨hcb,rfl⟩|hc0
     ·rw [<-hcb];exact h3
     ·exact ZsG (by omega)
    have hnd:Zr4 (by0:Int)=false:=by
     rcases hc0 with ⟨hcb,rfl⟩|hc0
     ·rw [<-hcb];exact h2
     ·exact decide_eq_false (by omega)
    rw [hnd,if_neg (by simp),if_pos hno] at hprs;rw [no hprs.symm]
   ·obtain ⟨c0,c1,c2⟩:=Zko h3
    rcases hc0 with ⟨hcb,rfl⟩|hc0
    ·rw [<-hcb,h2,if_neg (by simp),if_neg h3] at hprs
     refine ⟨⟨pos + 1,by omega,?_,by omega,by omega,by omega,by omega,hw⟩,?_⟩
     ·rw [decide_eq_false (by omega)];exact hprs
     ·have:w5.iterPos b=pos + 1:=by have:=hw.at;simp [World.iterPos,this]
      rw [this,hpw];omega
    ·have:=ZsG (c:=(c:Int)) (by omega);omega
 ·rw [List.drop_eq_nil_of_le (by rw [Zaj];omega)] at hprs
  have hw:=hw.drop;have ef:Zke n g.sum lab=if row<1\/row>n\/last<0\/last >= g.sum then (0,2) else ((row - 1) * g.sum + last,0):=by
   unfold Zke;rw [<-hprs];rfl
  rw [ef];refine Br.d (λ h=>⟨by rw [if_pos (.inl h)],hw.drop⟩) (λ h1=>?_);refine ⟨n,oA hw,Br.d (λ h=>⟨by rw [if_pos (.inr (.inl h))],hw.drop⟩) (λ h2=>?_)⟩;refine Br.d (λ h=>⟨by rw [if_pos (.inr (.inr (.inl h)))],hw.drop⟩) (λ h3=>?_);refine ⟨n,s,At.own (eqS hw) (by exact ⟨rfl,rfl,trivial⟩),?_⟩;refine (ZbV hs (λ x hx=>by have:=l2 x hx;omega) (by omega) hw).use ?_;rintro _ w ⟨rfl,hw⟩;refine ⟨_,rfl,Br.d (λ h=>⟨by rw [if_pos (.inr (.inr (.inr h)))],hw.drop⟩) (λ h4=>?_)⟩;refine ⟨n,s,At.own (eqS hw) (by exact ⟨rfl,rfl,trivial⟩),?_⟩;refine (ZbV hs (λ x hx=>by have:=l2 x hx;omega) (by omega) hw).use ?_;rintro _ w ⟨rfl,hw⟩;refine ⟨_,rfl,?_,hw.drop⟩;have hm:=Zvj (a:=row - 1) (b:=g.sum) (by omega) (by omega) (by omega) (by omega);rw [if_neg (by omega),Zl (x:=row - 1) (by omega) (by omega),Zl (x:=(row - 1) * g.sum) (by omega) (by omega),Zl (by omega) (by omega)]
end
section
open Go Go.VC Tryz
variable {R:Cx} {Hs Rest:List HP} {w:World}
def Zhi:List Int->Int->Int × Int
 |[],_=>(0,0)
 |x::g,a=>if a<x then (a,x - 1 - a) else Zhi g (a - x)
theorem ZoI (x:Int) (g:List Int) (a:Int):Zhi (x::g) a=if a<x then (a,x - 1 - a) else Zhi g (a - x):=rfl
theorem ZoH {n k:Int} {s:Sl} {g:List Int} (hs:RoI R s g) (hg:∀ x∈g,1<=x/\x<=10) (hl:g.length<=4) (hl1:1<=g.length) (hk:0<=k) (hw:Sat R Hs w):
  Zo prog 251 #[.agg #[.int .i64 n,.slice s.a s.len s.cap],.int .i64 k] w λ v w'=>v=.tuple #[.int .i64 (Zhi g (k % g.sum)).1,.int .i64 (Zhi g (k % g.sum)).2]/\Sat R Hs w':=by
 have hlen:=hs.len;have hp:=Zjk hg hl1;apply Zxz;refine Zb hw λ p w hw=>?_;have hw:Sat R (pts p (ZgM n s)::Hs) w:=hw;refine ⟨n,s,At.own (eqS hw) (by exact ⟨rfl,rfl,trivial⟩),?_⟩;refine (ZbV hs (λ x hx=>by have:=hg x hx;omega) hl hw).use ?_;rintro _ w ⟨rfl,hw⟩;refine ⟨_,rfl,Nz.mk (by omega) ⟨s,oA hw,?_⟩⟩;rw [Int.tmod_eq_emod_of_nonneg hk];have m0:=Int.emod_nonneg k (show g.sum≠0 by omega);have m1:=Int.emod_lt_of_pos k (show 0<g.sum by omega);have hsb:=Znj (g:=g) (λ x hx=>by have:=hg x hx;omega);generalize k % g.sum=a at *;refine ⟨λ at' i w=>∃ j:Nat,i=j/\j<=g.length/\0<=at'/\at'<=a/\Zhi (g.drop j) at'=Zhi g a/\Sat R (pts p (ZgM n s)::Hs) w,λ _ i _=>g.length - i.toNat,⟨0,rfl,by omega,by omega,by omega,rfl,hw⟩,?_⟩;clear hw;rintro _ at' _ w ⟨j,rfl,hj,h0,h1,hn,hw⟩;refine Br.d (λ h=>?_) (λ h=>?_)
 ·have hj2:j<g.length:=by omega
  have hx:=hg g[j] (List.getElem_mem _);rw [List.drop_eq_getElem_cons hj2,ZoI] at hn;refine hs.idx (eqS hw) hj2 ?_;refine Br.d (λ h2=>⟨?_,hw.drop⟩) (λ h2=>?_)
  ·rw [if_pos h2] at hn
   rw [Zl (x:=g[j] - 1) (by omega) (by omega),Zl (by omega) (by omega)];have:=hn.symm;rw [show Zhi g a=(at',g[j] - 1 - at') from this]
  ·rw [if_neg h2] at hn
   rw [Zl (x:=at' - g[j]) (by omega) (by omega),Zl (by omega) (by omega)];exact ⟨⟨j + 1,by omega,by omega,by omega,by omega,hn,hw⟩,by dsimp only;omega⟩
 ·rw [List.drop_eq_nil_of_le (by omega)] at hn
  refine ⟨?_,hw.drop⟩;rw [show Zhi g a=(0,0) from hn.symm]
end
section
open Go Go.VC Tryz
section
variable (u z:Nat->Bool)
def Zay:Nat->List Nat
 |0=>[]
 |j + 1=>Zay j++(if u j then [] else [j])
def ZfV:Nat->Nat
 |0=>0
 |j + 1=>if u j then 0 else (if z j then 0 else ZfV j) + 1
def Zkx (j many:Nat):List Nat:=(List.range many).map λ t=>j - many + t
def ZeN (N many:Nat):List Nat × Int:=
 match (List.range N).find? λ j=>ZfV u z (j + 1)==many with
 |some j=>(Zkx (j + 1) many,0)
 |none=>if (Zay u N).length<many then ([],3) else ((Zay u N).take many,0)
variable {u z}
theorem Zev (j:Nat):Zay u (j + 1)=Zay u j++(if u j then [] else [j]):=rfl
theorem Zj8 {i j:Nat}:∀ {N:Nat},(Zay u N)[i]? =some j->j<N/\u j=false/\(Zay u j).length=i
 |0,h=>by simp [Zay] at h
 |N + 1,h=>by
  rw [Zev] at h;by_cases hi:i<(Zay u N).length
  ·rw [List.getElem?_append_left hi] at h
   obtain ⟨h1,h2⟩:=Zj8 h;exact ⟨by omega,h2⟩
  ·rw [List.getElem?_append_right (by omega)] at h
   split at h
   ·simp at h
   ·rename_i hu
    rcases hk:i - (Zay u N).length with _|k
    ·rw [hk] at h
     simp at h;subst h;exact ⟨by omega,by simpa using hu,by omega⟩
    ·rw [hk] at h;simp at h
theorem Zd2 (j:Nat):(Zay u (j + 1)).length=(Zay u j).length + (if u j then 0 else 1):=by
 rw [Zev,List.length_append];split<;>rfl
theorem Zsh {j:Nat}:∀ t:Nat,(Zay u j).length<=(Zay u (j + t)).length
 |0=>by simp
 |t + 1=>by
  have:=Zsh (j:=j) t;rw [<-Nat.add_assoc,Zd2];omega
theorem Zdf (j:Nat):ZfV u z (j + 1)=if u j then 0 else (if z j then 0 else ZfV u z j) + 1:=rfl
theorem ZqJ:∀ {j m:Nat},m<=ZfV u z j↔m<=j/\∀ x,j - m<=x->x<j->u x=false/\(j - m<x->z x=false)
 |j,0=>⟨λ _=>⟨by omega,λ x h1 h2=>by omega⟩,λ _=>by omega⟩
 |0,m + 1=>⟨λ h=>by simp [ZfV] at h,λ h=>by omega⟩
 |j + 1,m + 1=>by
  rw [Zdf];cases hu:u j with
  |true=>
   refine ⟨λ h=>by simp at h,λ h=>?_⟩;have:=(h.2 j (by omega) (by omega)).1;rw [hu] at this;cases this
  |false=>
   simp only [Bool.false_eq_true,if_false];cases hz:z j with
   |true=>
    simp only [if_true];constructor
    ·intro h
     obtain rfl:m=0:=by omega
     exact ⟨by omega,λ x h1 h2=>by
      obtain rfl:x=j:=by omega
      exact ⟨hu,λ h=>by omega⟩⟩
    ·intro h
     by_cases hm:m=0
     ·omega
     ·have:=(h.2 j (by omega) (by omega)).2 (by omega)
      rw [hz] at this;cases this
   |false=>
    simp only [Bool.false_eq_true,if_false];have ih:=ZqJ (j:=j) (m:=m);constructor
    ·intro h
     obtain ⟨h1,h2⟩:=ih.1 (by omega);refine ⟨by omega,λ x h3 h4=>?_⟩;by_cases hx:x=j
     ·subst hx;exact ⟨hu,λ _=>hz⟩
     ·obtain ⟨h5,h6⟩:=h2 x (by omega) (by omega)
      exact ⟨h5,λ h=>h6 (by omega)⟩
    ·rintro ⟨h1,h2⟩
     have:=ih.2 ⟨by omega,λ x h3 h4=>by
      obtain ⟨h5,h6⟩:=h2 x (by omega) (by omega);exact ⟨h5,λ h=>h6 (by omega)⟩⟩
     omega
variable {N many:Nat} {grp:Nat->Int}
theorem Zs8 (hm:1<=many) (h:∀ j,j<N->¬ many<=ZfV u z (j + 1)):ZeN u z N many=if (Zay u N).length<many then ([],3) else ((Zay u N).take many,0):=by
 unfold ZeN;have:((List.range N).find? λ j=>ZfV u z (j + 1)==many)=none:=by
  rw [List.find?_eq_none];intro j hj h2;have h2:=beq_iff_eq.1 h2;exact h j (List.mem_range.1 hj) (by omega)
 rw [this]
theorem Zs7 (hm:1<=many) {j:Nat} (hj:j<N) (h:ZfV u z (j + 1)=many) (hn:∀ k,k<j->¬ many<=ZfV u z (k + 1)):ZeN u z N many=(Zkx (j + 1) many,0):=by
 unfold ZeN;have:((List.range N).find? λ j=>ZfV u z (j + 1)==many)=some j:=by
  rw [List.find?_range_eq_some];exact ⟨by simpa using h,List.mem_range.2 hj,λ k hk=>by
   have:=hn k hk;simp only [Bool.not_eq_true',beq_eq_false_iff_ne];omega⟩
 rw [this]
end
def zF (g:List Int) (k:Nat):Bool:=(Zhi g ((k:Int) % g.sum)).1==0
end
end Go.Proofs.YtlplemdmegpoeaaGreatDoor
namespace Go.VC
section
variable {P:Program} {R:Cx} {Hs Rest:List HP} {w:World} {s:Sl} {T:TypeId}
theorem Zlr {t:TypeId} {bytes n:Nat} {kl kc:IntKind} {z:Value} {K:Sl->World->Prop} (ht:P.underlying t=some (.slice T)) (hi:elB P T bytes=true) (hv:∀ w,(zeroValue T).run P w=.ok z w) (h1:z.cells=#[z])
  (hn:bytes * n<=281474976710656) (h63:n<=9223372036854775807) (hw:Sat R Hs w) (k:∀ s' w',Sat R (Own s' T (List.replicate n z)::Hs) w'->K s' w'):
  ∃ w',∃ t':Sl,(Instr.makeSlice t (.int kl (n:Int)) (.int kc (n:Int))).run P w=.ok (.slice t'.a t'.len t'.cap) w'/\K t' w':=by
 obtain ⟨i,z',hi,hz,hs,hb,hc⟩:=ZmW hi;have hzz:z'=z:=by
  have:=hv w;simp [zeroValue,hi,hz,typeInfo] at this;exact this
 subst hzz;have hb':(i.bytes:Int) * (n:Int)<=281474976710656:=by
  rw [hb];have h:((bytes * n:Nat):Int)<=281474976710656:=by omega
  rwa [Int.natCast_mul] at h
 have hr:=run_make (P:=P) w t T i z' ht hi hz kl kc n n (by omega) (Int.le_refl _) hb' (by omega);simp only [Int.toNat_natCast,hs,Nat.mul_one,h1] at hr;refine ⟨_,⟨some ⟨w.heap.size,0,none⟩,n,n⟩,hr,k _ _ ?_⟩;have e:madeCells #[z'] n=(List.replicate n z').toArray:=by
  apply Array.ext
  ·simp [size_madeCells]
  ·intro j h1 h2
   simp [madeCells,Nat.mod_one]
 rw [e];exact Zc4 (hw.alloc _) (by simp)
theorem Own.idxB {xs:List Bool} {S:World->Prop} {Hs':List HP} {i:Int} (hw:Sat R (Own s T (xs.map Value.bool)::Hs) w) (hS:∀ w,S w->Sat R (Own s T (xs.map Value.bool)::Hs') w) (k:Nat) (hi:i=k) (hk:k<xs.length) {F:Bool->Prop} (h:F xs[k]):
  Rng i s.len (Zd s.a λ a=>∃ t:Bool,(At S (a.add i.toNat) [.bool t])/\F t):=by
 subst hi;obtain ⟨b,ha,hat⟩:=Own.addr hw (k:=k) (by simpa using hk);have hl:=Own.len hw;rw [List.length_map] at hl;refine Rng.mk (by omega) (by omega) (Zd.mk ha ⟨xs[k],?_,h⟩);have:=hat hS;simpa using this
theorem Own.storeV {t:TypeId} {xs:List Value} {v:Value} {i:Int} (hsz:(P.info? t).map (·.size)=some 1) (hv:v.cells=#[v]) (h1:v.oneCell'=true) (hw:Sat R (Own s T xs::Hs) w) (k:Nat) (hi:i=k) (hk:k<xs.length) {K:World->Prop}
  (h:∀ w',Sat R (Own s T (xs.set k v)::Hs) w'->K w'):
  Rng i s.len (Zd s.a λ a=>∃ w',(Instr.storeAt t (.pointer (some (Addr.add a i.toNat))) v).run P w=.ok () w'/\K w'):=by
 subst hi;have hl:=Own.len hw;rcases Own.cases hw with ⟨_,h0,_⟩|⟨b,rest,fr,rfl,hfr,hp⟩
 ·subst h0;simp at hk
 ·refine Rng.mk (by omega) (by simp only at hl ⊢;omega) (Zd.mk rfl ?_)
  rw [Zz];refine Za hp (by rw [hsz,hv];rfl) (by rw [hv];simp [Za0,h1]) (by rw [hv];simp;omega) λ w' h2=>h w' ?_;have e:ZeI (xs++rest) (0 + (k:Int).toNat) v.cells.toList=xs.set k v++rest:=by
   rw [hv];simp only [ZeI,Nat.zero_add,Int.toNat_natCast];rw [List.set_append_left _ _ hk]
  rw [e] at h2;have h3:=Own.of_pts h2 (hfr.le (by simp));simpa using h3
theorem Own.ix {kd:IntKind} {xs:List Int} {S:World->Prop} {Hs':List HP} {i:Int} (hw:Sat R (Own s T (xs.map (Value.int kd))::Hs) w) (hS:∀ w,S w->Sat R (Own s T (xs.map (Value.int kd))::Hs') w) (k:Nat) (hi:i=k) (hk:k<xs.length) {F:Int->Prop} (h:F xs[k]):
  Rng i s.len (Zd s.a λ a=>∃ t:Int,(At S (a.add i.toNat) [.int kd t])/\F t):=by
 subst hi;exact Own.idx hw hS hk h
end
end Go.VC
namespace Go.Proofs.YtlplemdmegpoeaaGreatDoor
section
open Go Go.VC Tryz
variable {R:Cx} {Hs Rest:List HP} {w:World}
theorem Ztt:El prog 30 30 3 8:=⟨underlying30,⟨_,underlying30⟩,by kernel_rfl⟩
abbrev ints (l:List Nat):List Value:=(l.map λ (j:Nat)=>(j:Int)).map (Value.int .i64)
def Zbc (taken:List Int) (j:Nat):Bool:=decide ((j:Int)∈taken)
def Zaq (n:Int) (g:List Int) (taken:List Int) (many:Int):List Int × Int:=
 if many<1\/many>Za5 n g then ([],1)
 else ((ZeN (Zbc taken) (zF g) (Za5 n g).toNat many.toNat).1.map λ (j:Nat)=>(j:Int),(ZeN (Zbc taken) (zF g) (Za5 n g).toNat many.toNat).2)
theorem Zmo {u z:Nat->Bool}:∀ j,ZfV u z j<=j
 |0=>Nat.le_refl _
 |j + 1=>by
  have:=Zmo (u:=u) (z:=z) j;rw [Zdf];split
  ·omega
  ·split<;>omega
theorem Zqa {j m:Nat} (h:m<=j):Zkx (j + 1) (m + 1)=Zkx j m++[j]:=by
 unfold Zkx;rw [List.range_succ,List.map_append]
 congr 1
 ·refine List.map_congr_left λ t _=>by omega
 ·simp;omega
theorem ZgR (j m:Nat):(Zkx j m).length=m:=by unfold Zkx;simp
theorem ZlG {u:Nat->Bool}:∀ j,(Zay u j).length<=j
 |0=>Nat.le_refl _
 |j + 1=>by
  have:=ZlG (u:=u) j;rw [Zd2];split<;>omega
theorem ZjY (l:List Nat):(ints l).length=l.length:=by simp [ints]
theorem Zt2 {s:Sl} {T:TypeId} {xs:List Value} {k:Nat} (hk:k<=xs.length) (hw:Sat R (Own s T xs::Hs) w):Sat R (Own ⟨s.a,k,s.cap⟩ T (xs.take k)::Hs) w:=by
 rcases Own.cases hw with ⟨rfl,rfl,hn⟩|⟨b,rest,fr,rfl,hfr,hp⟩
 ·obtain rfl:k=0:=by simpa using hk
  exact Own.nil hn
 ·have e:xs++rest=xs.take k++(xs.drop k++rest):=by rw [<-List.append_assoc,List.take_append_drop]
  rw [e] at hp hfr ⊢;have:=Own.of_pts hp hfr;rw [show (xs.take k).length=k by rw [List.length_take];omega] at this;exact this
theorem Zs6 {n many:Int} {s st:Sl} {g taken:List Int} (hs:RoI R s g) (ht:RoI R st taken) (hw:Sat R Hs w):
  Zo prog 179 #[.agg #[.int .i64 n,.slice s.a s.len s.cap],.slice st.a st.len st.cap,.int .i64 many] w λ v w'=>∃ t:Sl,v=.tuple #[.slice t.a t.len t.cap,.int .i64 (Zaq n g taken many).2]/\Sat R (ZM t ((Zaq n g taken many).1.map (Value.int .i64))::Hs) w':=by
 have hbd:=Zc7 n g;have htl:=ht.len;have htb:=ht.bound;have bad:(many<1\/many>Za5 n g)->∀ w,Sat R (pts 0 (.cells #[] 0 (0,0))::Hs) w\/Sat R Hs w->∃ t:Sl,Value.tuple #[.slice none 0 0,.int .i64 1]=.tuple #[.slice t.a t.len t.cap,.int .i64 (Zaq n g taken many).2]/\Sat R (ZM t ((Zaq n g taken many).1.map (Value.int .i64))::Hs) w:=λ h w hw=>by
  have e:Zaq n g taken many=([],1):=by unfold Zaq;rw [if_pos h]
  rw [e];exact ⟨⟨none,0,0⟩,rfl,Own.reads (T:=0) (Own.nil (by rcases hw with h|h;exact h.drop;exact h))⟩
 apply Zyc;refine Zb hw λ p w hw=>?_;have hw:Sat R (pts p (ZgM n s)::Hs) w:=hw;refine ⟨λ w=>(1<=many/\many<=Za5 n g)/\Sat R (pts p (ZgM n s)::Hs) w,Br.d (λ h=>bad (.inl h) _ (.inr hw.drop)) (λ h1=>?_),?_⟩
 ·refine ⟨n,s,At.own (eqS hw) (by exact ⟨rfl,rfl,trivial⟩),?_⟩
  refine (ZbU hs hw).use ?_;rintro _ w ⟨rfl,hw⟩;exact ⟨_,rfl,Br.d (λ h=>bad (.inr h) _ (.inr hw.drop)) (λ h=>⟨⟨by omega,by omega⟩,hw⟩)⟩
 clear hw;rintro _ w ⟨⟨hm1,hm2⟩,hw⟩;have hok:ZeJ n g=true:=by
  by_cases hok:ZeJ n g=true
  ·exact hok
  ·unfold Za5 at hm2;rw [if_neg hok] at hm2;omega
 obtain ⟨l1,l2,l3⟩:=Zan.1 hok;have eT:Zaq n g taken many=((ZeN (Zbc taken) (zF g) (Za5 n g).toNat many.toNat).1.map λ (j:Nat)=>(j:Int),(ZeN (Zbc taken) (zF g) (Za5 n g).toNat many.toNat).2):=by
  unfold Zaq;rw [if_neg (by omega)]
 rw [eT];obtain ⟨N,hN⟩:=Int.eq_ofNat_of_zero_le hbd.1;obtain ⟨m,rfl⟩:=Int.eq_ofNat_of_zero_le (show 0<=many by omega);rw [hN] at hbd hm2 ⊢;rw [Int.toNat_natCast,Int.toNat_natCast];clear bad eT;generalize hu:Zbc taken=u;generalize hz:zF g=z;refine ⟨n,s,At.own (eqS hw) (by exact ⟨rfl,rfl,trivial⟩),?_⟩;refine (ZbU hs hw).use ?_;rw [hN];rintro _ w ⟨rfl,hw⟩;refine ⟨_,rfl,?_⟩;refine Zlr (bytes:=1) (z:=.bool false) underlying291 (by kernel_rfl) zeroValue4 rfl (by omega) (by omega) hw λ su w hw=>?_
 -- which ones are taken
 refine ⟨λ i w=>∃ j:Nat,i=j/\j<=taken.length/\Sat R (Own su 4 (((List.range N).map (Zbc (taken.take j))).map Value.bool)::pts p (ZgM n s)::Hs) w,λ i _=>taken.length - i.toNat,⟨0,rfl,by omega,?_⟩,?_⟩
 ·have e:((List.range N).map (Zbc (taken.take 0))).map Value.bool=List.replicate N (.bool false):=by
   apply List.ext_getElem
   ·simp
   ·intro i h1 h2;simp [Zbc]
  rw [e];exact hw
 clear hw;rintro _ _ w ⟨j,rfl,hj,hw⟩;have hsl:=Own.len hw;simp only [List.length_map,List.length_range] at hsl;refine Br.d (λ h=>?_) (λ h=>?_)
 ·have hj2:j<taken.length:=by omega
  refine ht.idx (eqS hw) hj2 ?_;refine ⟨n,s,At.own (eqS hw) (by exact ⟨rfl,rfl,trivial⟩),?_⟩;refine (ZkU hs hw).use ?_;rw [hN];rintro _ w ⟨rfl,hw⟩;have hset:∀ k:Nat,Zbc (taken.take (j + 1)) k=(Zbc (taken.take j) k||decide ((k:Int)=taken[j])):=λ k=>by
   unfold Zbc;rw [List.take_add_one,List.getElem?_eq_getElem hj2];simp only [Option.toList_some,List.mem_append,List.mem_singleton];rw [Bool.decide_or]
  rw [Zl (by omega) (by omega)];refine ⟨_,rfl,Br.d (λ h2=>?_) (λ h2=>?_)⟩
  ·obtain ⟨k,hk⟩:=Int.eq_ofNat_of_zero_le h2.1
   refine Own.storeV (by kernel_rfl) rfl rfl hw k hk (by simp;omega) λ w hw=>?_;refine ⟨⟨j + 1,by omega,by omega,?_⟩,by dsimp only;omega⟩;have e:(((List.range N).map (Zbc (taken.take j))).map Value.bool).set k (.bool true)=((List.range N).map (Zbc (taken.take (j + 1)))).map Value.bool:=by
    rw [<-List.map_set]
    congr 1
    apply List.ext_getElem
    ·simp
    ·intro i h3 h4
     simp only [List.length_map,List.length_range,List.length_set] at h3 h4;rw [List.getElem_set];simp only [List.getElem_map,List.getElem_range];rw [hset];split
     ·rename_i h5;subst h5;rw [decide_eq_true hk.symm,Bool.or_true]
     ·rw [decide_eq_false (by omega),Bool.or_false]
   rw [e] at hw;exact hw
  ·refine ⟨⟨j + 1,by omega,by omega,?_⟩,by dsimp only;omega⟩
   have e:(List.range N).map (Zbc (taken.take j))=(List.range N).map (Zbc (taken.take (j + 1))):=by
    refine List.map_congr_left λ i hi=>?_;have hi:=List.mem_range.1 hi;rw [hset,decide_eq_false (by omega),Bool.or_false]
   rw [e] at hw;exact hw
 rw [List.take_of_length_le (show taken.length<=j by omega),hu] at hw
 -- the seats, one behind the other
 refine ⟨n,s,At.own (eqS hw) (by exact ⟨rfl,rfl,trivial⟩),?_⟩;refine (ZbU hs hw).use ?_;rw [hN];rintro _ w ⟨rfl,hw⟩;refine ⟨_,rfl,?_⟩;clear h hj hsl;refine ⟨λ sf sr i w=>∃ j:Nat,i=j/\j<=N/\(∀ k,k<j->¬ m<=ZfV u z (k + 1))/\Sat R (Own sf 3 (ints (Zay u j))::Own sr 3 (ints (Zkx j (ZfV u z j)))::Own su 4 (((List.range N).map u).map Value.bool)::pts p (ZgM n s)::Hs) w,
  λ _ _ i _=>N - i.toNat,⟨0,rfl,by omega,λ k h=>by omega,Own.nil (Own.nil hw)⟩,?_⟩
 clear hw;rintro _ sf sr _ w ⟨j,rfl,hj,hn,hw⟩;have hfl:=ZlG (u:=u) j;have hrl:=Zmo (u:=u) (z:=z) j;refine Br.d (λ h=>?_) (λ h=>?_)
 ·have hjN:j<N:=by omega
  have hused:((List.range N).map u)[j]? =some (u j):=by rw [List.getElem?_map,List.getElem?_range hjN];rfl
  have hgu:∀ (hh:j<((List.range N).map u).length),((List.range N).map u)[j]=u j:=λ hh=>by simp
  refine ⟨λ sr w=>Sat R (Own sf 3 (ints (Zay u j))::Own sr 3 (ints (if z j||u j then [] else Zkx j (ZfV u z j)))::Own su 4 (((List.range N).map u).map Value.bool)::pts p (ZgM n s)::Hs) w,?_,?_⟩
  ·refine ⟨n,s,At.own (eqS hw) (by exact ⟨rfl,rfl,trivial⟩),?_⟩
   refine (ZoH hs l2 (by omega) (by omega) (by omega) hw).use ?_;rintro _ w ⟨rfl,hw⟩;have hzj:z j=((Zhi g ((j:Int) % g.sum)).1==0):=by rw [<-hz];rfl
   refine ⟨_,_,rfl,?_⟩;rw [<-hzj];refine Br.mk (λ h2=>?_) (λ h2=>?_)
   ·rw [h2];exact Own.nil (hw.swap.drop)|>.swap
   ·refine Own.idxB (hw.take (Own su 4 (((List.range N).map u).map Value.bool))) (eqS (hw.take (Own su 4 (((List.range N).map u).map Value.bool)))) j rfl (by simp;omega) ?_
    rw [hgu];refine Br.mk (λ h3=>?_) (λ h3=>?_)
    ·rw [h2,h3];exact Own.nil (hw.swap.drop)|>.swap
    ·rw [h2,h3];exact hw
  clear hw;rintro _ sr w hw;refine Own.idxB (hw.take (Own su 4 (((List.range N).map u).map Value.bool))) (eqS (hw.take (Own su 4 (((List.range N).map u).map Value.bool)))) j rfl (by simp;omega) ?_;rw [hgu,Zl (by omega) (by omega)];refine Br.mk (λ h3=>?_) (λ h3=>?_)
  ·refine ⟨⟨j + 1,by omega,by omega,λ k hk=>?_,?_⟩,by dsimp only;omega⟩
   ·by_cases hkj:k=j
    ·rw [hkj,Zdf,h3];simp;omega
    ·exact hn k (by omega)
   ·rw [h3,Bool.or_true,if_pos rfl] at hw
    rw [Zev,Zdf,h3];simp only [if_true,List.append_nil];exact hw
  ·refine Zdg Ztt hw (by rw [List.length_map];omega) λ sf' w hw=>?_
   have hrun:(if z j||u j then [] else Zkx j (ZfV u z j))++[j]=Zkx (j + 1) (ZfV u z (j + 1)):=by
    rw [Zdf,h3,Bool.or_false];simp only [Bool.false_eq_true,if_false];cases hzz:z j with
    |true=>simp [Zkx]
    |false=>
     simp only [Bool.false_eq_true,if_false];exact (Zqa hrl).symm
   have hrl2:=Zmo (u:=u) (z:=z) (j + 1);refine Zdg Ztt hw.swap (by rw [List.length_map];split<;>simp [ZgR]<;>omega) λ sr' w hw=>?_;have hw:Sat R (Own sr' 3 (ints (Zkx (j + 1) (ZfV u z (j + 1))))::Own sf' 3 (ints (Zay u (j + 1)))::Own su 4 (((List.range N).map u).map Value.bool)::pts p (ZgM n s)::Hs) w:=by
    have e1:ints (Zay u (j + 1))=(((Zay u j).map λ (j:Nat)=>(j:Int))++[(j:Int)]).map (Value.int .i64):=by rw [Zev,h3];simp [ints]
    have e2:ints (Zkx (j + 1) (ZfV u z (j + 1)))=(((if z j||u j then [] else Zkx j (ZfV u z j)).map λ (j:Nat)=>(j:Int))++[(j:Int)]).map (Value.int .i64):=by rw [<-hrun];simp only [ints,List.map_append,List.map_cons,List.map_nil]
    rw [e1,e2];exact hw
   have hrlen:=Own.len hw;rw [ZjY,ZgR] at hrlen;refine Br.e (λ h4=>?_) (λ h4=>?_)
   ·have hbs:=Zs7 (u:=u) (z:=z) (many:=m) (N:=N) (by omega) hjN (by omega) hn
    rw [hbs];refine ⟨sr',rfl,?_⟩;have:=Own.reads hw;rw [show ZfV u z (j + 1)=m by omega] at this;exact Sat.cons (λ R' h=>h.drop.drop.drop) this
   ·refine ⟨⟨j + 1,by omega,by omega,λ k hk hr=>?_,hw.swap⟩,by dsimp only;omega⟩
    by_cases hkj:k=j
    ·subst hkj
     have:ZfV u z (k + 1)<=ZfV u z k + 1:=by rw [Zdf];split<;>(try split)<;>omega
     have:ZfV u z k<m:=by
      by_cases hk0:k=0
      ·rw [hk0];simp only [ZfV];omega
      ·have:=hn (k - 1) (by omega)
       rw [show k - 1 + 1=k by omega] at this;omega
     omega
    ·exact hn k (by omega) hr
 ·obtain rfl:j=N:=by omega
  have hbn:=Zs8 (u:=u) (z:=z) (many:=m) (N:=j) (by omega) hn;have hfl2:=Own.len hw;have hcap:=Own.cap hw;rw [ZjY] at hfl2;rw [hbn];refine Br.d (λ h4=>?_) (λ h4=>?_)
  ·rw [if_pos (by omega)]
   exact ⟨⟨none,0,0⟩,rfl,Own.reads (T:=0) (Own.nil hw.drop.drop.drop.drop)⟩
  ·rw [if_neg (by omega)]
   refine ⟨by omega,by omega,⟨sf.a,m,sf.cap⟩,rfl,?_⟩;have:=Own.reads (Zt2 (k:=m) (by rw [ZjY];omega) hw);rw [show (ints (Zay u j)).take m=ints ((Zay u j).take m) by simp [ints,List.map_take]] at this;exact Sat.cons (λ R' h=>h.drop.drop.drop) this
end
section
open Go Go.VC Tryz
variable {R:Cx} {Hs Rest:List HP} {w:World}
theorem _root_.Go.VC.Sat.imp {A B:HP} (h:∀ m,A m->B m) (hw:Sat R (A::Hs) w):Sat R (B::Hs) w:=let ⟨m,a,b,c⟩:=hw;⟨m,h m a,b,c⟩
end
section
open Go Go.VC Tryz
variable {R:Cx} {Hs Rest:List HP} {w:World}
def inR (x:Int):Bool:=decide (0<=x/\x<=10000)
def ZjR (l:List Int):Bool:=decide (1<=l.length/\l.length<=8) && decide (∀ k,k<l.length->(0<=l.getD k 0/\l.getD k 0<=10000)/\(0<k->l.getD k 0<=l.getD (k - 1) 0))
def Za2 (sold:List Int) (k:Nat):Int:=(sold.drop k).sum
def Zad (lim sold:List Int):Bool:=ZjR lim && (decide (sold.length=lim.length) && decide (∀ k,k<lim.length->(0<=sold.getD k 0/\sold.getD k 0<=10000)/\Za2 sold k<=lim.getD k 0))
def mnF (x:Nat->Int):Nat->Int
 |0=>10000
 |k + 1=>if x k<mnF x k then x k else mnF x k
def ZdR (lim sold:List Int) (k:Nat):Int:=lim.getD k 0 - Za2 sold k
def ZbA (lim sold:List Int) (c:Int):Int × Int:=if Zad lim sold=true/\0<=c/\c<lim.length then (mnF (ZdR lim sold) (c.toNat + 1),0) else (0,1)
def Za7 (lim sold:List Int) (c many:Int):List Int × Int:=
 if (ZbA lim sold c).2≠0\/many<1\/many>10000 then ([],1) else if many>(ZbA lim sold c).1 then ([],3)
 else (sold.set c.toNat (sold.getD c.toNat 0 + many),0)
def ZfO (lim sold:List Int) (c many:Int):List Int × Int:=
 if (ZbA lim sold c).2≠0\/many<1\/many>sold.getD c.toNat 0 then ([],1) else (sold.set c.toNat (sold.getD c.toNat 0 - many),0)
def Znc (x:Nat->Int) (a b:Nat) (L:Int):Prop:=L<=10000/\(∀ k,a<=k->k<b->L<=x k)/\(L=10000\/∃ k,a<=k/\k<b/\L=x k)
theorem ZnL (x:Nat->Int):∀ k,Znc x 0 k (mnF x k)
 |0=>⟨by simp [mnF],λ k h0 h1=>by omega,.inl rfl⟩
 |k + 1=>by
  obtain ⟨h1,h2,h3⟩:=ZnL x k;unfold mnF;split
  ·exact ⟨by omega,λ j a b=>by
    by_cases hj:j=k
    ·rw [hj];exact Int.le_refl _
    ·have:=h2 j a (by omega);omega,.inr ⟨k,by omega,by omega,rfl⟩⟩
  ·refine ⟨h1,λ j a b=>?_,?_⟩
   ·by_cases hj:j=k
    ·rw [hj];omega
    ·exact h2 j a (by omega)
   ·rcases h3 with h3|⟨j,a,b,c⟩
    ·exact .inl h3
    ·exact .inr ⟨j,a,by omega,c⟩
theorem Znc.eq {x:Nat->Int} {a b:Nat} {L L':Int} (h:Znc x a b L) (h':Znc x a b L'):L=L':=by
 obtain ⟨h1,h2,h3⟩:=h;obtain ⟨h1',h2',h3'⟩:=h';have a1:L<=L':=by
  rcases h3' with h|⟨k,k1,k2,k3⟩
  ·omega
  ·rw [k3];exact h2 k k1 k2
 have a2:L'<=L:=by
  rcases h3 with h|⟨k,k1,k2,k3⟩
  ·omega
  ·rw [k3];exact h2' k k1 k2
 omega
theorem Znc.step {x:Nat->Int} {a b:Nat} {L:Int} (h:Znc x (a + 1) b L) (hab:a<b):Znc x a b (if x a<L then x a else L):=by
 obtain ⟨h1,h2,h3⟩:=h;split
 ·exact ⟨by omega,λ k k1 k2=>by
   by_cases hk:k=a
   ·rw [hk];exact Int.le_refl _
   ·have:=h2 k (by omega) k2;omega,.inr ⟨a,by omega,hab,rfl⟩⟩
 ·refine ⟨h1,λ k k1 k2=>?_,?_⟩
  ·by_cases hk:k=a
   ·rw [hk];omega
   ·exact h2 k (by omega) k2
  ·rcases h3 with h|⟨k,k1,k2,k3⟩
   ·exact .inl h
   ·exact .inr ⟨k,by omega,k2,k3⟩
theorem Znc.skip {x:Nat->Int} {a b:Nat} {L:Int} (h:Znc x (a + 1) b L) (hab:¬ a<b):Znc x a b L:=by
 obtain ⟨h1,h2,h3⟩:=h;refine ⟨h1,λ k k1 k2=>by omega,?_⟩;rcases h3 with h|⟨k,k1,k2,k3⟩
 ·exact .inl h
 ·omega
theorem Zbm {sold:List Int} {k:Nat} (h:k<sold.length):Za2 sold k=sold[k] + Za2 sold (k + 1):=by
 unfold Za2;rw [List.drop_eq_getElem_cons h,List.sum_cons]
theorem ZcI {sold:List Int} {k:Nat} (h:sold.length<=k):Za2 sold k=0:=by
 unfold Za2;rw [List.drop_eq_nil_of_le h];rfl
theorem Zux {sold:List Int} (h:∀ x∈sold,0<=x/\x<=10000):∀ k,0<=Za2 sold k/\Za2 sold k<=10000 * (sold.length - k:Nat):=by
 intro k;unfold Za2;rw [<-List.length_drop];have:∀ x∈sold.drop k,0<=x/\x<=10000:=λ x hx=>h x (List.mem_of_mem_drop hx);generalize sold.drop k=l at *
 induction l with
 |nil=>simp
 |cons a l ih=>
  have:=ih λ x hx=>this x (List.mem_cons_of_mem _ hx);have:=‹∀ x∈a::l,0<=x/\x<=10000› a List.mem_cons_self;simp only [List.sum_cons,List.length_cons];omega
theorem Zaf {l:List Int} {k:Nat} (h:k<l.length):l.getD k 0=l[k]:=by rw [List.getD_eq_getElem?_getD,List.getElem?_eq_getElem h];rfl
theorem ZaP {l:List Int}:ZjR l=true↔(1<=l.length/\l.length<=8)/\∀ k (h:k<l.length),(0<=l[k]/\l[k]<=10000)/\(0<k->l[k]<=l.getD (k - 1) 0):=by
 unfold ZjR;rw [Bool.and_eq_true,decide_eq_true_iff,decide_eq_true_iff];constructor
 ·rintro ⟨h1,h2⟩
  exact ⟨h1,λ k h=>by have:=h2 k h;rw [Zaf h] at this;exact this⟩
 ·rintro ⟨h1,h2⟩
  exact ⟨h1,λ k h=>by rw [Zaf h];exact h2 k h⟩
theorem ZS {lim sold:List Int}:Zad lim sold=true↔ZjR lim=true/\sold.length=lim.length/\∀ k,k<lim.length->(0<=sold.getD k 0/\sold.getD k 0<=10000)/\Za2 sold k<=lim.getD k 0:=by
 unfold Zad;rw [Bool.and_eq_true,Bool.and_eq_true,decide_eq_true_iff,decide_eq_true_iff]
theorem Zfp {lim sold:List Int} (h:¬ (ZjR lim=true/\sold.length=lim.length/\∀ k,k<lim.length->(0<=sold.getD k 0/\sold.getD k 0<=10000)/\Za2 sold k<=lim.getD k 0)):Zad lim sold=false:=by
 rw [<-Bool.not_eq_true,ZS];exact h
theorem ZeT {x:Int} (hw:Sat R Hs w):Zo prog 234 #[.int .i64 x] w λ v w'=>v=.bool (inR x)/\Sat R Hs w':=by
 apply ZxO;unfold inR;refine Br.d (λ h=>⟨?_,hw⟩) (λ h=>⟨?_,hw⟩)
 ·congr 1;rw [decide_eq_decide];omega
 ·rw [decide_eq_false (by omega)]
theorem Zf7 {sl ss:Sl} {lim sold:List Int} {ask:Value} {A:Nat->List HP} (hl:RoI R sl lim) (hs:RoI R ss sold)
  (hask:∀ j w,j<lim.length->Sat R (A (j + 1)) w->Zak prog cl ask [.int .i64 j,.int .i64 (ZdR lim sold j)] w λ e w'=>e=.returned (.tuple #[])/\Sat R (A j) w')
  (hw:Sat R (A lim.length) w):
  Zo prog 201 #[.slice sl.a sl.len sl.cap,.slice ss.a ss.len ss.cap,ask] w λ v w'=>v=.bool (Zad lim sold)/\∃ j,Sat R (A j) w'/\(Zad lim sold=true->j=0):=by
 have hll:=hl.len;have hsl:=hs.len;have hlb:=hl.bound;have hsb:=hs.bound;apply Zx8;have no:∀ j w,Sat R (A j) w->Zad lim sold=false->Value.bool false=.bool (Zad lim sold)/\∃ j,Sat R (A j) w/\(Zad lim sold=true->j=0):=λ j w h e=>⟨by rw [e],j,h,λ h=>by rw [e] at h;cases h⟩;have nl:¬ (1<=lim.length/\lim.length<=8)->Zad lim sold=false:=λ h=>Zfp λ h2=>h (ZaP.1 h2.1).1;refine ⟨λ w=>(1<=lim.length/\lim.length<=8/\sold.length=lim.length)/\Sat R (A lim.length) w,?_,?_⟩
 ·refine Br.d (λ h=>no _ _ hw (nl (by omega))) (λ h1=>Br.d (λ h=>no _ _ hw (nl (by omega))) (λ h2=>Br.ne (λ h=>no _ _ hw (Zfp λ h3=>by omega)) (λ h3=>⟨⟨by omega,by omega,by omega⟩,hw⟩)))
 clear hw;rintro _ w ⟨⟨h1,h2,h3⟩,hw⟩;refine ⟨λ sum fine i w=>∃ j:Nat,i=(j:Int) - 1/\j<=lim.length/\sum=Za2 sold j/\(∀ x∈sold.drop j,0<=x/\x<=10000)/\
   (∀ k (h:k<lim.length),j<=k->(0<=lim[k]/\lim[k]<=10000)/\(0<k->lim[k]<=lim.getD (k - 1) 0))/\fine=decide (∀ k,k<lim.length->j<=k->Za2 sold k<=lim.getD k 0)/\Sat R (A j) w,
  λ _ _ i _=>(i + 1).toNat,⟨lim.length,?_,by omega,?_,?_,λ k h h'=>by omega,?_,hw⟩,?_⟩
 ·rw [hll,Zl (by omega) (by omega)]
 ·rw [ZcI (by omega)]
 ·rw [List.drop_eq_nil_of_le (by omega)];simp
 ·rw [decide_eq_true];intro k h h';omega
 clear hw;rintro _ _ fine _ w ⟨j,rfl,hj,rfl,hsm,hlm,rfl,hw⟩;refine Br.d (λ h=>?_) (λ h=>?_)
 ·obtain ⟨i,rfl⟩:∃ i,j=i + 1:=⟨j - 1,by omega⟩
  rw [show ((i + 1:Nat):Int) - 1=(i:Int) by omega];have hil:i<lim.length:=by omega
  have his:i<sold.length:=by omega
  have nlim:¬ ((0<=lim[i]/\lim[i]<=10000)/\(0<i->lim[i]<=lim.getD (i - 1) 0))->Zad lim sold=false:=λ h=>Zfp λ h2=>h ((ZaP.1 h2.1).2 i hil);have nsold:¬ (0<=sold[i]/\sold[i]<=10000)->Zad lim sold=false:=λ h=>Zfp λ h2=>h (by have:=(h2.2.2 i hil).1;rw [Zaf his] at this;exact this);refine ⟨λ w=>(inR lim[i]=true/\inR sold[i]=true/\(0<i->lim[i]<=lim.getD (i - 1) 0))/\Sat R (A (i + 1)) w,?_,?_⟩
  ·refine Zu hw λ w hw=>?_
   refine Ro.ix hl Zhj i rfl hil ?_;refine (ZeT hw).use ?_;rintro _ w ⟨rfl,hw⟩;refine ⟨_,rfl,hw,Br.nb (λ h=>no _ _ hw (nlim λ h2=>by unfold inR at h;have:=of_decide_eq_false h;omega)) (λ h4=>?_)⟩;refine Ro.ix hs Zhj i rfl his ?_;refine (ZeT hw).use ?_;rintro _ w ⟨rfl,hw⟩;refine ⟨_,rfl,hw,Br.nb (λ h=>no _ _ hw (nsold λ h2=>by unfold inR at h;have:=of_decide_eq_false h;omega)) (λ h5=>?_)⟩;refine Br.d (λ h6=>?_) (λ h6=>⟨⟨h4,h5,λ h=>by omega⟩,hw⟩);refine Ro.ix hl Zhj i rfl hil ?_;refine Ro.ix hl Zhj (i - 1) (by rw [Zl (by omega) (by omega)];omega) (by omega) ?_;refine Br.d (λ h7=>no _ _ hw (nlim λ h8=>?_)) (λ h7=>⟨⟨h4,h5,λ _=>by rw [Zaf (by omega)];omega⟩,hw⟩);have:=h8.2 (by omega);rw [Zaf (by omega)] at this;omega
  clear hw;rintro _ w ⟨⟨h4,h5,h6⟩,hw⟩;have h4:=of_decide_eq_true h4;have h5:=of_decide_eq_true h5;have hsm':∀ x∈sold.drop i,0<=x/\x<=10000:=λ x hx=>by
   rw [List.drop_eq_getElem_cons his] at hx;rcases List.mem_cons.1 hx with rfl|hx
   ·exact h5
   ·exact hsm x hx
  have hfs:=Zbm his;have hfb:0<=Za2 sold (i + 1)/\Za2 sold (i + 1)<=80000:=by
   have:=Zux (sold:=sold.drop (i + 1)) hsm 0;unfold Za2 at this ⊢;rw [List.drop_zero] at this;rw [List.length_drop] at this;omega
  have hroom:IntKind.i64.wrap (lim[i] - Za2 sold i)=ZdR lim sold i:=by
   rw [Zl (by omega) (by omega)];unfold ZdR;rw [Zaf hil]
  have hsum:IntKind.i64.wrap (Za2 sold (i + 1) + sold[i])=Za2 sold i:=by rw [Zl (by omega) (by omega)];omega
  have hk:IntKind.i64.wrap ((i:Int) - 1)=(i:Int) - 1:=Zl (by omega) (by omega);have fin:∀ w,Sat R (A i) w->∀ b:Bool,b=(decide (∀ k,k<lim.length->i + 1<=k->Za2 sold k<=lim.getD k 0) && decide (Za2 sold i<=lim[i]))->
    (∃ j:Nat,(i:Int) - 1=(j:Int) - 1/\j<=lim.length/\Za2 sold i=Za2 sold j/\(∀ x∈sold.drop j,0<=x/\x<=10000)/\
     (∀ k (h:k<lim.length),j<=k->(0<=lim[k]/\lim[k]<=10000)/\(0<k->lim[k]<=lim.getD (k - 1) 0))/\b=decide (∀ k,k<lim.length->j<=k->Za2 sold k<=lim.getD k 0)/\Sat R (A j) w)/\((i:Int) - 1 + 1).toNat<((i:Int) + 1).toNat:=λ w hw b hb=>by
   refine ⟨⟨i,rfl,by omega,rfl,hsm',λ k h h'=>?_,?_,hw⟩,by omega⟩
   ·by_cases hki:k=i
    ·subst hki;exact ⟨h4,h6⟩
    ·exact hlm k h (by omega)
   ·rw [hb,<-Bool.decide_and,decide_eq_decide]
    constructor
    ·rintro ⟨a,b⟩ k c d
     by_cases hki:k=i
     ·subst hki;rw [Zaf hil];exact b
     ·exact a k c (by omega)
    ·intro a
     exact ⟨λ k c d=>a k c (by omega),by have:=a i hil (by omega);rw [Zaf hil] at this;exact this⟩
  refine Ro.ix hs (eqS hw) i rfl his ?_;rw [hsum,hk];refine Br.d (λ h7=>?_) (λ h7=>?_)
  ·refine Ro.ix hl (eqS hw) i rfl hil (Ro.ix hl (eqS hw) i rfl hil ?_)
   rw [hroom];refine (hask i w hil hw).mono ?_;rintro _ w ⟨rfl,hw⟩;exact ⟨rfl,fin w hw _ (by rw [decide_eq_true h7];rfl)⟩
  ·refine Ro.ix hl (eqS hw) i rfl hil ?_
   rw [hroom];refine (hask i w hil hw).mono ?_;rintro _ w ⟨rfl,hw⟩;exact ⟨rfl,fin w hw _ (by rw [decide_eq_false h7];rfl)⟩
 ·obtain rfl:j=0:=by omega
  have e:Zad lim sold=decide (∀ k,k<lim.length->0<=k->Za2 sold k<=lim.getD k 0):=by
   rw [Bool.eq_iff_iff,ZS,decide_eq_true_iff];constructor
   ·intro h k h4 _;exact (h.2.2 k h4).2
   ·intro h
    refine ⟨ZaP.2 ⟨⟨h1,h2⟩,λ k h4=>hlm k h4 (by omega)⟩,h3,λ k h4=>⟨?_,h k h4 (by omega)⟩⟩;rw [Zaf (by omega)];exact hsm _ (by rw [List.drop_zero];exact List.getElem_mem _)
  exact ⟨by rw [e],0,hw,λ _=>rfl⟩
end
section
open Go Go.VC Tryz
variable {R:Cx} {Hs Rest:List HP} {w:World}
theorem ZmA {sl ss:Sl} {lim sold:List Int} (hl:RoI R sl lim) (hs:RoI R ss sold) (hw:Sat R Hs w):
  Zo prog 226 #[.slice sl.a sl.len sl.cap,.slice ss.a ss.len ss.cap] w λ v w'=>v=.bool (Zad lim sold)/\Sat R Hs w':=by
 apply ZxW;refine (Zf7 (A:=λ _=>Hs) hl hs (λ j w _ hw=>Zak.mk (by kernel_rfl) (Zo.use (Q:=λ v w'=>v=.tuple #[]/\Sat R Hs w') (Zxt _ _ _ _ ⟨rfl,hw⟩) λ v w' h=>⟨by rw [h.1],h.2⟩)) hw).use ?_;rintro _ w ⟨rfl,_,hw,_⟩;exact ⟨_,rfl,rfl,hw⟩
def Zlu (b:Nat) (x:Nat->Int) (j c:Nat):HP:=λ h=>∃ L,Znc x j c L/\pts b (.cells [.int .i64 L].toArray 3 (0,0)) h
theorem ZiY {b j c:Nat} {x:Nat->Int} (hw:Sat R (Zlu b x j c::Hs) w):∃ L,Znc x j c L/\Sat R (pts b (.cells [.int .i64 L].toArray 3 (0,0))::Hs) w:=
 let ⟨h,⟨L,hL,hp⟩,hd,hs⟩:=hw
 ⟨L,hL,h,hp,hd,hs⟩
theorem ZhJ {b j c:Nat} {x:Nat->Int} {L:Int} (hL:Znc x j c L) (hw:Sat R (pts b (.cells [.int .i64 L].toArray 3 (0,0))::Hs) w):Sat R (Zlu b x j c::Hs) w:=
 Sat.imp (λ _ h=>⟨L,hL,h⟩) hw
theorem Zpg {bc bl:Nat} {c:Int} {x:Nat->Int} {j:Nat} (hw:Sat R (Zlu bl x (j + 1) (c + 1).toNat::pts bc (.cells [.int .i64 c].toArray 3 (0,0))::Hs) w):
  Zo prog 202 #[.int .i64 j,.int .i64 (x j),.pointer (some ⟨bc,0,none⟩),.pointer (some ⟨bl,0,none⟩)] w λ v w'=>v=.tuple #[]/\Sat R (Zlu bl x j (c + 1).toNat::pts bc (.cells [.int .i64 c].toArray 3 (0,0))::Hs) w':=by
 obtain ⟨L,hL,hw⟩:=ZiY hw;apply ZsR;refine Zd.mk rfl ⟨c,oA hw,Br.d (λ h=>?_) (λ h=>⟨rfl,ZhJ (hL.skip (by omega)) hw⟩)⟩;refine Zd.mk rfl ⟨L,oA hw,?_⟩;refine Za hw (by kernel_rfl) rfl (by simp [Value.cells]) λ w hw=>?_;exact ⟨rfl,ZhJ (hL.step (by omega)) hw⟩
theorem ZhI {sl ss:Sl} {lim sold:List Int} {c:Int} (hl:RoI R sl lim) (hs:RoI R ss sold) (hw:Sat R Hs w):
  Zo prog 123 #[.slice sl.a sl.len sl.cap,.slice ss.a ss.len ss.cap,.int .i64 c] w λ v w'=>v=.tuple #[.int .i64 (ZbA lim sold c).1,.int .i64 (ZbA lim sold c).2]/\Sat R Hs w':=by
 have hll:=hl.len;have hlb:=hl.bound;have no:¬ (Zad lim sold=true/\0<=c/\c<lim.length)->ZbA lim sold c=(0,1):=λ h=>by unfold ZbA;rw [if_neg h]
 apply ZyN;refine Zb hw λ bc w hw=>?_;refine Zb hw λ bl w hw=>?_;have hw:Sat R (pts bl (.cells [.int .i64 0].toArray 3 (0,0))::pts bc (.cells [.int .i64 c].toArray 3 (0,0))::Hs) w:=hw;refine Za hw (by kernel_rfl) rfl (by simp [Value.cells]) λ w hw=>?_;have hw:Sat R (pts bl (.cells [.int .i64 10000].toArray 3 (0,0))::pts bc (.cells [.int .i64 c].toArray 3 (0,0))::Hs) w:=hw;by_cases hc:c<lim.length
 ·have h0:Znc (ZdR lim sold) lim.length (c + 1).toNat 10000:=⟨by omega,λ k h1 h2=>by omega,.inl rfl⟩
  refine (Zf7 (A:=λ j=>Zlu bl (ZdR lim sold) j (c + 1).toNat::pts bc (.cells [.int .i64 c].toArray 3 (0,0))::Hs) hl hs (λ j w _ hw=>Zak.mk (by kernel_rfl) ((Zpg hw).use λ v w' h=>⟨by rw [h.1],h.2⟩)) (ZhJ h0 hw)).use ?_;rintro _ w ⟨rfl,j,hw,hj⟩;refine ⟨_,rfl,Br.nb (λ h=>⟨?_,hw.drop.drop⟩) (λ h1=>?_)⟩
  ·rw [no (λ h2=>by rw [h] at h2;cases h2.1)]
  obtain rfl:=hj h1;obtain ⟨L,hL,hw⟩:=ZiY hw;refine ⟨c,oA hw,Br.d (λ h=>⟨by rw [no (λ h2=>by omega)],hw.drop.drop⟩) (λ h2=>?_)⟩;refine ⟨c,oA hw,Br.d (λ h=>⟨by rw [no (λ h2=>by omega)],hw.drop.drop⟩) (λ h3=>?_)⟩;refine ⟨L,oA hw,?_,hw.drop.drop⟩;have e:ZbA lim sold c=(mnF (ZdR lim sold) (c.toNat + 1),0):=by unfold ZbA;rw [if_pos ⟨h1,by omega,hc⟩]
  rw [e,show c.toNat + 1=(c + 1).toNat by omega];rw [hL.eq (ZnL _ _)]
 ·have h0:Znc (λ _=>0) 0 0 10000:=⟨by omega,λ k h1 h2=>by omega,.inl rfl⟩
  refine (Zf7 (A:=λ j=>exs (λ L=>pts bl (.cells [.int .i64 L].toArray 3 (0,0)))::pts bc (.cells [.int .i64 c].toArray 3 (0,0))::Hs) hl hs (λ j w _ hw=>Zak.mk (by kernel_rfl) ?_) (Sat.exs.2 ⟨10000,hw⟩)).use ?_
  ·obtain ⟨L,hw⟩:=Sat.exs.1 hw
   refine Zo.use (Q:=λ v w'=>v=.tuple #[]/\Sat R (exs (λ L=>pts bl (.cells [.int .i64 L].toArray 3 (0,0)))::pts bc (.cells [.int .i64 c].toArray 3 (0,0))::Hs) w') (ZsR _ _ _ _ _ _ ?_) λ v w' h=>⟨by rw [h.1],h.2⟩;refine Zd.mk rfl ⟨c,oA hw,Br.d (λ h=>?_) (λ h=>⟨rfl,Sat.exs.2 ⟨L,hw⟩⟩)⟩;refine Zd.mk rfl ⟨L,oA hw,?_⟩;refine Za hw (by kernel_rfl) rfl (by simp [Value.cells]) λ w hw=>?_;exact ⟨rfl,Sat.exs.2 ⟨_,hw⟩⟩
  rintro _ w ⟨rfl,j,hw,hj⟩;obtain ⟨L,hw⟩:=Sat.exs.1 hw;have e:=no (λ h2=>by omega);refine ⟨_,rfl,Br.nb (λ h=>⟨by rw [e],hw.drop.drop⟩) (λ h1=>?_)⟩;refine ⟨c,oA hw,Br.d (λ h=>⟨by rw [e],hw.drop.drop⟩) (λ h2=>?_)⟩;refine ⟨c,oA hw,Br.d (λ h=>⟨by rw [e],hw.drop.drop⟩) (λ h3=>by omega)⟩
theorem Ze5 {s:Sl} {l:List Int} (hs:RoI R s l) (hl:l.length<=1000000000) (hw:Sat R Hs w):
  Zo prog 166 #[.slice s.a s.len s.cap] w λ v w'=>∃ t:Sl,v=.slice t.a t.len t.cap/\Sat R (Own t 3 (l.map (Value.int .i64))::Hs) w':=by
 apply Zyp;refine Br.mk (λ h=>?_) (λ h=>?_)
 ·have hnil:l=[]:=by
   by_cases hn:l=[]
   ·exact hn
   ·obtain ⟨b,off,l',T,fr,ha,_⟩:=hs.mem (by simpa using hn)
    rw [ha] at h;cases h
  subst hnil;exact ⟨⟨none,0,0⟩,rfl,Own.nil hw⟩
 ·refine Zb hw λ b w hw=>?_
  have hw:Sat R (Own ⟨some ⟨b,0,none⟩,0,0⟩ 3 (([]:List Int).map (Value.int .i64))::Hs) w:=Zc4 hw;refine Zkv Ztt (s:=⟨some ⟨b,0,none⟩,0,0⟩) (n:=1000000000) underlying30 hw hs (by simpa using hl) (by omega) (by omega) λ t w hw=>?_;exact ⟨t,rfl,hw⟩
theorem Zlo {s:Sl} {l:List Int} {c many:Int} (hs:RoI R s l) (hl:l.length<=1000) (hc:0<=c) (hc2:c<l.length) (hb:∀ x∈l,0<=x/\x<=10000) (hm: -10000<=many/\many<=10000) (hw:Sat R Hs w):
  Zo prog 238 #[.slice s.a s.len s.cap,.int .i64 c,.int .i64 many] w λ v w'=>∃ t:Sl,v=.slice t.a t.len t.cap/\Sat R (Own t 3 ((l.set c.toNat (l.getD c.toNat 0 + many)).map (Value.int .i64))::Hs) w':=by
 obtain ⟨k,rfl⟩:=Int.eq_ofNat_of_zero_le hc;have hk:k<l.length:=by omega
 have hx:=hb l[k] (List.getElem_mem _);apply ZxK;refine (Ze5 hs (by omega) hw).use ?_;rintro _ w ⟨t,rfl,hw⟩;refine ⟨t,rfl,?_⟩;refine Own.ix hw (eqS hw) k rfl hk ?_;refine Own.store (by kernel_rfl) hw hk λ w hw=>?_;rw [Zl (by omega) (by omega)] at hw;rw [Int.toNat_natCast,Zaf hk];exact ⟨t,rfl,hw⟩
theorem Zll {lim sold:List Int} (h:Zad lim sold=true):(∀ x∈sold,0<=x/\x<=10000)/\sold.length=lim.length/\lim.length<=8:=by
 obtain ⟨h1,h2,h3⟩:=ZS.1 h;obtain ⟨⟨_,h4⟩,_⟩:=ZaP.1 h1;refine ⟨λ x hx=>?_,h2,h4⟩;obtain ⟨k,hk,rfl⟩:=List.getElem_of_mem hx;have:=(h3 k (by omega)).1;rw [Zaf hk] at this;exact this
theorem ZmI {lim sold:List Int} {c:Int} (h:(ZbA lim sold c).2=0):Zad lim sold=true/\0<=c/\c<lim.length:=by
 unfold ZbA at h;split at h
 ·assumption
 ·simp at h
theorem ZqC {sl ss:Sl} {lim sold:List Int} {c many:Int} (hl:RoI R sl lim) (hs:RoI R ss sold) (hw:Sat R Hs w):
  Zo prog 168 #[.slice sl.a sl.len sl.cap,.slice ss.a ss.len ss.cap,.int .i64 c,.int .i64 many] w λ v w'=>∃ t:Sl,v=.tuple #[.slice t.a t.len t.cap,.int .i64 (Za7 lim sold c many).2]/\Sat R (Own t 3 ((Za7 lim sold c many).1.map (Value.int .i64))::Hs) w':=by
 apply Zyn;refine (ZhI hl hs hw).use ?_;rintro _ w ⟨rfl,hw⟩;have bad:((ZbA lim sold c).2≠0\/many<1\/many>10000)->∃ t:Sl,Value.tuple #[.slice none 0 0,.int .i64 1]=.tuple #[.slice t.a t.len t.cap,.int .i64 (Za7 lim sold c many).2]/\Sat R (Own t 3 ((Za7 lim sold c many).1.map (Value.int .i64))::Hs) w:=λ h=>by
  unfold Za7;rw [if_pos h];exact ⟨⟨none,0,0⟩,rfl,Own.nil hw⟩
 refine ⟨_,_,rfl,Br.ne (λ h=>bad (.inl h)) (λ h1=>Br.d (λ h=>bad (.inr (.inl h))) (λ h2=>Br.d (λ h=>bad (.inr (.inr h))) (λ h3=>?_)))⟩;have e:Za7 lim sold c many=if many>(ZbA lim sold c).1 then ([],3) else (sold.set c.toNat (sold.getD c.toNat 0 + many),0):=by
  unfold Za7;rw [if_neg (by omega)]
 rw [e];obtain ⟨n1,n2,n3⟩:=ZmI h1;obtain ⟨n4,n5,n6⟩:=Zll n1;refine Br.d (λ h=>?_) (λ h=>?_)
 ·rw [if_pos h];exact ⟨⟨none,0,0⟩,rfl,Own.nil hw⟩
 ·rw [if_neg h]
  refine (Zlo hs (by omega) n2 (by omega) n4 ⟨by omega,by omega⟩ hw).use ?_;rintro _ w ⟨t,rfl,hw⟩;exact ⟨t,rfl,t,rfl,hw⟩
theorem Ztc {sl ss:Sl} {lim sold:List Int} {c many:Int} (hl:RoI R sl lim) (hs:RoI R ss sold) (hw:Sat R Hs w):
  Zo prog 175 #[.slice sl.a sl.len sl.cap,.slice ss.a ss.len ss.cap,.int .i64 c,.int .i64 many] w λ v w'=>∃ t:Sl,v=.tuple #[.slice t.a t.len t.cap,.int .i64 (ZfO lim sold c many).2]/\Sat R (Own t 3 ((ZfO lim sold c many).1.map (Value.int .i64))::Hs) w':=by
 have hsl:=hs.len;apply Zyg;refine (ZhI hl hs hw).use ?_;rintro _ w ⟨rfl,hw⟩;have bad:((ZbA lim sold c).2≠0\/many<1\/many>sold.getD c.toNat 0)->∃ t:Sl,Value.tuple #[.slice none 0 0,.int .i64 1]=.tuple #[.slice t.a t.len t.cap,.int .i64 (ZfO lim sold c many).2]/\Sat R (Own t 3 ((ZfO lim sold c many).1.map (Value.int .i64))::Hs) w:=λ h=>by
  unfold ZfO;rw [if_pos h];exact ⟨⟨none,0,0⟩,rfl,Own.nil hw⟩
 refine ⟨_,_,rfl,Br.ne (λ h=>bad (.inl h)) (λ h1=>Br.d (λ h=>bad (.inr (.inl h))) (λ h2=>?_))⟩;obtain ⟨n1,n2,n3⟩:=ZmI h1;obtain ⟨n4,n5,n6⟩:=Zll n1;have hx:=n4 (sold[c.toNat]'(by omega)) (List.getElem_mem _);refine Ro.ix hs (eqS hw) c.toNat (by omega) (by omega) ?_;refine Br.d (λ h=>bad (.inr (.inr (by rw [Zaf (by omega)];exact h)))) (λ h3=>?_);have e:ZfO lim sold c many=(sold.set c.toNat (sold.getD c.toNat 0 - many),0):=by
  unfold ZfO;rw [if_neg (by rw [Zaf (by omega)];omega)]
 rw [e,show IntKind.i64.wrap (0 - many)=-many by rw [Zl (by omega) (by omega)];omega];refine (Zlo hs (by omega) n2 (by omega) n4 ⟨by omega,by omega⟩ hw).use ?_;rintro _ w ⟨t,rfl,hw⟩;rw [<-Int.sub_eq_add_neg] at hw;exact ⟨t,rfl,t,rfl,hw⟩
end
end Go.Proofs.YtlplemdmegpoeaaGreatDoor

namespace Go.VC
section
open Ieee
abbrev fw (n:Nat):Nat:=double.nearest false n 0
def fwOk (n:Nat):Bool:=match double.read (fw n) with
 | .number false m e=>decide (e<=0) && (m==n<<<(-e).toNat)
 |_=>false
set_option maxRecDepth 100000 in
theorem ZzP:(List.range 10002).all fwOk=true:=by kernel_rfl
theorem ZwJ {n:Nat} (h:n<=10001):∃ d:Nat,double.read (fw n)=.number false (n * 2 ^ d) (-(d:Int)):=by
 have:=List.all_eq_true.1 ZzP n (List.mem_range.2 (by omega));unfold fwOk at this;split at this
 ·rename_i m e he
  simp only [Bool.and_eq_true,decide_eq_true_eq,beq_iff_eq] at this;refine ⟨(-e).toNat,?_⟩;rw [he,this.2,Nat.shiftLeft_eq,show (-((-e).toNat:Int))=e by omega]
 ·cases this
theorem ZsC {n drop B:Nat} (h:n<B * 2 ^ drop):Toward.even.cut false n drop<=B:=by
 unfold Toward.cut;simp only;generalize hg:1<<<min drop (n.log2 + 2)=gap;rw [Nat.shiftLeft_eq,Nat.one_mul] at hg;have hb:∀ b:Bool,b.toNat<=1:=λ b=>by cases b<;>simp
 by_cases hd:drop<=n.log2 + 2
 ·rw [Nat.min_eq_left hd] at hg
  subst hg;have h1:n / 2 ^ drop<B:=(Nat.div_lt_iff_lt_mul (Nat.two_pow_pos drop)).2 h;have:=hb (decide (2 ^ drop<2 * (n % 2 ^ drop))||(2 ^ drop==2 * (n % 2 ^ drop) && n / 2 ^ drop % 2==1));omega
 ·rw [Nat.min_eq_right (by omega)] at hg
  have hn:n<2 ^ (n.log2 + 1):=Nat.lt_log2_self;have hp:2 ^ (n.log2 + 2)=2 * 2 ^ (n.log2 + 1):=by rw [Nat.pow_succ];omega
  subst hg;have h0:n / 2 ^ (n.log2 + 2)=0:=Nat.div_eq_of_lt (by omega);have h1:n % 2 ^ (n.log2 + 2)=n:=Nat.mod_eq_of_lt (by omega);rw [h0,h1];have e1:decide (2 ^ (n.log2 + 2)<2 * n)=false:=decide_eq_false (by omega);have e2:(2 ^ (n.log2 + 2)==2 * n)=false:=by
   rw [beq_eq_false_iff_ne];omega
  rw [e1,e2];simp
end
section
open Ieee
theorem Zh0:double.leastPlace=-1074:=by decide
theorem Zgl:double.binade=4503599627370496:=by decide
theorem ZmY:double.infRung=2047 * 4503599627370496:=by decide
theorem Zoe:double.signWeight=9223372036854775808:=by decide
theorem ZuM:(double.fractionBits:Nat)=52:=rfl
theorem Zof {n drop:Nat}:Toward.down.cut false n drop=n / 2 ^ drop:=by
 unfold Toward.cut;simp only;rw [Nat.shiftLeft_eq,Nat.one_mul];have e:(false && n % 2 ^ min drop (n.log2 + 2) !=0).toNat=0:=by simp
 rw [e,Nat.add_zero];by_cases hd:drop<=n.log2 + 2
 ·rw [Nat.min_eq_left hd]
 ·rw [Nat.min_eq_right (by omega)]
  have hn:n<2 ^ (n.log2 + 1):=Nat.lt_log2_self;have h1:2 ^ (n.log2 + 1)<=2 ^ (n.log2 + 2):=Nat.pow_le_pow_right (by omega) (by omega);have h2:2 ^ (n.log2 + 2)<=2 ^ drop:=Nat.pow_le_pow_right (by omega) (by omega);rw [Nat.div_eq_of_lt (by omega),Nat.div_eq_of_lt (by omega)]
theorem ZvB {n drop:Nat} (h:drop<=n.log2 + 2):n / 2 ^ drop<=Toward.even.cut false n drop/\Toward.even.cut false n drop<=n / 2 ^ drop + 1:=by
 unfold Toward.cut;simp only;rw [Nat.shiftLeft_eq,Nat.one_mul,Nat.min_eq_left h];have hb:∀ b:Bool,b.toNat<=1:=λ b=>by cases b<;>simp
 have:=hb (decide (2 ^ drop<2 * (n % 2 ^ drop))||(2 ^ drop==2 * (n % 2 ^ drop) && n / 2 ^ drop % 2==1));omega
theorem ZqS {i kept:Nat} (hi:i<=1074) (hk:kept<=9007199254740992) (hk2:0<i->4503599627370496<=kept):
  ∃ mp:Nat,∃ j:Nat,double.read (i * 4503599627370496 + kept)=.number false mp (-1074 + (j:Int))/\((mp=kept/\j=i)\/(mp=4503599627370496/\kept=9007199254740992/\j=i + 1)):=by
 have hr:i * 4503599627370496 + kept<9223372036854775808:=by omega
 unfold Format.read;simp only;rw [Zoe,Zgl,ZmY,Zh0];rw [Nat.mod_eq_of_lt hr,Nat.div_eq_of_lt hr];have e0:(0 % 2==1)=false:=by decide
 rw [e0];by_cases h1:i * 4503599627370496 + kept<4503599627370496
 ·rw [if_pos h1]
  have:i=0:=by omega
  subst this;exact ⟨_,0,rfl,.inl ⟨by omega,rfl⟩⟩
 rw [if_neg h1,if_pos (by omega)];by_cases h2:kept<9007199254740992
 ·have h3:4503599627370496<=kept:=by
   by_cases hi0:0<i
   ·exact hk2 hi0
   ·omega
  have d1:(i * 4503599627370496 + kept) / 4503599627370496=i + 1:=by omega
  have d2:(i * 4503599627370496 + kept) % 4503599627370496=kept - 4503599627370496:=by omega
  rw [d1,d2];refine ⟨_,i,?_,.inl ⟨rfl,rfl⟩⟩;rw [show 4503599627370496 + (kept - 4503599627370496)=kept by omega,show i + 1 - 1=i by omega]
 ·have:kept=9007199254740992:=by omega
  subst this;have d1:(i * 4503599627370496 + 9007199254740992) / 4503599627370496=i + 2:=by omega
  have d2:(i * 4503599627370496 + 9007199254740992) % 4503599627370496=0:=by omega
  rw [d1,d2];exact ⟨_,i + 1,rfl,.inr ⟨by omega,rfl,rfl⟩⟩
theorem plc1 {j L:Nat} (h:j=1074 - L) (h2:L<=1074): -1074 + (j:Int)=-(L:Int):=by omega
theorem plc2 {j L:Nat} (h:j=1074 - L + 1) (h2:L<=1074) (h1:39<=L): -1074 + (j:Int)=-((L - 1:Nat):Int):=by omega
theorem ZwH {B L kept:Nat} (h1:kept<=B * 2 ^ L) (h2:kept=9007199254740992) (h3:39<=L):4503599627370496<=B * 2 ^ (L - 1):=by
 have h4:2 ^ L=2 * 2 ^ (L - 1):=by rw [<-Nat.pow_succ'];congr 1;omega
 rw [h4,Nat.mul_left_comm] at h1;clear h4;generalize B * 2 ^ (L - 1)=y at *;omega
theorem ZrB {M d B:Nat} (hB:B<=10000) (hlt:M<B * 2 ^ d):
  ∃ mp dp:Nat,double.read (double.nearest false M (-(d:Int)))=.number false mp (-(dp:Int))/\mp<=B * 2 ^ dp:=by
 by_cases hM:M=0
 ·subst hM
  refine ⟨0,1074,?_,by omega⟩;unfold Format.nearest;rw [if_pos rfl];decide
 unfold Format.nearest;rw [if_neg hM,Zh0,Zgl,ZmY,ZuM];have hlog:2 ^ M.log2<=M:=Nat.log2_self_le hM;have hlog2:M<2 ^ (M.log2 + 1):=Nat.lt_log2_self;have hl14:M.log2<14 + d:=by
  have:2 ^ M.log2<2 ^ (14 + d):=by
   rw [Nat.pow_add];have:B * 2 ^ d<=2 ^ 14 * 2 ^ d:=Nat.mul_le_mul_right _ (by omega);omega
  exact (Nat.pow_lt_pow_iff_right (by omega)).1 this
 simp only;generalize hlast:max (-(d:Int) + (M.log2:Int) - ((52:Nat):Int)) (-1074)=last;obtain ⟨L,hL⟩:∃ L:Nat,last=-(L:Int):=⟨(-last).toNat,by omega⟩;have hL1:39<=L:=by omega
 have hL2:L<=1074:=by omega
 subst hL;have hi:(-(L:Int) - -1074).toNat=1074 - L:=by omega
 rw [hi]
 -- what is kept
 obtain ⟨kept,hkd,hk1,hk2,hk3⟩:∃ kept,Toward.even.cut false (M<<<(-(d:Int) - -(L:Int)).toNat) (-(L:Int) - -(d:Int)).toNat=kept/\kept<=B * 2 ^ L/\kept<=9007199254740992/\(0<1074 - L->4503599627370496<=kept):=by
  refine ⟨_,rfl,?_⟩;by_cases hdl:d<=L
  ·have e1:(-(d:Int) - -(L:Int)).toNat=L - d:=by omega
   have e2:(-(L:Int) - -(d:Int)).toNat=0:=by omega
   rw [e1,e2,Nat.shiftLeft_eq];have hp:2 ^ L=2 ^ d * 2 ^ (L - d):=by rw [<-Nat.pow_add];congr 1;omega
   have hlt':M * 2 ^ (L - d)<B * 2 ^ L:=by
    rw [hp,<-Nat.mul_assoc];exact Nat.mul_lt_mul_of_pos_right hlt (Nat.two_pow_pos _)
   have c1:=ZsC (n:=M * 2 ^ (L - d)) (drop:=0) (B:=B * 2 ^ L) (by simpa using hlt');have c2:=ZvB (n:=M * 2 ^ (L - d)) (drop:=0) (by omega);rw [Nat.pow_zero,Nat.div_one] at c2
   -- no rest, so it is the number itself
   have c3:Toward.even.cut false (M * 2 ^ (L - d)) 0=M * 2 ^ (L - d):=by
    unfold Toward.cut;simp [Nat.mod_one]
   rw [c3] at c1 ⊢;have hup:M * 2 ^ (L - d)<2 ^ (M.log2 + 1) * 2 ^ (L - d):=Nat.mul_lt_mul_of_pos_right hlog2 (Nat.two_pow_pos _);rw [<-Nat.pow_add] at hup;have hle:M.log2 + 1 + (L - d)<=53:=by omega
   have h53:2 ^ (M.log2 + 1 + (L - d))<=2 ^ 53:=Nat.pow_le_pow_right (by omega) hle;refine ⟨c1,by omega,λ h=>?_⟩;have hlo:2 ^ M.log2 * 2 ^ (L - d)<=M * 2 ^ (L - d):=Nat.mul_le_mul_right _ hlog;rw [<-Nat.pow_add] at hlo;have he:M.log2 + (L - d)=52:=by omega
   rw [he] at hlo;omega
  ·have e1:(-(d:Int) - -(L:Int)).toNat=0:=by omega
   have e2:(-(L:Int) - -(d:Int)).toNat=d - L:=by omega
   rw [e1,e2,Nat.shiftLeft_zero];have hp:2 ^ d=2 ^ L * 2 ^ (d - L):=by rw [<-Nat.pow_add];congr 1;omega
   have c1:=ZsC (n:=M) (drop:=d - L) (B:=B * 2 ^ L) (by rw [Nat.mul_assoc,<-hp];exact hlt);by_cases hdr:d - L<=M.log2 + 2
   ·have c2:=ZvB hdr
    have hup:M / 2 ^ (d - L)<2 ^ 53:=by
     rw [Nat.div_lt_iff_lt_mul (Nat.two_pow_pos _),<-Nat.pow_add];have:2 ^ (M.log2 + 1)<=2 ^ (53 + (d - L)):=Nat.pow_le_pow_right (by omega) (by omega);omega
    refine ⟨c1,by omega,λ h=>?_⟩;have hlo:2 ^ 52<=M / 2 ^ (d - L):=by
     rw [Nat.le_div_iff_mul_le (Nat.two_pow_pos _),<-Nat.pow_add];have:2 ^ (52 + (d - L))<=2 ^ M.log2:=Nat.pow_le_pow_right (by omega) (by omega);omega
    omega
   ·-- all of it is dropped
    have hL3:L=1074:=by omega
    have c0:Toward.even.cut false M (d - L)<=1:=ZsC (by
     have h1:2 ^ (M.log2 + 1)<=2 ^ (d - L):=Nat.pow_le_pow_right (by omega) (by omega);omega)
    exact ⟨c1,by omega,λ h=>by omega⟩
 rw [hkd];obtain ⟨mp,j,hr,hc⟩:=ZqS (i:=1074 - L) (by omega) hk2 hk3;have hmin:min ((1074 - L) * 4503599627370496 + kept) (2047 * 4503599627370496)=(1074 - L) * 4503599627370496 + kept:=Nat.min_eq_left (by omega);have hword:double.word false (min ((1074 - L) * 4503599627370496 + kept) (2047 * 4503599627370496))=(1074 - L) * 4503599627370496 + kept:=by rw [hmin];unfold Format.word;rw [if_neg (by simp)]
 rw [hword,hr];rcases hc with ⟨hmk,hj⟩|⟨hmk,hkk,hj⟩
 ·exact ⟨mp,L,by rw [plc1 hj hL2],by rw [hmk];exact hk1⟩
 ·exact ⟨mp,L - 1,by rw [plc2 hj hL2 hL1],by rw [hmk];exact ZwH hk1 hkk hL1⟩
end
end Go.VC
