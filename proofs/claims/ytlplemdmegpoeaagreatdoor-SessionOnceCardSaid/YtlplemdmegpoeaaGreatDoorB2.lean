/- SL, part 7: a map of one's own, by its keys and values; opening of what holds for some x. No condition. -/
import Derived.Test.YtlplemdmegpoeaaGreatDoorB1
import Derived.Lib.ConvBytes
import Derived.Laws.BytesArg
import Derived.Laws.Strings
import Derived.Below
import Derived.Sort.KeysCollected
import Derived.Maps.Own
import Derived.Laws.BitsAllLaws
import Derived.Lib.BitFns
import Derived.KernelRfl
import Derived.Lib.AppendZeros
import Derived.Laws.RangeAny
import Derived.Laws.MakeOwn
set_option linter.unusedVariables false
set_option linter.unusedSimpArgs false
set_option maxHeartbeats 8000000
namespace Go.VC
section
variable {α:Type} [BEq α] [Zbt α]
def ZO {β:Type} (k:α):List (α × β)->Option β
 |[]=>none
 |e::es=>if k==e.1 then some e.2 else ZO k es
def ZgQ {β:Type} (k:α) (v:β):List (α × β)->List (α × β)
 |[]=>[]
 |e::es=>if k==e.1 then (e.1,v)::es else e::ZgQ k v es
def Zfy {β:Type} (k:α):List (α × β)->List (α × β)
 |[]=>[]
 |e::es=>if k==e.1 then es else e::Zfy k es
def Ze4 {β:Type} (k:α) (v:β) (es:List (α × β)):List (α × β):=if (ZO k es).isSome then ZgQ k v es else es++[(k,v)]
abbrev ZbT (es:List (En α)):List (α × Value):=es.map λ e=>(e.1,e.2.1)
omit [Zbt α] in
theorem ZgD (k:α):∀ es:List (En α),Zve k es=ZO k (ZbT es)
 |[]=>rfl
 |e::es=>by rw [Zve,ZbT,List.map_cons,ZO,ZgD k es]
omit [Zbt α] in
theorem Zjl (k:α) (es:List (En α)):Znv k es=(ZO k (ZbT es)).isSome:=by unfold Znv;rw [ZgD]
omit [Zbt α] in
theorem ZiR (k:α) (v:Value):∀ es:List (En α),ZbT (Zt7 k v es)=ZgQ k v (ZbT es)
 |[]=>rfl
 |e::es=>by
  have ih:=ZiR k v es;unfold ZbT at *;rw [List.map_cons,Zt7,ZgQ];split
  ·simp
  ·simp [ih]
omit [Zbt α] in
theorem Zjx (k:α):∀ es:List (En α),ZbT (ZoQ k es)=Zfy k (ZbT es)
 |[]=>rfl
 |e::es=>by
  have ih:=Zjx k es;unfold ZbT at *;rw [List.map_cons,ZoQ,Zfy];split
  ·rfl
  ·simp [ih]
omit [Zbt α] in
theorem ZpF (k:α) (v:Value) (es:List (En α)) (c:Nat):ZbT (Zv4 k v es c)=Ze4 k v (ZbT es):=by
 unfold Zv4 Ze4;rw [Zjl];split
 ·exact ZiR k v es
 ·simp [ZbT]
def Zb8 (l:List (En α)) (c:Nat):Prop:=(∀ e∈l,e.2.2<c)/\(l.map (·.2.2)).Nodup
omit [Zbt α] in
theorem Zfe (k:α) (v:Value):∀ l:List (En α),(Zt7 k v l).map (·.2.2)=l.map (·.2.2)
 |[]=>rfl
 |e::es=>by
  rw [Zt7];split
  ·rfl
  ·rw [List.map_cons,List.map_cons,Zfe k v es]
omit [Zbt α] in
theorem ZkH (k:α):∀ l:List (En α),(ZoQ k l).Sublist l
 |[]=>List.Sublist.refl _
 |e::es=>by
  rw [ZoQ];split
  ·exact List.sublist_cons_self _ _
  ·exact (ZkH k es).cons_cons _
omit [Zbt α] in
theorem Zpg {l:List (En α)} {c:Nat} (h:Zb8 l c) (k:α) (v:Value):Zb8 (Zv4 k v l c) (if Znv k l then c else c + 1):=by
 unfold Zv4;split
 ·refine ⟨λ e he=>?_,by rw [Zfe];exact h.2⟩
  have:e.2.2∈(Zt7 k v l).map (·.2.2):=List.mem_map_of_mem he;rw [Zfe] at this;obtain ⟨x,hx,hxe⟩:=List.mem_map.1 this;rw [<-hxe];exact h.1 x hx
 ·refine ⟨λ e he=>?_,?_⟩
  ·rcases List.mem_append.1 he with he|he
   ·have:=h.1 e he;omega
   ·simp at he;subst he;simp
  ·rw [List.map_append,List.nodup_append]
   refine ⟨h.2,by simp,λ x hx y hy=>?_⟩;simp at hy;obtain ⟨e,he,rfl⟩:=List.mem_map.1 hx;have:=h.1 e he;omega
omit [Zbt α] in
theorem Zph {l:List (En α)} {c:Nat} (h:Zb8 l c) (k:α):Zb8 (ZoQ k l) c:=
 ⟨λ e he=>h.1 e ((ZkH k l).subset he),((ZkH k l).map _).nodup h.2⟩
def MapAt (m:Nat) (es:List (α × Value)):HP:=λ h=>∃ (l:List (En α)) (c:Nat),ZbT l=es/\Zb8 l c/\h=ZY.one m (.map (l.map mkE).toArray c)
theorem MapAt.iff {R:Cx} {Hs:List HP} {w:World} {m:Nat} {es:List (α × Value)}:Sat R (MapAt m es::Hs) w↔∃ l c,ZbT l=es/\Zb8 l c/\Sat R (pts m (.map (l.map (mkE (α:=α))).toArray c)::Hs) w:=by
 constructor
 ·rintro ⟨a,⟨l,c,h1,h3,h2⟩,hd,hs⟩;exact ⟨l,c,h1,h3,a,h2,hd,hs⟩
 ·rintro ⟨l,c,h1,h3,a,h2,hd,hs⟩;exact ⟨a,⟨l,c,h1,h3,h2⟩,hd,hs⟩
structure Zwz (P:Program) (T:TypeId) (α:Type) [BEq α] [Zbt α] (K E:TypeId) (z:Value):Prop where
 hT:P.underlying T=some (.map K E)
 hK:P.underlying K=some (Zbt.desc α)
 hz:∀ w,(zeroValue E).run P w=.ok z w
variable {P:Program} {R:Cx} {Hs:List HP} {w:World} {m:Nat} {es:List (α × Value)} {T K E:TypeId} {z:Value}
theorem MapAt.look (M:Zwz P T α K E z) (hw:Sat R (MapAt m es::Hs) w) (k:α) (c:Bool):
  (Instr.lookup T (.map (some m)) (Zbt.enc k) c).run P w=.ok (if c then .tuple #[(ZO k es).getD z,.bool (ZO k es).isSome] else (ZO k es).getD z) w:=by
 obtain ⟨l,clk,rfl,_,hp⟩:=MapAt.iff.1 hw;rw [ZpS M.hT M.hK M.hz hp.at k c,ZgD,Zjl]
theorem MapAt.put (M:Zwz P T α K E z) (hw:Sat R (MapAt m es::Hs) w) (k:α) (v:Value) {Q:World->Prop} (h:∀ w',Sat R (MapAt m (Ze4 k v es)::Hs) w'->Q w'):
  ∃ w',(Instr.mapUpdate T (.map (some m)) (Zbt.enc k) v).run P w=.ok () w'/\Q w':=by
 obtain ⟨l,clk,rfl,hst,hp⟩:=MapAt.iff.1 hw;refine ⟨_,Zpa M.hT M.hK hp.at k v,h _ (MapAt.iff.2 ⟨Zv4 k v l clk,_,ZpF k v l clk,Zpg hst k v,hp.setPts _⟩)⟩
theorem MapAt.del {t2 ty:TypeId} (M:Zwz P T α K E z) (hw:Sat R (MapAt m es::Hs) w) (k:α) {Q:World->Prop} (h:∀ w',Sat R (MapAt m (Zfy k es)::Hs) w'->Q w'):
  ∃ w',(Builtin.delete_ #[T,t2] ty #[.map (some m),Zbt.enc k]).run P w=.ok (.tuple #[]) w'/\Q w':=by
 obtain ⟨l,clk,rfl,hst,hp⟩:=MapAt.iff.1 hw;exact ⟨_,Zqd M.hT M.hK hp.at k,h _ (MapAt.iff.2 ⟨ZoQ k l,_,Zjx k l,Zph hst k,hp.setPts _⟩)⟩
theorem MapAt.new {o:Obj} (ho:o=.map #[] 0) (hw:Sat R (pts m o::Hs) w):Sat R (MapAt (α:=α) m []::Hs) w:=by
 subst ho;exact MapAt.iff.2 ⟨[],0,rfl,⟨λ _ h=>(by cases h),List.nodup_nil⟩,hw⟩
section
variable {β:Type}
omit [Zbt α] in
theorem ZoE {k:α} {v:β}:∀ {a b:List (α × β)},ZO k a=none->(k==k)=true->ZO k (a++(k,v)::b)=some v
 |[],b,_,hk=>by simp [ZO,hk]
 |e::a,b,h,hk=>by
  rw [ZO] at h;split at h
  ·cases h
  ·rename_i hne
   rw [List.cons_append,ZO,if_neg hne];exact ZoE h hk
omit [Zbt α] in
theorem Zhb {k:α} {v v':β}:∀ {a b:List (α × β)},ZO k a=none->(k==k)=true->ZgQ k v' (a++(k,v)::b)=a++(k,v')::b
 |[],b,_,hk=>by simp [ZgQ,hk]
 |e::a,b,h,hk=>by
  rw [ZO] at h;split at h
  ·cases h
  ·rename_i hne
   rw [List.cons_append,ZgQ,if_neg hne,Zhb h hk];rfl
omit [Zbt α] in
theorem ZeO {k:α} {v:β}:∀ {a b:List (α × β)},ZO k a=none->(k==k)=true->Zfy k (a++(k,v)::b)=a++b
 |[],b,_,hk=>by simp [Zfy,hk]
 |e::a,b,h,hk=>by
  rw [ZO] at h;split at h
  ·cases h
  ·rename_i hne
   rw [List.cons_append,Zfy,if_neg hne,ZeO h hk];rfl
theorem ZaG {k:α} {v:β}:∀ {l:List (α × β)},ZO k l=some v->∃ a b,l=a++(k,v)::b/\ZO k a=none
 |[],h=>by cases h
 |e::l,h=>by
  rw [ZO] at h;split at h
  ·rename_i hk
   cases h;have:=Zbt.eq _ _ hk;subst this;exact ⟨[],l,rfl,rfl⟩
  ·rename_i hne
   obtain ⟨a,b,rfl,ha⟩:=ZaG h;exact ⟨e::a,b,rfl,by rw [ZO,if_neg hne];exact ha⟩
omit [Zbt α] in
theorem Zf4 {γ:Type} (f:β->γ) (k:α):∀ l:List (α × β),ZO k (l.map λ e=>(e.1,f e.2))=(ZO k l).map f
 |[]=>rfl
 |e::l=>by
  rw [List.map_cons,ZO,ZO,Zf4 f k l];split<;>rfl
end
end
section
variable {P:Program} {R:Cx} {Hs:List HP} {w:World} {s:Sl} {T:TypeId}
theorem Ro.idxK {kd:IntKind} {xs:List Int} {S:World->Prop} (hr:Ro R s (xs.map (Value.int kd))) (hS:∀ w,S w->Sat R Hs w) {k:Nat} (hk:k<xs.length) {F:Int->Prop} (h:F xs[k]):
  Rng (k:Int) s.len (Zc s.a λ a=>∃ t:Int,(At S (a.add (k:Int).toNat) [.int kd t])/\F t):=by
 obtain ⟨a,ha,hat⟩:=hr.addr (k:=k) (by simpa using hk);have hl:s.len=xs.length:=by have:=hr.len;simpa using this
 refine Rng.mk (by omega) (by omega) (Zc.mk ha ⟨xs[k],?_,h⟩);have:=hat hS;simpa using this
theorem ZwQ {t2 e':TypeId} (ht:P.underlying t2=some (.slice e')) {xs:List Value} (hw:Sat R Hs w) (hs:Ro R s xs) (h1:ZaE xs=true):Src P 1 t2 (.slice s.a s.len s.cap) xs.length xs w:=by
 have hl:s.len=xs.length:=hs.len;by_cases hx:xs=[]
 ·subst hx
  obtain ⟨a,n,c⟩:=s;simp only [List.length_nil] at hl;subst hl;cases a with
  |none=>exact Go.Src.ofNil _ ht _
  |some a=>exact Go.Src.ofSlice w ht _ 0 _ [] rfl (λ j u hj=>by simp at hj) (λ u hu=>by cases hu)
 ·obtain ⟨b,off,l,T,fr,ha,hb,hel⟩:=hs.mem hx
  obtain ⟨a,n,c⟩:=s;simp only at ha hl;subst ha hl;refine Go.Src.ofSlice w ht _ _ _ _ (by simp) (λ j u hj=>?_) (λ u hu=>List.all_eq_true.1 h1 u hu);rw [Zy];have:=hw.of_ro hb;simp only [World.cell?,this,Option.isSome_none,Bool.false_eq_true,if_false];exact hel j u hj
def ZX (s:ByteArray):List Int:=s.data.toList.map λ b=>(b.toNat:Int)
theorem Zak (s:ByteArray):(ZX s).length=s.size:=by simp [ZX]
theorem Zmw (s:ByteArray):∀ n∈ZX s,0<=n/\n<256:=by
 intro n hn;obtain ⟨b,_,rfl⟩:=List.mem_map.1 hn;have:=b.toNat_lt;omega
theorem Zix {a b:World} (h:a.heap=b.heap) (h2:{ a with heap:=b.heap }=b):a=b:=by rw [<-h2,<-h]
theorem Zg7 (w:World) (e:TypeId) (s:ByteArray):
  Lib.bytesWorld w e s=w.drew.alloc (.cells (Lib.bytesCells w e s) e ((Lib.bytesCells w e s).size,(Lib.bytesCells w e s).size + 1)):=by
 have:(Lib.bytesWorld w e s).heap=(w.drew.alloc (.cells (Lib.bytesCells w e s) e ((Lib.bytesCells w e s).size,(Lib.bytesCells w e s).size + 1))).heap:=by
  apply Array.ext_getElem?;intro i;by_cases hi:i<w.heap.size
  ·rw [Lib.bytesWorld_at_old w e s i hi]
   simp [World.alloc,World.drew,-World.alloc_eq,-World.drew_eq,Array.getElem?_push,Nat.ne_of_lt hi]
  ·by_cases h2:i=w.heap.size
   ·subst h2
    rw [Lib.bytesWorld_at_new];simp [World.alloc,World.drew,-World.alloc_eq,-World.drew_eq]
   ·rw [Array.getElem?_eq_none (by rw [Lib.bytesWorld_size];omega),Array.getElem?_eq_none (by simp [World.alloc,World.drew,-World.alloc_eq,-World.drew_eq];omega)]
 exact Zix this rfl
theorem Zqg {src dst:TypeId} {u:TypeDesc} (hs:P.underlying src=some u) (hd:P.underlying dst=some (.slice T)) (he:P.underlying T=some (.int .u8)) {b:ByteArray} {K:Sl->World->Prop}
  (hw:Sat R Hs w) (k:∀ t w',Sat R (Own t T ((ZX b).map (Value.int .u8))::Hs) w'->K t w'):
  ∃ w',∃ t:Sl,(convert src dst (.string b)).run P w=.ok (.slice t.a t.len t.cap) w'/\K t w':=by
 refine ⟨_,⟨some ⟨w.heap.size,0,none⟩,b.size,grownCap w b.size 0 T⟩,Lib.run_convert_string_bytes w src dst T b hs hd he,k _ _ ?_⟩;rw [Zg7];have hc:Lib.bytesCells w T b=((ZX b).map (Value.int .u8)++List.replicate (grownCap w b.size 0 T - b.size) (Value.int .u8 0)).toArray:=by
  apply Array.ext';simp [Lib.bytesCells,ZX,Function.comp_def]
 have h1:=Sat.alloc (Obj.cells (Lib.bytesCells w T b) T ((Lib.bytesCells w T b).size,(Lib.bytesCells w T b).size + 1)) hw.drew;have hg:=grownCap_ge w b.size 0 T;rw [hc] at h1 ⊢;have h2:=Own.of_pts h1 (.inr (by simp));have e:(⟨some ⟨w.drew.heap.size,0,none⟩,((ZX b).map (Value.int .u8)).length,((ZX b).map (Value.int .u8)++List.replicate (grownCap w b.size 0 T - b.size) (Value.int .u8 0)).length⟩:Sl)=⟨some ⟨w.heap.size,0,none⟩,b.size,grownCap w b.size 0 T⟩:=by
  simp only [List.length_append,List.length_map,List.length_replicate,Zak,World.size_drew]
  congr 1
  omega
 rw [e] at h2;exact h2
def strOf (xs:List Int):ByteArray:=⟨(xs.map λ n=>UInt8.ofNat n.toNat).toArray⟩
theorem Zdc {src dst:TypeId} (hs:P.underlying src=some (.slice T)) (he:P.underlying T=some (.int .u8)) (hd:P.underlying dst=some .string) {xs:List Int}
  (hw:Sat R Hs w) (hr:Ro R s (xs.map (Value.int .u8))):(convert src dst (.slice s.a s.len s.cap)).run P w=.ok (.string (strOf xs)) w:=by
 have hl:s.len=xs.length:=by have:=hr.len;simpa using this
 by_cases hx:xs=[]
 ·subst hx
  obtain ⟨a,n,c⟩:=s;simp only [List.length_nil] at hl;subst hl;cases a with
  |none=>exact run_convert_bytes_nil w src T hs he _ _ dst hd
  |some a=>
   rw [run_convert_bytes_string w src dst T _ _ _ hs he hd,run_bytesToString w a 0 c [] (by simpa using run_loadCells_list (P:=P) w a [] (λ j v hj=>by simp at hj))];rfl
 ·obtain ⟨b,off,l,T',fr,ha,hb,hel⟩:=hr.mem (by simpa using hx)
  obtain ⟨a,n,c⟩:=s;simp only at ha hl;subst ha hl;refine (run_convert_bytes_arg w src T hs he b off _ c xs rfl (λ i hi=>?_) dst hd).trans rfl;have:=hw.of_ro hb;simp only [World.cell?,this,Option.isSome_none,Bool.false_eq_true,if_false];refine hel i _ ?_;simp [hi,List.getD]
theorem Zlb (b:ByteArray):strOf (ZX b)=b:=by
 unfold strOf ZX;rw [List.map_map];have:(List.map ((λ n:Int=>UInt8.ofNat n.toNat) ∘ λ b:UInt8=>(b.toNat:Int)) b.data.toList)=b.data.toList:=by
  conv=>rhs;rw [<-List.map_id b.data.toList]
  apply List.map_congr_left;intro x _;simp
 rw [this]
theorem Zeq {xs:List Int} (h:∀ n∈xs,0<=n/\n<256):ZX (strOf xs)=xs:=by
 unfold strOf ZX;simp only [List.map_map]
 conv=>rhs;rw [<-List.map_id xs]
 apply List.map_congr_left;intro x hx;have:=h x hx;simp;omega
end
section
open Go Go.RowKit
structure Zt5 (w w':World):Prop where
 os:w'.os=w.os
 tape:w'.tape=w.tape
 output:w'.output=w.output
 block:∀ k,k<w.heap.size->w'.heap[k]? =w.heap[k]?
theorem Zt5.of_below {w w':World} (h:Below w.heap.size w w'):Zt5 w w':=⟨h.os,h.tape,h.output,h.block⟩
theorem Sat.keeps:∀ {Hs:List HP} {R:Cx} {w w':World},Sat R Hs w->Zt5 w w'->Sat R Hs w'
 |[],_,w,_,h,e=>⟨λ b o hb=>by
   have:=h.1 b o hb;rw [e.block b (Array.getElem?_eq_some_iff.1 this).1];exact this,e.os.trans h.2.1,e.tape.trans h.2.2.1,e.output.trans h.2.2.2⟩
 |_::_,_,_,_,h,e=>let ⟨h',hH,hd,hs⟩:=h;⟨h',hH,hd,hs.keeps e⟩
theorem Sat.grewTo:∀ {Hs:List HP} {R:Cx} {w w':World} {b:Nat} {o:Obj},Sat R Hs w->Zt5 w w'->w.heap.size<=b->w'.heap[b]? =some o->Sat (R.add (ZY.one b o)) Hs w'
 |[],R,w,w',b,o,h,e,hb,ho=>by
  refine ⟨λ i x hx=>?_,e.os.trans h.2.1,e.tape.trans h.2.2.1,e.output.trans h.2.2.2⟩;simp only [Cx.m_add,ZY.add,ZY.one] at hx;cases hr:R.m i with
  |some y=>
   rw [hr] at hx;have:=h.1 i y hr;rw [e.block i (Array.getElem?_eq_some_iff.1 this).1,this];exact hx
  |none=>
   rw [hr] at hx;simp only at hx;split at hx
   ·rename_i hi;subst hi;rw [ho];exact hx
   ·cases hx
 |H::Hs,R,w,w',b,o,h,e,hb,ho=>by
  have hR:R.m b=.none:=Sat.ro_lt h hb;obtain ⟨a,hA,hd,hs⟩:=h;have hadd:(R.add a).m b=.none:=Sat.ro_lt hs hb;have ha:a b=.none:=by simpa [Cx.m_add,ZY.add,hR] using hadd
  have:=Sat.grewTo hs e hb ho;have hdis:(ZY.one b o).dis a:=by
   intro i hi;simp only [ZY.one];split
   ·rename_i h;subst h;exact absurd ha hi
   ·rfl
  refine ⟨a,hA,Cx.add_dis hd hdis,?_⟩;rw [Cx.add_assoc,ZY.add_comm hdis,<-Cx.add_assoc];exact this
theorem Sat.fresh {R:Cx} {Hs:List HP} {w w':World} {b:Nat} {o:Obj} (h:Sat R Hs w) (e:Zt5 w w') (hb:w.heap.size<=b) (ho:w'.heap[b]? =some o):Sat R (pts b o::Hs) w':=
 Sat.lend.2 ⟨Sat.ro_lt h hb,Sat.grewTo h e hb ho⟩
theorem Sat.ownsRow {R:Cx} {Hs:List HP} {w w':World} {T:TypeId} {v:Value} {n:Nat} {xs:List Value} (h:Sat R Hs w) (e:Below w.heap.size w w') (hr:w'.ownsRow w.heap.size T 1 v n xs):
  ∃ s:Sl,v=.slice s.a s.len s.cap/\Sat R (Own s T xs::Hs) w':=by
 obtain ⟨hl,h1|⟨g,cap,cur,rfl,hg,hb,hn,hc,hcs,ht⟩⟩:=hr
 ·obtain ⟨rfl,rfl⟩:=h1
  have:xs=[]:=by simpa using hl
  subst this;exact ⟨⟨none,0,0⟩,rfl,Own.nil (h.keeps (.of_below e))⟩
 ·rw [Nat.mul_one] at *
  have h2:=h.fresh (.of_below e) hg hb;have e1:cur=(xs++cur.toList.drop n).toArray:=by
   apply Array.ext';rw [<-ht];simp
  rw [e1] at h2;have h3:=Own.of_pts h2;refine ⟨_,?_,h3⟩;have:(xs++cur.toList.drop n).length=cap:=by
   have e2:cur.toList.length=cap:=by rw [Array.length_toList];exact hcs
   rw [List.length_append,List.length_drop,e2,hl];omega
  simp only [this,hl]
end
section
open Go Go.RowKit
variable {P:Program} {R:Cx} {Hs Rest:List HP} {w:World} {s:Sl} {T:TypeId} {n:Nat}
def Wid (n:Nat) (rows:List (List Value)):Prop:=∀ x∈rows,x.length=n
theorem Wid.nil {n:Nat}:Wid n []:=λ _ h=>by cases h
theorem Wid.app {n:Nat} {a b:List (List Value)} (ha:Wid n a) (hb:Wid n b):Wid n (a++b):=λ x hx=>(List.mem_append.1 hx).elim (ha x) (hb x)
theorem Wid.one {n:Nat} {x:List Value} (h:x.length=n):Wid n [x]:=λ y hy=>by simp at hy;rw [hy];exact h
theorem Wid.len {n:Nat}:∀ {rows:List (List Value)},Wid n rows->rows.flatten.length=rows.length * n
 |[],_=>by simp
 |x::rows,h=>by
  rw [List.flatten_cons,List.length_append,h x List.mem_cons_self,Wid.len (rows:=rows) (λ y hy=>h y (List.mem_cons_of_mem _ hy)),List.length_cons,Nat.add_mul];omega
theorem Wid.drop_flat {n:Nat}:∀ {rows:List (List Value)} (k:Nat),Wid n rows->rows.flatten.drop (k * n)=(rows.drop k).flatten
 |rows,0,_=>by simp
 |[],k + 1,_=>by simp
 |x::rows,k + 1,h=>by
  have hx:=h x List.mem_cons_self;rw [List.flatten_cons,List.drop_succ_cons,<-Wid.drop_flat (rows:=rows) k (λ y hy=>h y (List.mem_cons_of_mem _ hy)),List.drop_append];have e1:x.drop ((k + 1) * n)=[]:=List.drop_eq_nil_of_le (by rw [hx,Nat.add_mul];omega);have e2:(k + 1) * n - x.length=k * n:=by rw [hx,Nat.add_mul];omega
  rw [e1,e2,List.nil_append]
theorem Wid.take_flat {n:Nat} {rows:List (List Value)} (k:Nat) (h:Wid n rows):rows.flatten.take (k * n)=(rows.take k).flatten:=by
 by_cases hk:k<=rows.length
 ·have e:rows.flatten=(rows.take k).flatten++(rows.drop k).flatten:=by rw [<-List.flatten_append,List.take_append_drop]
  rw [e,List.take_left'];rw [Wid.len (λ x hx=>h x (List.mem_of_mem_take hx)),List.length_take,Nat.min_eq_left hk]
 ·rw [List.take_of_length_le (by rw [h.len];exact Nat.mul_le_mul_right _ (by omega)),List.take_of_length_le (by omega)]
theorem Wid.take {n k:Nat} {rows:List (List Value)} (h:Wid n rows):Wid n (rows.take k):=λ x hx=>h x (List.mem_of_mem_take hx)
theorem Wid.drop {n k:Nat} {rows:List (List Value)} (h:Wid n rows):Wid n (rows.drop k):=λ x hx=>h x (List.mem_of_mem_drop hx)
theorem Pre.app:∀ {vs a:List Value} (b:List Value),Pre vs a->Pre vs (a++b)
 |[],_,_,_=>trivial
 |_::_,_::_,b,h=>⟨h.1,Pre.app b h.2⟩
 |_::_,[],_,h=>h.elim
theorem Pre.len:∀ {vs a:List Value},Pre vs a->vs.length<=a.length
 |[],_,_=>Nat.zero_le _
 |_::_,_::_,h=>by simp only [List.length_cons];exact Nat.succ_le_succ (Pre.len h.2)
 |_::_,[],h=>h.elim
theorem Wid.pre {n k j:Nat} {rows:List (List Value)} (rest:List Value) (h:Wid n rows) (hk:k<rows.length) {vs:List Value} (hp:Pre vs (rows[k].drop j)):Pre vs ((rows.flatten++rest).drop (k * n + j)):=by
 cases vs with
 |nil=>trivial
 |cons v vs=>
  have hj:j<rows[k].length:=by
   have:=Pre.len hp;simp only [List.length_cons,List.length_drop] at this;omega
  have hx:rows[k].length=n:=h _ (List.getElem_mem _);have hle:k * n + j<=rows.flatten.length:=by
   rw [h.len];have:(k + 1) * n<=rows.length * n:=Nat.mul_le_mul_right _ (by omega);rw [Nat.add_mul] at this;omega
  rw [List.drop_append_of_le_length hle,Nat.add_comm (k * n) j,<-List.drop_drop];rw [Nat.add_comm] at hle;rw [List.drop_drop,Nat.add_comm j,<-List.drop_drop,h.drop_flat,List.drop_eq_getElem_cons hk,List.flatten_cons,List.drop_append_of_le_length (by omega),List.append_assoc];exact hp.app _
def Zs (n:Nat) (s:Sl) (T:TypeId) (rows:List (List Value)):HP:=λ h=>
 Wid n rows/\((s=⟨none,0,0⟩/\rows=[]/\h=ZY.none)\/
  ∃ b rest fr cap,s=⟨some ⟨b,0,none⟩,rows.length,cap⟩/\(rows.flatten++rest).length=cap * n/\Zna (cap * n) fr/\h=ZY.one b (.cells (rows.flatten++rest).toArray T fr))
theorem Zs.nil (h:Sat R Hs w):Sat R (Zs n ⟨none,0,0⟩ T []::Hs) w:=
 ⟨ZY.none,⟨Wid.nil,.inl ⟨rfl,rfl,rfl⟩⟩,λ i hi=>absurd rfl hi,by rw [Cx.add_none];exact h⟩
theorem Zs.of_pts {b cap:Nat} {fr:Nat × Nat} {rows:List (List Value)} {rest:List Value} (hwid:Wid n rows) (hl:(rows.flatten++rest).length=cap * n) (h:Sat R (pts b (.cells (rows.flatten++rest).toArray T fr)::Hs) w)
  (hf:Zna (cap * n) fr:=by first|assumption|exact Or.inl rfl):Sat R (Zs n ⟨some ⟨b,0,none⟩,rows.length,cap⟩ T rows::Hs) w:=
 let ⟨a,ha,hd,hs⟩:=h;⟨a,⟨hwid,.inr ⟨b,rest,fr,cap,rfl,hl,hf,ha⟩⟩,hd,hs⟩
theorem Zs.cases {rows:List (List Value)} (h:Sat R (Zs n s T rows::Hs) w):Wid n rows/\
  ((s=⟨none,0,0⟩/\rows=[]/\Sat R Hs w)\/∃ b rest fr cap,s=⟨some ⟨b,0,none⟩,rows.length,cap⟩/\(rows.flatten++rest).length=cap * n/\Zna (cap * n) fr/\Sat R (pts b (.cells (rows.flatten++rest).toArray T fr)::Hs) w):=by
 obtain ⟨a,⟨hwid,ha⟩,hd,hs⟩:=h;refine ⟨hwid,?_⟩;rcases ha with ⟨h1,h2,rfl⟩|⟨b,rest,fr,cap,h1,h3,hf,rfl⟩
 ·rw [Cx.add_none] at hs;exact .inl ⟨h1,h2,hs⟩
 ·exact .inr ⟨b,rest,fr,cap,h1,h3,hf,_,rfl,hd,hs⟩
theorem Zs.wid {rows:List (List Value)} (h:Sat R (Zs n s T rows::Hs) w):Wid n rows:=(Zs.cases h).1
theorem Zs.len {rows:List (List Value)} (h:Sat R (Zs n s T rows::Hs) w):s.len=rows.length:=by
 rcases (Zs.cases h).2 with ⟨rfl,rfl,_⟩|⟨b,rest,fr,cap,rfl,_,_⟩<;>rfl
theorem Zs.cap {rows:List (List Value)} (hn:0<n) (h:Sat R (Zs n s T rows::Hs) w):s.len<=s.cap:=by
 have hwid:=(Zs.cases h).1;rcases (Zs.cases h).2 with ⟨rfl,rfl,_⟩|⟨b,rest,fr,cap,rfl,hl,_⟩
 ·exact Nat.le_refl _
 ·rw [List.length_append,hwid.len] at hl
  simp only;have:rows.length * n<=cap * n:=by omega
  exact Nat.le_of_mul_le_mul_right this hn
def Zit (n:Nat) (s:Sl) (rows:List (List Value)) (S:World->Prop):Prop:=
 s.len=rows.length/\∀ k (hk:k<rows.length),∃ b off,s.a=some ⟨b,off,none⟩/\∀ j vs,Pre vs (rows[k].drop j)->At S ⟨b,off + (k * n + j),none⟩ vs
theorem Zs.reads {rows:List (List Value)} (hw:Sat R (Zs n s T rows::Hs) w) {S:World->Prop} {Hs'} (hS:∀ w,S w->Sat R (Zs n s T rows::Hs') w):Zit n s rows S:=by
 refine ⟨Zs.len hw,λ k hk=>?_⟩;obtain ⟨hwid,⟨_,rfl,_⟩|⟨b,rest,fr,cap,rfl,hl,_,_⟩⟩:=Zs.cases hw
 ·simp at hk
 ·refine ⟨b,0,rfl,λ j vs hp w hw i v hv=>?_⟩
  obtain ⟨_,⟨h0,_,_⟩|⟨b',rest',fr',cap',he,_,_,h⟩⟩:=Zs.cases (hS w hw)
  ·cases h0
  ·simp only [Sl.mk.injEq,Option.some.injEq,Addr.mk.injEq,and_true] at he
   obtain ⟨rfl,_⟩:=he;have:=(Wid.pre rest' hwid hk hp).get i v hv;rw [List.getElem?_drop] at this;rw [Zy,Nat.zero_add,Zaw h.at,this]
theorem Zit.rng {S:World->Prop} {rows:List (List Value)} (h:Zit n s rows S) {k:Nat} (hk:k<rows.length) {F:Addr->Prop} (f:∀ b off,s.a=some ⟨b,off,none⟩->(∀ j vs,Pre vs (rows[k].drop j)->At S ⟨b,off + (k * n + j),none⟩ vs)->F ⟨b,off,none⟩):
  Rng (k:Int) s.len (Zc s.a F):=by
 obtain ⟨b,off,ha,hat⟩:=h.2 k hk;have:=h.1;exact Rng.mk (by omega) (by omega) (Zc.mk ha (f b off ha hat))
theorem ZoL (b off k n j:Nat):(⟨(Addr.add ⟨b,off,none⟩ (Zcp k n)).block,(Addr.add ⟨b,off,none⟩ (Zcp k n)).off + j,none⟩:Addr)=⟨b,off + (k * n + j),none⟩:=by
 rw [Zy,Zgy];simp only [Addr.mk.injEq,and_true,true_and];omega
theorem Zie (b off k n:Nat):Addr.add ⟨b,off,none⟩ (Zcp k n)=⟨b,off + (k * n + 0),none⟩:=by
 rw [Zy,Zgy];rfl
structure RoN (n:Nat) (R:Cx) (s:Sl) (rows:List (List Value)):Prop where
 wid:Wid n rows
 len:s.len=rows.length
 mem:rows≠[]->∃ b off l T fr,s.a=some ⟨b,off,none⟩/\R.m b=some (.cells l T fr)/\∀ (i:Nat) v,rows.flatten[i]? =some v->l[off + i]? =some v
theorem RoN.reads {rows:List (List Value)} (hr:RoN n R s rows) {S:World->Prop} {Hs'} (hS:∀ w,S w->Sat R Hs' w):Zit n s rows S:=by
 refine ⟨hr.len,λ k hk=>?_⟩;obtain ⟨b,off,l,T,fr,ha,hb,hl⟩:=hr.mem (λ h=>by rw [h] at hk;simp at hk);refine ⟨b,off,ha,λ j vs hp w hw i v hv=>?_⟩;have h1:=(Wid.pre [] hr.wid hk hp).get i v hv;rw [List.append_nil,List.getElem?_drop] at h1;have:=(hS w hw).of_ro hb;rw [Zy];simp only [World.cell?,this,Option.isSome_none,Bool.false_eq_true,if_false];rw [Nat.add_assoc];exact hl _ _ h1
theorem Zs.lend {rows:List (List Value)} (h:Sat R (Zs n s T rows::Hs) w):
  ∃ R':Cx,RoN n R' s rows/\(∃ x,R'=R.add x)/\Sat R' Hs w/\∀ {Hs' w'},Sat R' Hs' w'->Sat R (Zs n s T rows::Hs') w':=by
 obtain ⟨hwid,⟨rfl,rfl,h2⟩|⟨b,rest,fr,cap,rfl,hl,hf,h2⟩⟩:=Zs.cases h
 ·exact ⟨R,⟨hwid,rfl,λ h=>absurd rfl h⟩,⟨ZY.none,(Cx.add_none R).symm⟩,h2,λ h=>Zs.nil h⟩
 ·obtain ⟨hn,h3⟩:=Sat.lend.1 h2
  refine ⟨_,⟨hwid,rfl,λ _=>⟨b,0,_,T,fr,rfl,Cx.lent hn,λ i v hv=>?_⟩⟩,⟨_,rfl⟩,h3,λ h=>Zs.of_pts hwid hl (Sat.lend.2 ⟨hn,h⟩)⟩;obtain ⟨hi,rfl⟩:=List.getElem?_eq_some_iff.1 hv;simp [List.getElem?_append_left hi]
theorem RoN.sub {rows:List (List Value)} (hr:RoN n R s rows) {l h m:Nat} (hlh:l<=h) (hh:h<=rows.length) (hm:m=l->h=l):RoN n R ⟨Zck s.a l m n,h - l,m - l⟩ ((rows.take h).drop l):=by
 have hwid:Wid n ((rows.take h).drop l):=hr.wid.take.drop;refine ⟨hwid,by simp;omega,λ hne=>?_⟩;have hlt:l<h:=by
  have:0<((rows.take h).drop l).length:=List.length_pos_iff.2 hne;simp at this;omega
 obtain ⟨b,off,ls,T,fr,ha,hb,hl⟩:=hr.mem (λ h0=>by rw [h0] at hh;simp at hh;omega);refine ⟨b,off + l * n,ls,T,fr,?_,hb,λ i v hv=>?_⟩
 ·unfold Zck
  rw [if_neg (λ e=>by have:=hm e;omega),ha];simp [Zy]
 ·rw [Nat.add_assoc]
  refine hl _ _ ?_;have e1:((rows.take h).drop l).flatten=(rows.flatten.take (h * n)).drop (l * n):=by
   rw [hr.wid.take_flat,hr.wid.take.drop_flat]
  rw [e1,List.getElem?_drop] at hv;rw [List.getElem?_take] at hv;split at hv
  ·exact hv
  ·cases hv
theorem RoN.take {rows:List (List Value)} (hr:RoN n R s rows) {h:Nat} (hh:h<=rows.length) (c:Nat):RoN n R ⟨s.a,h,c⟩ (rows.take h):=
 ⟨hr.wid.take,by simp;omega,λ hne=>by
  obtain ⟨b,off,ls,T,fr,ha,hb,hl⟩:=hr.mem (λ h0=>hne (by rw [h0];simp));refine ⟨b,off,ls,T,fr,ha,hb,λ i v hv=>hl _ _ ?_⟩;rw [<-hr.wid.take_flat,List.getElem?_take] at hv;split at hv
  ·exact hv
  ·cases hv⟩
def ZAN (P:Program) (T:TypeId) (n bytes:Nat):Bool:=
 match P.info? T with
 |some i=>match i.zero with
  |some z=>i.size==n && i.bytes==bytes && z.cells.size==n
  |none=>false
 |none=>false
structure ElN (P:Program) (t1 t2 T:TypeId) (n bytes:Nat):Prop where
 ht:P.underlying t1=some (.slice T)
 hk:∃ e',P.underlying t2=some (.slice e')
 hi:ZAN P T n bytes=true
theorem ZkC {P:Program} {T:TypeId} {n bytes:Nat} (h:ZAN P T n bytes=true):∃ i z,P.info? T=some i/\i.zero=some z/\i.size=n/\i.bytes=bytes/\z.cells.size=n:=by
 unfold ZAN at h;split at h
 ·rename_i i hi
  split at h
  ·rename_i z hz
   simp only [Bool.and_eq_true,beq_iff_eq] at h;exact ⟨i,z,hi,hz,h.1.1,h.1.2,h.2⟩
  ·cases h
 ·cases h
theorem ZaR {t1 t2 ty:TypeId} {bytes:Nat} (E:ElN P t1 t2 T n bytes) {rows ys:List (List Value)} {src:Value} {K:Sl->World->Prop}
  (hw:Sat R (Zs n s T rows::Hs) w) (hs:Src P n t2 src ys.length ys.flatten w) (hy:Wid n ys) (hb:2 * (rows.length + ys.length) * bytes<=281474976710656) (hb':rows.length + ys.length<=9223372036854775807)
  (k:∀ s' w',Sat R (Zs n s' T (rows++ys)::Hs) w'->K s' w'):
  ∃ w',∃ t:Sl,(Builtin.append_ #[t1,t2] ty #[.slice s.a s.len s.cap,src]).run P w=.ok (.slice t.a t.len t.cap) w'/\K t w':=by
 obtain ⟨i,z,hi,hz,hsize,hbytes,hzc⟩:=ZkC E.hi;have hs':Src P i.size t2 src ys.length ys.flatten w:=by rw [hsize];exact hs
 have hlen:=Zs.len hw;have hwid:=Zs.wid hw;have hwid2:=hwid.app hy;generalize hcn:ys.length=c at *;have fit:∀ cap,cap<rows.length + c->Builtin.nextslicecap (rows.length + c) cap * i.bytes<=281474976710656:=λ cap hc=>by
  have h2:Builtin.nextslicecap (rows.length + c) cap<=2 * (rows.length + c):=by
   unfold Builtin.nextslicecap;split
   ·omega
   ·split
    ·omega
    ·have:=nextslicecap_le_wide hc
     unfold Builtin.nextslicecap at this;rw [if_neg (by assumption),if_neg (by assumption)] at this;omega
  rw [hbytes];exact Nat.le_trans (Nat.mul_le_mul_right _ h2) hb
 -- a new row
 have grow:∀ (base:Option Addr) (cap:Nat),cap<rows.length + c->(Builtin.firstCells i.size rows.length (.slice base rows.length cap)).run P w.drew=.ok rows.flatten.toArray w.drew->Sat R Hs w->
   ∃ w',∃ t:Sl,(Builtin.append_ #[t1,t2] ty #[.slice base rows.length cap,src]).run P w=.ok (.slice t.a t.len t.cap) w'/\K t w':=λ base cap hc hold hw=>by
  have hr:=run_append_grow_src w t1 t2 ty T i z E.ht hi hz base rows.length cap rows.flatten hold src c ys.flatten hs' hc (by omega) (fit cap hc);refine ⟨_,⟨some ⟨w.heap.size,0,none⟩,rows.length + c,grownCap w (rows.length + c) cap T⟩,hr,k _ _ ?_⟩;have hz0:(Builtin.zeroCells z.cells (grownCap w (rows.length + c) cap T - (rows.length + c))).size=(grownCap w (rows.length + c) cap T - (rows.length + c)) * n:=by
   simp [Builtin.zeroCells,hzc]
  have hg:=grownCap_ge w (rows.length + c) cap T;generalize hG:grownCap w (rows.length + c) cap T=G at *;have ho':Obj.cells ((rows.flatten++ys.flatten).toArray++Builtin.zeroCells z.cells (G - (rows.length + c))) T=.cells ((rows++ys).flatten++(Builtin.zeroCells z.cells (G - (rows.length + c))).toList).toArray T (0,0):=by
   congr 1
   apply Array.ext';simp
  have:=Sat.alloc (Obj.cells ((rows.flatten++ys.flatten).toArray++Builtin.zeroCells z.cells (G - (rows.length + c))) T) (Sat.drew hw);rw [ho'] at this ⊢;have hlenG:((rows++ys).flatten++(Builtin.zeroCells z.cells (G - (rows.length + c))).toList).length=G * n:=by
   have hz1:(Builtin.zeroCells z.cells (G - (rows.length + c))).toList.length=(G - (rows.length + c)) * n:=by rw [Array.length_toList];exact hz0
   rw [List.length_append,hz1,hwid2.len,List.length_append,hcn,<-Nat.add_mul]
   congr 1;omega
  have h3:=Zs.of_pts (cap:=G) hwid2 hlenG this;have e:(⟨some ⟨w.drew.heap.size,0,none⟩,(rows++ys).length,G⟩:Sl)=⟨some ⟨w.heap.size,0,none⟩,rows.length + c,G⟩:=by
   simp only [List.length_append,World.size_drew,hcn]
  rw [e] at h3;exact h3
 obtain ⟨_,⟨rfl,rfl,hz2⟩|⟨b,rest,fr,cap,rfl,hl,hfr,hp⟩⟩:=Zs.cases hw
 ·by_cases hn0:c=0
  ·subst hn0
   have hy0:ys=[]:=List.length_eq_zero_iff.1 hcn;subst hy0;obtain ⟨e',he'⟩:=E.hk;refine ⟨w,⟨none,0,0⟩,?_,k _ _ (by simpa using Zs.nil hz2)⟩;have hcz:=hs'.cells;simp [Builtin.append_,run_underlying E.ht,run_underlying he',sizeOf,typeInfo,hi,hs'.len,hcz]
  ·exact grow none 0 (by simp;omega) (run_firstCells_none w.drew i.size 0 0 0) hz2
 ·have hl0:=hl
  rw [List.length_append,hwid.len] at hl;by_cases hroom:rows.length + c<=cap
  ·have hat:=hp.at
   have hcapn:(rows.length + c) * n<=cap * n:=Nat.mul_le_mul_right _ hroom;rw [Nat.add_mul] at hcapn;have hyl:ys.flatten.length=c * n:=by rw [hy.len,hcn]
   have hr:=run_append_room_src w t1 t2 ty T i E.ht hi b 0 rows.length cap src c ys.flatten hs' hroom
    (λ j hj=>by
     rw [Zaw hat,hsize,List.getElem?_eq_getElem (by rw [hl0];omega)];rfl) (λ j hj=>ZcT hat hfr (by rw [hsize];omega))
   refine ⟨_,⟨some ⟨b,0,none⟩,rows.length + c,cap⟩,hr,k _ _ ?_⟩;have h2:=ZaP ys.flatten (rows.flatten++rest) (rows.length * n) w hp;have e1:ZeD (rows.flatten++rest) (rows.length * n) ys.flatten=(rows++ys).flatten++rest.drop (c * n):=by
    rw [Zfj _ _ _ (by rw [hyl,hl0];omega),List.take_left' hwid.len,hyl,<-List.drop_drop,List.drop_left' hwid.len];simp
   rw [e1] at h2;rw [hsize,Nat.zero_add];have h3:=Zs.of_pts (cap:=cap) hwid2 (by rw [List.length_append,hwid2.len,List.length_append,hcn,List.length_drop,Nat.add_mul];omega) h2;rw [List.length_append,hcn] at h3;exact h3
  ·have hat:=hp.at
   refine grow (some ⟨b,0,none⟩) cap (by omega) ?_ hp.drop;refine run_firstCells_some w.drew i.size rows.length ⟨b,0,none⟩ rows.length _ rows.flatten (by rw [hsize,hwid.len]) ?_;intro j u hj;rw [World.cell?_drew,Zy,Zaw hat,Nat.zero_add];obtain ⟨hlt,rfl⟩:=List.getElem?_eq_some_iff.1 hj;simp [List.getElem?_append_left hlt]
theorem ZeU {t2:TypeId} (hk:∃ e',P.underlying t2=some (.slice e')) {b:Nat} {x:List Value} {fr:Nat × Nat} (c:Nat)
  (hw:Sat R Hs w) [t:Zd2 b Hs (.cells x.toArray T fr) Rest] (hx:x.length=n) (h1:ZaE x=true):Src P n t2 (.slice (some ⟨b,0,none⟩) 1 c) [x].length [x].flatten w:=by
 obtain ⟨e',he'⟩:=hk;refine Go.Src.ofSlice w he' _ 1 c _ (by simp [hx]) ?_ ?_
 ·intro j u hj
  have:=hw.look b;rw [Zy,Zaw this];simpa using hj
 ·intro u hu;simp at hu;exact List.all_eq_true.1 h1 u hu
theorem ZvS {t2:TypeId} (ht:∃ e',P.underlying t2=some (.slice e')) {rows:List (List Value)} (hw:Sat R Hs w) (hs:RoN n R s rows) (h1:ZaE rows.flatten=true):Src P n t2 (.slice s.a s.len s.cap) rows.length rows.flatten w:=by
 obtain ⟨e',ht⟩:=ht;have hl:s.len=rows.length:=hs.len;by_cases hx:rows=[]
 ·subst hx
  obtain ⟨a,n,c⟩:=s;simp only [List.length_nil] at hl;subst hl;cases a with
  |none=>exact Go.Src.ofNil _ ht _
  |some a=>exact Go.Src.ofSlice w ht _ 0 _ [] (by simp) (λ j u hj=>by simp at hj) (λ u hu=>by cases hu)
 ·obtain ⟨b,off,l,T,fr,ha,hb,hel⟩:=hs.mem hx
  obtain ⟨a,n,c⟩:=s;simp only at ha hl;subst ha hl;refine Go.Src.ofSlice w ht _ _ _ _ (by rw [hs.wid.len]) (λ j u hj=>?_) (λ u hu=>List.all_eq_true.1 h1 u hu);rw [Zy];have:=hw.of_ro hb;simp only [World.cell?,this,Option.isSome_none,Bool.false_eq_true,if_false];exact hel j u hj
theorem Zgv {t1 t2 ty T':TypeId} {bytes:Nat} (E:ElN P t1 t2 T n bytes) {rows:List (List Value)} {x:List Value} {K:Sl->World->Prop}
  (hw:Sat R (Zs n s T rows::Hs) w) (hx:x.length=n) (h1:ZaE x=true) (hb:2 * (rows.length + 1) * bytes<=281474976710656) (hb':rows.length + 1<=9223372036854775807)
  (k:∀ s' w',Sat R (Zs n s' T (rows++[x])::Hs) w'->K s' w'):
  New (.cells x.toArray T' (0,0)) (λ b w=>∃ w',∃ t:Sl,(Builtin.append_ #[t1,t2] ty #[.slice s.a s.len s.cap,.slice (some ⟨b,0,none⟩) 1 1]).run P w=.ok (.slice t.a t.len t.cap) w'/\K t w') w:=by
 refine Za hw λ b w hw=>?_;have hw:Sat R (pts b (.cells x.toArray T' (0,0))::Zs n s T rows::Hs) w:=hw;exact ZaR E hw.swap (ZeU E.hk 1 hw hx h1) (Wid.one hx) hb hb' λ s' w' h=>k s' w' h.swap.drop
theorem Zs.empty {b:Nat} {fr:Nat × Nat} (h:Sat R (pts b (.cells #[] T fr)::Hs) w):Sat R (Zs n ⟨some ⟨b,0,none⟩,0,0⟩ T []::Hs) w:=
 Zs.of_pts (rows:=[]) (rest:=[]) (cap:=0) Wid.nil (by simp) h (.inr (by simp))
theorem ZkQ {t1 t2 ty:TypeId} {bytes b:Nat} {fr:Nat × Nat} (E:ElN P t1 t2 T n bytes) {ys:List (List Value)} {src:Value} {K:Sl->World->Prop}
  (hw:Sat R Hs w) [tk:Zd2 b Hs (.cells ([]:List Value).toArray T fr) Rest] (hs:Src P n t2 src ys.length ys.flatten w) (hy:Wid n ys) (hb:2 * ys.length * bytes<=281474976710656) (hb':ys.length<=9223372036854775807)
  (k:∀ s' w',Sat R (Zs n s' T ys::Rest) w'->K s' w'):
  ∃ w',∃ t:Sl,(Builtin.append_ #[t1,t2] ty #[.slice (some ⟨b,0,none⟩) 0 0,src]).run P w=.ok (.slice t.a t.len t.cap) w'/\K t w':=by
 have h2:=ZaR (ty:=ty) (s:=⟨some ⟨b,0,none⟩,0,0⟩) (K:=K) E (Zs.empty (hw.takeP tk)) hs hy (by simpa using hb) (by simpa using hb') (by simpa using k);exact h2
structure Elt (n:Nat) (S:World->Prop) (a:Addr) (k:Nat) (row:List Value):Prop where
 f:∀ (j:Nat) {vs:List Value},Pre vs (row.drop j)->At S ⟨(Addr.add a (Zcp (k:Int).toNat n)).block,(Addr.add a (Zcp (k:Int).toNat n)).off + j,none⟩ vs
 z:∀ {vs:List Value},Pre vs row->At S (Addr.add a (Zcp (k:Int).toNat n)) vs
 zz:∀ {vs:List Value},Pre vs row->At S (Addr.add (Addr.add a (Zcp (k:Int).toNat n)) 0) vs
theorem Zqc (b off k n:Nat):Addr.add (Addr.add ⟨b,off,none⟩ (Zcp k n)) 0=⟨b,off + (k * n + 0),none⟩:=by
 rw [Zie,Zy];rfl
theorem Zit.rngM {α:Type} {E:List α} {g:α->List Value} {S:World->Prop} (h:Zit n s (E.map g) S) {k:Nat} (hk:k<E.length) {F:Addr->Prop} (f:∀ a,s.a=some a->Elt n S a k (g E[k])->F a):Rng (k:Int) s.len (Zc s.a F):=by
 have hg:(E.map g)[k]'(by simpa using hk)=g E[k]:=by simp
 refine h.rng (k:=k) (by simpa using hk) λ b off ha hat=>f _ ha ⟨λ j vs hp=>?_,λ hp=>?_,λ hp=>?_⟩
 ·rw [Int.toNat_natCast,ZoL];exact hat j _ (by rw [hg];exact hp)
 ·rw [Int.toNat_natCast,Zie];exact hat 0 _ (by rw [hg];exact hp)
 ·rw [Int.toNat_natCast,Zqc];exact hat 0 _ (by rw [hg];exact hp)
theorem Zs.readsM {rows:List (List Value)} (hw:Sat R Hs w) [t:ZqI (Zs n s T rows) Hs Rest] {S:World->Prop} (hS:∀ w,S w->Sat R Hs w):Zit n s rows S:=
 Zs.reads (hw.perm t.perm) λ w h=>(hS w h).perm t.perm
class Arr (Hs Hs':List HP):Prop where
 perm:Hs.Perm Hs'
instance (priority:=2000) Arr.refl {Hs:List HP}:Arr Hs Hs:=⟨List.Perm.refl _⟩
instance Arr.cons {A:HP} {Hs Rest Hs':List HP} [t:ZqI A Hs Rest] [r:Arr Rest Hs']:Arr Hs (A::Hs'):=⟨t.perm.trans (r.perm.cons A)⟩
theorem Sat.arr {Hs':List HP} (h:Sat R Hs w) [a:Arr Hs Hs']:Sat R Hs' w:=h.perm a.perm
theorem Br.d {p:Prop} {inst:Decidable p} {A B:Prop} (h:p->A) (h':¬ p->B):Br (@decide p inst) A B:=Br.mk (λ e=>h (of_decide_eq_true e)) (λ e=>h' (of_decide_eq_false e))
theorem Br.nd {p:Prop} {inst:Decidable p} {A B:Prop} (h:¬ p->A) (h':p->B):Br (!@decide p inst) A B:=Br.mk (λ e=>h (by simpa using e)) (λ e=>h' (by simpa using e))
theorem Br.e {x y:Int} {A B:Prop} (h:x=y->A) (h':¬ x=y->B):Br (x==y) A B:=Br.mk (λ e=>h (by simpa using e)) (λ e=>h' (by simpa using e))
theorem Br.ne {x y:Int} {A B:Prop} (h:¬ x=y->A) (h':x=y->B):Br (x !=y) A B:=Br.mk (λ e=>h (by simpa using e)) (λ e=>h' (by simpa using e))
theorem Br.nb {b:Bool} {A B:Prop} (h:b=false->A) (h':b=true->B):Br (!b) A B:=Br.mk (λ e=>h (by simpa using e)) (λ e=>h' (by simpa using e))
theorem Zq6 (a b:ByteArray):(a.toList==b.toList)=decide (a=b):=by
 rw [ByteArray.toList_eq,ByteArray.toList_eq];by_cases h:a=b
 ·simp [h]
 ·have:a.data≠b.data:=λ h2=>h (by cases a;cases b;simp_all)
  simp [h,this]
theorem Br.sne {x y:ByteArray} {A B:Prop} (h:¬ x=y->A) (h':x=y->B):Br (!(x.toList==y.toList)) A B:=by rw [Zq6];exact Br.nd h h'
end
theorem Zk2 {x:Int} (h0:0<=x) (h1:x<256):IntKind.u8.wrap x=x:=by rw [IntKind.wrap_u8'];omega
theorem ZwG (x:Int):IntKind.u8.wrap x=x % 256:=IntKind.wrap_u8' x
theorem ZP {x:Int} (h0 : 0<=x := by omega) (h1 : x<18446744073709551616 := by omega):IntKind.u64.wrap x=x:=by rw [IntKind.wrap_u64];omega
theorem ZeS (n x:Nat) (h:x<2 ^ n):(BitVec.ofInt n (x:Int)).toNat=x:=by
 rw [BitVec.toNat_ofInt];have:((x:Int) % (2 ^ n:Nat))=x:=Int.emod_eq_of_lt (by omega) (by exact_mod_cast h);rw [this];rfl
theorem ZAr {x y:Nat} (hx:x<18446744073709551616) (hy:y<18446744073709551616):Zgf .or .u64 x y=((x|||y:Nat):Int):=by
 have e:(BitVec.ofInt 64 (x:Int)|||BitVec.ofInt 64 (y:Int)).toNat=x|||y:=by rw [BitVec.toNat_or,ZeS 64 x hx,ZeS 64 y hy]
 show IntKind.u64.wrap (((BitVec.ofInt 64 (x:Int)|||BitVec.ofInt 64 (y:Int)).toNat:Nat):Int)=_;rw [e];have:x|||y<18446744073709551616:=Nat.or_lt_two_pow (n:=64) hx hy
 exact ZP
theorem Zwy {x y:Nat} (hx:x<18446744073709551616) (hy:y<18446744073709551616):Zgf .and .u64 x y=((x &&& y:Nat):Int):=by
 have e:(BitVec.ofInt 64 (x:Int) &&& BitVec.ofInt 64 (y:Int)).toNat=x &&& y:=by rw [BitVec.toNat_and,ZeS 64 x hx,ZeS 64 y hy]
 show IntKind.u64.wrap (((BitVec.ofInt 64 (x:Int) &&& BitVec.ofInt 64 (y:Int)).toNat:Nat):Int)=_;rw [e];have:x &&& y<18446744073709551616:=Nat.and_lt_two_pow (n:=64) x hy;exact ZP
theorem Zxc (x y:Nat) (hy:y<256):x * 256|||y=x * 256 + y:=by
 have:=Nat.two_pow_add_eq_or_of_lt (i:=8) (b:=y) (by omega) x;rw [Nat.mul_comm] at this;exact this.symm
section
variable {P:Program} {R:Cx} {Hs Rest:List HP} {w:World} {s:Sl}
structure SlR (h:ZY) (s:Sl) (xs:List Value):Prop where
 len:s.len=xs.length
 cap:s.len<=s.cap
 mem:xs≠[]->∃ b off l T fr,s.a=some ⟨b,off,none⟩/\h b=some (.cells l T fr)/\∀ (i:Nat) v,xs[i]? =some v->l[off + i]? =some v
def Zz (s:Sl) (xs:List Value):HP:=λ h=>SlR h s xs
theorem SlR.addR {h h':ZY} {xs:List Value} (hd:h'.dis h) (a:SlR h s xs):SlR (h'.add h) s xs:=
 ⟨a.len,a.cap,λ hx=>let ⟨b,off,l,T,fr,ha,hb,hl⟩:=a.mem hx;⟨b,off,l,T,fr,ha,by
  simp only [ZY.add,hd b (by rw [hb];simp)];exact hb,hl⟩⟩
theorem SlR.ro {xs:List Value} (a:SlR R.m s xs) (hb:xs.length<=9223372036854775807 := by rw [List.length_map];omega):Ro R s xs:=
 ⟨a.len,hb,a.mem⟩
theorem SlR.take {h:ZY} {xs:List Value} (a:SlR h s xs) {k:Nat} (hk:k<=xs.length):SlR h ⟨s.a,k,s.cap⟩ (xs.take k):=
 ⟨by simp;omega,by have:=a.len;have:=a.cap;simp only;omega,λ hx=>by
  obtain ⟨b,off,l,T,fr,ha,hb,hl⟩:=a.mem (λ h0=>hx (by rw [h0];simp));refine ⟨b,off,l,T,fr,ha,hb,λ i v hv=>hl i v ?_⟩;rw [List.getElem?_take] at hv;split at hv
  ·exact hv
  ·cases hv⟩
theorem SlR.drop {h:ZY} {xs:List Value} (a:SlR h s xs) {k:Nat} (hk:k<=xs.length):SlR h ⟨Zck s.a k s.cap 1,s.len - k,s.cap - k⟩ (xs.drop k):=by
 have hlen:=a.len;have hcap:=a.cap;refine ⟨by simp;omega,by simp only;omega,λ hx=>?_⟩;obtain ⟨b,off,l,T,fr,ha,hb,hl⟩:=a.mem (λ h0=>hx (by rw [h0];simp));have hlt:0<(xs.drop k).length:=List.length_pos_iff.2 hx;rw [List.length_drop] at hlt;refine ⟨b,off + k,l,T,fr,?_,hb,λ i v hv=>?_⟩
 ·unfold Zck
  rw [if_neg (by omega),ha];simp [Zy]
 ·rw [List.getElem?_drop] at hv
  rw [Nat.add_assoc];exact hl _ _ hv
theorem Zz.lend {xs:List Value} (h:Sat R (Zz s xs::Hs) w):∃ x:ZY,R.dis x/\SlR (R.add x).m s xs/\Sat (R.add x) Hs w/\SlR x s xs:=by
 obtain ⟨x,hx,hd,hs⟩:=h;exact ⟨x,hd,SlR.addR hd hx,hs,hx⟩
theorem Zz.back {xs:List Value} {x:ZY} (hd:R.dis x) (hx:SlR x s xs) (h:Sat (R.add x) Hs w):Sat R (Zz s xs::Hs) w:=⟨x,hx,hd,h⟩
theorem Own.reads {T:TypeId} {xs:List Value} (h:Sat R (Own s T xs::Hs) w):Sat R (Zz s xs::Hs) w:=by
 rcases Own.cases h with ⟨rfl,rfl,h2⟩|⟨b,rest,fr,rfl,hf,h2⟩
 ·exact ⟨ZY.none,⟨rfl,Nat.le_refl _,λ h=>absurd rfl h⟩,λ i hi=>absurd rfl hi,by rw [Cx.add_none];exact h2⟩
 ·obtain ⟨a,ha,hd,hs⟩:=h2
  refine ⟨a,⟨rfl,by simp,λ _=>⟨b,0,(xs++rest).toArray,T,fr,rfl,by rw [ha];simp [ZY.one],λ i v hv=>?_⟩⟩,hd,hs⟩;obtain ⟨hi,rfl⟩:=List.getElem?_eq_some_iff.1 hv;simp [List.getElem?_append_left hi]
theorem SlR.idxK {kd:IntKind} {xs:List Int} {S:World->Prop} (hr:SlR R.m s (xs.map (Value.int kd))) (hS:∀ w,S w->Sat R Hs w) {k:Nat} (hk:k<xs.length) {F:Int->Prop} (h:F xs[k]):
  Rng (k:Int) s.len (Zc s.a λ a=>∃ t:Int,(At S (a.add (k:Int).toNat) [.int kd t])/\F t):=by
 have hl:s.len=xs.length:=by have:=hr.len;simpa using this
 obtain ⟨b,off,l,T,fr,ha,hb,hel⟩:=hr.mem (by intro h0;rw [List.map_eq_nil_iff] at h0;rw [h0] at hk;simp at hk);refine Rng.mk (by omega) (by omega) (Zc.mk ha ⟨xs[k],λ w hw i v hv=>?_,h⟩);have hi:i=0:=by
  cases i with
  |zero=>rfl
  |succ i=>simp at hv
 subst hi;simp only [List.getElem?_cons_zero,Option.some.injEq] at hv;subst hv;rw [Int.toNat_natCast,Zy,Zy];have:=(hS w hw).of_ro hb;simp only [World.cell?,this,Option.isSome_none,Bool.false_eq_true,if_false];exact hel k _ (by simp [hk])
end
end Go.VC
namespace Go.Proofs.YtlplemdmegpoeaaGreatDoor
section
open Go Go.VC Tryz
variable {R:Cx} {Hs Rest:List HP} {w:World}
theorem _root_.Go.VC.Sat.re {A:HP} (B:HP) (h:Sat R (A::Hs) w) (e:A=B:=by rfl):Sat R (B::Hs) w:=e ▸ h
abbrev b8 (l:List Int):List Value:=l.map (Value.int .u8)
theorem ZqG:El prog 47 47 5 1:=⟨underlying47,⟨_,underlying47⟩,by kernel_rfl⟩
theorem Zol (xs:List Int):ZaE (b8 xs)=true:=by unfold ZaE;simp [Value.oneCell']
theorem ZeR {s:Sl} {xs:List Int} (hs:Ro R s (b8 xs)) (hl:xs.length<=1099511627776) (hw:Sat R Hs w):
  Zm prog 75 #[.slice s.a s.len s.cap] w λ r w'=>∃ t:Sl,r=.slice t.a t.len t.cap/\Sat R (Own t 5 (b8 xs)::Hs) w':=by
 apply ZBa;refine Br.mk (λ h=>?_) (λ h=>?_)
 ·have hx:xs=[]:=by
   by_cases hx:b8 xs=[]
   ·simpa using hx
   ·obtain ⟨b,off,_,_,_,ha,_⟩:=hs.mem hx
    rw [ha] at h;cases h
  subst hx;exact ⟨⟨none,0,0⟩,rfl,Own.nil hw⟩
 ·refine Za hw λ b w hw=>?_
  have h0:Sat R (Own ⟨some ⟨b,0,none⟩,0,0⟩ 5 []::Hs) w:=Own.of_pts (xs:=[]) (rest:=[]) hw;have hsrc:Src prog 1 47 (.slice s.a s.len s.cap) xs.length (b8 xs) w:=by
   have:=ZwQ underlying47 h0 hs (Zol xs);simpa using this
  have:=ZcY (ty:=47) (K:=λ t w'=>∃ u:Sl,Value.slice t.a t.len t.cap=.slice u.a u.len u.cap/\Sat R (Own u 5 (b8 xs)::Hs) w') ZqG h0 hsrc rfl (by simp;omega) (by simp;omega) λ t w hw=>⟨t,rfl,by simpa using hw⟩;exact this
end
end Go.Proofs.YtlplemdmegpoeaaGreatDoor
namespace Go.VC
def dig (n:Nat):List Int:=if h:n=0 then [] else dig (n / 256)++[((n % 256:Nat):Int)]
termination_by n
decreasing_by omega
theorem Zbp:dig 0=[]:=by unfold dig;simp
theorem Zdn {n:Nat} (h:n≠0):dig n=dig (n / 256)++[((n % 256:Nat):Int)]:=by
 conv=>lhs;unfold dig
 rw [dif_neg h]
def Zfd (acc:Int) (l:List Int):Int:=l.foldl (λ a b=>a * 256 + b) acc
theorem Zul (acc:Int):Zfd acc []=acc:=rfl
theorem Zfz (acc b:Int) (l:List Int):Zfd acc (b::l)=Zfd (acc * 256 + b) l:=rfl
theorem Zum (acc:Int) (a b:List Int):Zfd acc (a++b)=Zfd (Zfd acc a) b:=List.foldl_append
theorem Zd4 (acc:Int) (a:List Int) (b:Int):Zfd acc (a++[b])=Zfd acc a * 256 + b:=by rw [Zum];rfl
theorem Zhs:∀ {l:List Int} {acc:Int},0<=acc->(∀ x∈l,0<=x/\x<256)->0<=Zfd acc l
 |[],_,h,_=>h
 |b::l,acc,h,hb=>by
  rw [Zfz];have:=hb b List.mem_cons_self;exact Zhs (by omega) λ x hx=>hb x (List.mem_cons_of_mem _ hx)
theorem ZjE:∀ {l:List Int} {acc:Int},0<=acc->(∀ x∈l,0<=x/\x<256)->Zfd acc l<(acc + 1) * 256 ^ l.length
 |[],acc,h,_=>by simp [Zfd];omega
 |b::l,acc,h,hb=>by
  rw [Zfz];have h1:=hb b List.mem_cons_self;have:=ZjE (l:=l) (acc:=acc * 256 + b) (by omega) λ x hx=>hb x (List.mem_cons_of_mem _ hx);refine Int.lt_of_lt_of_le this ?_;rw [List.length_cons,Int.pow_succ,Int.mul_comm (256 ^ l.length) 256,<-Int.mul_assoc];exact Int.mul_le_mul_of_nonneg_right (by omega) (Int.le_of_lt (Int.pow_pos (by decide)))
theorem ZxU (n:Nat):Zfd 0 (dig n)=n:=by
 induction n using Nat.strongRecOn with
 |ind n ih=>
  by_cases h:n=0
  ·subst h;rw [Zbp];rfl
  ·rw [Zdn h,Zd4,ih (n / 256) (by omega)];omega
theorem ZAO (n:Nat):∀ x∈dig n,0<=x/\x<256:=by
 induction n using Nat.strongRecOn with
 |ind n ih=>
  by_cases h:n=0
  ·subst h;rw [Zbp];intro x hx;cases hx
  ·rw [Zdn h]
   intro x hx;rcases List.mem_append.1 hx with hx|hx
   ·exact ih (n / 256) (by omega) x hx
   ·simp at hx;omega
theorem Zvq (n:Nat):∀ x l,dig n=x::l->x≠0:=by
 induction n using Nat.strongRecOn with
 |ind n ih=>
  intro x l hx;by_cases h:n=0
  ·subst h;rw [Zbp] at hx;cases hx
  ·rw [Zdn h] at hx
   by_cases h2:n / 256=0
   ·rw [h2,Zbp] at hx
    simp at hx;omega
   ·cases hd:dig (n / 256) with
    |nil=>rw [Zdn h2] at hd;simp at hd
    |cons y l'=>
     rw [hd] at hx;simp at hx;obtain ⟨rfl,_⟩:=hx;exact ih (n / 256) (by omega) _ _ hd
theorem Zju:∀ (k n:Nat),n<256 ^ k->(dig n).length<=k
 |0,n,h=>by
  have:n=0:=by simpa using h
  subst this;rw [Zbp];simp
 |k + 1,n,h=>by
  by_cases h0:n=0
  ·subst h0;rw [Zbp];simp
  ·rw [Zdn h0,List.length_append]
   have:=Zju k (n / 256) (by rw [Nat.pow_succ] at h;exact Nat.div_lt_of_lt_mul (by rwa [Nat.mul_comm] at h));simp;omega
theorem Zga {n:Nat} (h:n<18446744073709551616):(dig n).length<=8:=Zju 8 n (by simpa using h)
theorem Zta (n:Nat) (h:n<18446744073709551616):(Lib.bitLen n + 7) / 8=(dig n).length:=by
 induction n using Nat.strongRecOn with
 |ind n ih=>
  by_cases h0:n=0
  ·subst h0;rw [Zbp];decide
  ·rw [Zdn h0,List.length_append]
   by_cases h1:256<=n
   ·rw [Lib.bitLen_shift8 n h1 h,<-ih (n / 256) (by omega) (by omega)]
    simp;omega
   ·have e:n / 256=0:=by omega
    rw [e,Zbp];have h2:∀ m:Fin 256,m.val≠0->(Lib.bitLen m.val + 7) / 8=1:=by decide +kernel
    simpa using h2 ⟨n,by omega⟩ h0
theorem ZoN:∀ (k n:Nat),k<=(dig n).length->(dig n).take ((dig n).length - k)=dig (n / 256 ^ k)
 |0,n,_=>by simp
 |k + 1,n,h=>by
  by_cases h0:n=0
  ·subst h0;rw [Zbp] at h;simp at h
  ·rw [Zdn h0] at h ⊢
   rw [List.length_append] at h ⊢;simp only [List.length_cons,List.length_nil] at h ⊢;have e:(dig (n / 256)).length + (0 + 1) - (k + 1)=(dig (n / 256)).length - k:=by omega
   rw [e,List.take_append_of_le_length (by omega),ZoN k (n / 256) (by omega),Nat.div_div_eq_div_mul,Nat.pow_succ,Nat.mul_comm 256]
theorem ZxV {n k:Nat} (h:k<(dig n).length):(dig n)[(dig n).length - 1 - k]'(by omega)=((n / 256 ^ k % 256:Nat):Int):=by
 have h1:=ZoN k n (by omega);have hn:n / 256 ^ k≠0:=by
  intro h0;rw [h0,Zbp] at h1;have:=congrArg List.length h1;simp at this;omega
 rw [Zdn hn] at h1;have h2:((dig n).take ((dig n).length - k)).getLast? =some ((n / 256 ^ k % 256:Nat):Int):=by rw [h1];simp
 rw [List.getLast?_eq_getElem?,List.length_take,Nat.min_eq_left (by omega),List.getElem?_take] at h2;split at h2
 ·rw [List.getElem?_eq_some_iff] at h2
  obtain ⟨h3,h4⟩:=h2;have e:(dig n).length - 1 - k=(dig n).length - k - 1:=by omega
  simp only [e];exact h4
 ·cases h2
def Zec (n:Nat):List Int:=((dig n).length:Int)::dig n
def ZaZ (b:List Int):List Int:=Zec b.length++b
theorem Zj4 {n:Nat} (h:n<18446744073709551616):∀ x∈Zec n,0<=x/\x<256:=by
 intro x hx;rcases List.mem_cons.1 hx with rfl|hx
 ·have:=Zga h;omega
 ·exact ZAO n x hx
theorem Zbn {n:Nat} (h:n<18446744073709551616):(Zec n).length<=9:=by
 have:=Zga h;unfold Zec;simp;omega
def ZaU (l:List Int):Option (Int × Bool × Nat):=
 match l with
 |[]=>none
 |k::rest=>
  let neg:=decide (16<=k)
  let w:=(if 16<=k then k - 16 else k).toNat
  if k<32/\w<=8/\w<=rest.length/\(w=0->k=0)/\(w≠0->rest.head?≠some 0) then some (Zfd 0 (rest.take w),neg,w + 1) else none
theorem ZlO {n:Nat} (h:n<18446744073709551616) (rest:List Int):ZaU (Zec n++rest)=some ((n:Int),false,(Zec n).length):=by
 have h8:=Zga h;unfold ZaU Zec;simp only [List.cons_append];have e1:¬ (16:Int)<=((dig n).length:Int):=by omega
 rw [if_neg e1];rw [if_pos]
 ·simp only [Int.toNat_natCast,List.take_left',ZxU,List.length_cons,Option.some.injEq,Prod.mk.injEq,and_true,true_and]
  simpa using e1
 ·refine ⟨by omega,by omega,by simp,λ h0=>by omega,λ h0=>?_⟩
  simp only [Int.toNat_natCast] at h0;cases hd:dig n with
  |nil=>rw [hd] at h0;simp at h0
  |cons x l=>
   have:=Zvq n x l hd;simp;exact this
theorem ZeF {l:List Int} {n:Int} {neg:Bool} {k:Nat} (hb:∀ x∈l,0<=x/\x<256) (h:ZaU l=some (n,neg,k)):0<=n/\n<18446744073709551616/\1<=k/\k<=9/\k<=l.length:=by
 unfold ZaU at h;split at h
 ·cases h
 ·rename_i c rest
  simp only at h;generalize hw:(if 16<=c then c - 16 else c).toNat=w at h
  split at h
  ·rename_i hc
   obtain ⟨_,h8,hr,_,_⟩:=hc;simp only [Option.some.injEq,Prod.mk.injEq] at h;obtain ⟨rfl,_,rfl⟩:=h;have hb2:∀ x∈rest.take w,0<=x/\x<256:=λ x hx=>hb x (List.mem_cons_of_mem _ (List.mem_of_mem_take hx));refine ⟨Zhs (Int.le_refl _) hb2,?_,by omega,by omega,by simp;omega⟩;refine Int.lt_of_lt_of_le (ZjE (Int.le_refl _) hb2) ?_;rw [List.length_take,Nat.min_eq_left hr,Int.zero_add,Int.one_mul];have h9:256 ^ w<=256 ^ 8:=Nat.pow_le_pow_right (by omega) h8;have:((256 ^ w:Nat):Int)<=((256 ^ 8:Nat):Int):=Int.ofNat_le.2 h9;rw [Int.natCast_pow] at this;exact Int.le_trans this (by decide)
  ·cases h
structure Rd where
 bs:List Int
 bad:Bool
def Zb (most:Int) (r:Rd):Int × Rd:=
 if r.bad then (0,r) else match ZaU r.bs with
 |some (n,neg,k)=>if neg=false/\n<=most then (n,⟨r.bs.drop k,false⟩) else (0,⟨r.bs,true⟩)
 |none=>(0,⟨r.bs,true⟩)
def ZD (most:Int) (r:Rd):List Int × Rd:=
 if r.bad then ([],r) else match ZaU r.bs with
 |some (n,neg,k)=>if neg=false/\0<=most/\n<=most/\n<=((r.bs.length:Int) - k) then (((r.bs.drop k).take n.toNat),⟨r.bs.drop (k + n.toNat),false⟩) else ([],⟨r.bs,true⟩)
 |none=>([],⟨r.bs,true⟩)
def ZF (r:Rd):Bool:=!r.bad && decide (r.bs.length=0)
end Go.VC
namespace Go.Proofs.YtlplemdmegpoeaaGreatDoor
section
open Go Go.VC Tryz
variable {R:Cx} {Hs Rest:List HP} {w:World}
theorem _root_.Go.VC.SlR.mono {h h':ZY} {s:Sl} {xs:List Value} (hs:∀ b o,h b=some o->h' b=some o) (a:SlR h s xs):SlR h' s xs:=
 ⟨a.len,a.cap,λ hx=>let ⟨b,off,l,T,fr,ha,hb,hl⟩:=a.mem hx;⟨b,off,l,T,fr,ha,hs _ _ hb,hl⟩⟩
abbrev Zfb:List PanicEntry:=[⟨.iface 274 (.agg #[]),false,false⟩]
theorem Zda {b:Bool} {Q:Ending->World->Prop} (h1:b=true->Q (.returned (.tuple #[])) w) (h2:b=false->Q (.panicked Zfb) w):nC 152 #[.bool b] w Q:=by
 have h:Zba prog 152 #[.bool b] w (λ ch w'=>b=false/\ch=Zfb/\w'=w) (λ v w'=>b=true/\v=.tuple #[]/\w'=w):=by
  apply Zzo;refine Br.nb (λ h=>?_) (λ h=>?_)
  ·exact ⟨h,rfl,rfl⟩
  ·exact ⟨h,rfl,rfl⟩
 refine h.use ?_ ?_
 ·rintro v w' ⟨hb,rfl,e⟩;rw [e];exact h1 hb
 ·rintro v w' ⟨hb,rfl,e⟩;rw [e];exact h2 hb
abbrev lp (l:Nat) (s:Sl):HP:=pts l (.cells [.slice s.a s.len s.cap].toArray 47 (0,0))
abbrev Zcn (s:Sl) (k:Nat):Sl:=⟨Zck s.a k s.cap 1,s.len - k,s.cap - k⟩
theorem Zhw {l:Nat} {s:Sl} {xs:List Value} {k:Nat} (hr:SlR R.m s xs) (hw:Sat R (lp l s::Hs) w):
  Zba prog 154 #[nP l,nI k] w
   (λ ch w'=>xs.length<k/\ch=Zfb/\Sat R (lp l s::Hs) w')
   (λ v w'=>k<=xs.length/\v=.slice s.a k s.cap/\Sat R (lp l (Zcn s k)::Hs) w'):=by
 have hlen:=hr.len;have hcap:=hr.cap;apply Zzm;refine Zc.mk rfl ⟨s,oA hw,Zda (λ h=>.inl ⟨rfl,?_⟩) (λ h=>.inr ⟨_,rfl,?_⟩)⟩
 ·have h:=of_decide_eq_true h
  refine Zc.mk rfl ⟨s,oA hw,by omega,by omega,Zc.mk rfl ⟨s,oA hw,by omega,by omega,Zc.mk rfl ?_⟩⟩;rw [Int.toNat_natCast];refine sRu hw λ w hw=>?_;exact ⟨by omega,rfl,hw⟩
 ·have h:=of_decide_eq_false h
  exact ⟨by omega,rfl,hw⟩
theorem ZBM:∀ c:Fin 32,Zgf .andNot .u8 ((c.1:Nat):Int) 16=if 16<=((c.1:Nat):Int) then ((c.1:Nat):Int) - 16 else ((c.1:Nat):Int):=by decide +kernel
theorem andn {c:Int} (h0:0<=c) (h1:c<32):wI (Zgf .andNot .u8 c 16)=if 16<=c then c - 16 else c:=by
 obtain ⟨n,rfl⟩:=Int.eq_ofNat_of_zero_le h0;have:=ZBM ⟨n,by omega⟩;simp only at this;rw [this];split<;>exact Zf
theorem ZwR {n t:Int} (h0:0<=n) (h1:n<72057594037927936) (t0:0<=t) (t1:t<256):Zgf .or .u64 (ZvU .u64 n 8) (IntKind.u64.wrap t)=n * 256 + t:=by
 have e:ZvU .u64 n 8=n * 256:=by
  show IntKind.u64.wrap (n * 2 ^ 8)=_;rw [ZP];omega
 rw [e,ZP t0 (by omega)];obtain ⟨a,rfl⟩:=Int.eq_ofNat_of_zero_le h0;obtain ⟨b,rfl⟩:=Int.eq_ofNat_of_zero_le t0;have:=ZAr (x:=a * 256) (y:=b) (by omega) (by omega);rw [Zxc a b (by omega)] at this;rw [show ((a * 256:Nat):Int)=(a:Int) * 256 from Int.natCast_mul a 256] at this
 rw [this];exact (Int.natCast_add (a * 256) b).trans (by rw [Int.natCast_mul];rfl)
abbrev ZmE (c:Int):Nat:=(if 16<=c then c - 16 else c).toNat
theorem Zjm {h:ZY} {l:Nat} {s:Sl} {bs:List Int} (hb:∀ x∈bs,0<=x/\x<256) (hsub:∀ b o,h b=some o->R.m b=some o) (hr0:SlR h s (b8 bs)) (hw:Sat R (lp l s::Hs) w):
  Zba prog 151 #[nP l] w
   (λ ch w'=>ZaU bs=none/\ch=Zfb/\∃ s',Sat R (lp l s'::Hs) w')
   (λ v w'=>∃ n neg k s',ZaU bs=some (n,neg,k)/\v=.tuple #[.int .u64 n,.bool neg]/\SlR h s' (b8 (bs.drop k))/\Sat R (lp l s'::Hs) w'):=by
 have hr:SlR R.m s (b8 bs):=hr0.mono hsub;apply Zzp;refine (Zhw (k:=1) hr hw).use ?_ ?_
 rotate_left
 ·rintro _ w ⟨h,rfl,hw⟩
  refine .inr ⟨_,rfl,?_,rfl,s,hw⟩;cases bs with
  |nil=>rfl
  |cons=>simp at h
 rintro _ w ⟨hlen,rfl,hw⟩;cases bs with
 |nil=>simp at hlen
 |cons c rest=>
 have hc:=hb c List.mem_cons_self;have hbr:∀ x∈rest,0<=x/\x<256:=λ x hx=>hb x (List.mem_cons_of_mem _ hx);refine .inl ⟨⟨s.a,1,s.cap⟩,rfl,?_⟩;have hr1:SlR R.m ⟨s.a,1,s.cap⟩ (b8 [c]):=hr.take (k:=1) hlen;have hrd:SlR R.m (Zcn s 1) (b8 rest):=hr.drop (k:=1) hlen;have:=SlR.idxK (Hs:=lp l (Zcn s 1)::Hs) (S:=λ w'=>w'=w) hr1 (eqS hw) (k:=0) (by simp) (F:=λ t=>t=c) rfl;obtain ⟨h0,h1,this⟩:=this.out;obtain ⟨a,ha,t,hat,rfl⟩:=this.out;refine Rng.mk h0 h1 (Zc.mk ha ⟨t,hat,?_⟩);have hsnone:∀ {p:Prop},¬ p->True:=λ _=>trivial;refine ⟨λ w=>(t<32/\ZmE t<=8/\(ZmE t=0->t=0))/\Sat R (lp l (Zcn s 1)::Hs) w,?_,?_⟩
 ·have bad:(t<32/\ZmE t<=8/\ZmE t<=rest.length/\(ZmE t=0->t=0)/\(ZmE t≠0->rest.head?≠some 0)->False)->ZaU (t::rest)=none:=λ h=>by
   unfold ZaU;simp only;rw [if_neg h]
  refine Br.d (λ h=>?_) (λ h=>?_)
  ·rw [andn hc.1 h]
   refine Br.d (λ h2=>?_) (λ h2=>?_)
   ·refine Br.d (λ h3=>?_) (λ h3=>?_)
    ·exact Zda (λ _=>.inl ⟨rfl,⟨h,by unfold ZmE;omega,λ h4=>by unfold ZmE at h4;omega⟩,hw⟩) (λ h=>by cases h)
    ·refine Zda (λ h4=>.inl ⟨rfl,⟨h,by unfold ZmE;omega,λ h5=>?_⟩,hw⟩) (λ h4=>.inr ⟨_,rfl,bad ?_,rfl,_,hw⟩)
     ·simp only [ge_iff_le,Bool.not_eq_true',decide_eq_false_iff_not] at h4
      rw [if_neg h4] at h3;omega
     ·simp only [ge_iff_le,Bool.not_eq_false',decide_eq_true_eq] at h4
      rintro ⟨_,_,_,h5,_⟩;rw [if_pos h4] at h3;have:=h5 (by unfold ZmE;rw [if_pos h4];omega);omega
   ·exact Zda (λ h=>by cases h) (λ _=>.inr ⟨_,rfl,bad (by rintro ⟨_,h3,_⟩;unfold ZmE at h3;omega),rfl,_,hw⟩)
  ·exact Zda (λ h=>by cases h) (λ _=>.inr ⟨_,rfl,bad (by rintro ⟨h3,_⟩;exact h h3),rfl,_,hw⟩)
 clear hat ha h0 h1;rintro _ w ⟨⟨h32,h8,hz⟩,hw⟩;rw [andn hc.1 h32];have hwid:(if 16<=t then t - 16 else t)=((ZmE t:Nat):Int):=by
  unfold ZmE;rw [Int.toNat_of_nonneg];split<;>omega
 rw [hwid];generalize hW:ZmE t=W at *;refine (Zhw (k:=W) hrd hw).use ?_ ?_
 rotate_left
 ·rintro _ w ⟨h,rfl,hw⟩
  refine .inr ⟨_,rfl,?_,rfl,_,hw⟩;unfold ZaU;simp only;rw [if_neg];rintro ⟨_,_,h3,_⟩;have:ZmE t<=rest.length:=h3;simp at h;omega
 rintro _ w ⟨hl,rfl,hw⟩;have hl:W<=rest.length:=by simpa using hl
 have hrt:SlR R.m ⟨(Zcn s 1).a,W,(Zcn s 1).cap⟩ (b8 (rest.take W)):=by have:=hrd.take (k:=W) (by simpa using hl);rwa [<-List.map_take] at this
 have hlt:(rest.take W).length=W:=by simp;omega
 refine .inl ⟨⟨(Zcn s 1).a,W,(Zcn s 1).cap⟩,rfl,?_⟩;refine ⟨λ n i w=>∃ k:Nat,i=k/\k<=W/\n=Zfd 0 (rest.take k)/\(k≠0->rest.head?≠some 0)/\Sat R (lp l (Zcn (Zcn s 1) W)::Hs) w,λ _ i _=>W - i.toNat,⟨0,rfl,Nat.zero_le _,rfl,λ h=>absurd rfl h,hw⟩,?_⟩;rintro _ _ _ w ⟨k,rfl,hk,rfl,hh,hw⟩;refine Br.d (λ h=>?_) (λ h=>?_)
 ·have hk2:k<W:=by have:((k:Nat):Int)<(W:Int):=h;omega
  have hkr:k<rest.length:=by omega
  have:=SlR.idxK (Hs:=lp l (Zcn (Zcn s 1) W)::Hs) (S:=λ w'=>w'=w) hrt (eqS hw) (k:=k) (by omega) (F:=λ t=>t=rest[k]) (by simp);obtain ⟨h0,h1,this⟩:=this.out;obtain ⟨a,ha,x,hat,rfl⟩:=this.out;refine Rng.mk h0 h1 (Zc.mk ha ⟨_,hat,?_⟩);have hx:=hbr rest[k] (List.getElem_mem _);have hvb:∀ x∈rest.take k,0<=x/\x<256:=λ x hx=>hbr x (List.mem_of_mem_take hx);have hv0:=Zhs (acc:=0) (Int.le_refl _) hvb;have hv1:Zfd 0 (rest.take k)<72057594037927936:=by
   refine Int.lt_of_lt_of_le (ZjE (Int.le_refl _) hvb) ?_;rw [List.length_take,Nat.min_eq_left (by omega),Int.zero_add,Int.one_mul];have h9:256 ^ k<=256 ^ 7:=Nat.pow_le_pow_right (by omega) (by omega);have:((256 ^ k:Nat):Int)<=((256 ^ 7:Nat):Int):=Int.ofNat_le.2 h9;rw [Int.natCast_pow] at this;exact Int.le_trans this (by decide)
  have hstep:∀ w,(rest.head?≠some 0)->Sat R (lp l (Zcn (Zcn s 1) W)::Hs) w->
    (∃ k':Nat,wI ((k:Int) + 1)=k'/\k'<=W/\Zgf .or .u64 (ZvU .u64 (Zfd 0 (rest.take k)) 8) (IntKind.u64.wrap rest[k])=Zfd 0 (rest.take k')/\(k'≠0->rest.head?≠some 0)/\Sat R (lp l (Zcn (Zcn s 1) W)::Hs) w)/\W - (wI ((k:Int) + 1)).toNat<W - (k:Int).toNat:=λ w h1 hw=>by
   rw [Zf];refine ⟨⟨k + 1,by omega,by omega,?_,λ _=>h1,hw⟩,by omega⟩;rw [ZwR hv0 hv1 hx.1 hx.2,List.take_succ_eq_append_getElem hkr,Zd4]
  refine Br.d (λ h3=>?_) (λ h3=>?_)
  ·exact Zda (λ _=>.inl ⟨rfl,hstep _ (hh (by omega)) hw⟩) (λ h=>by cases h)
  ·have hk0:k=0:=by omega
   subst hk0;have hhead:rest.head? =some rest[0]:=by rw [List.head?_eq_getElem?,List.getElem?_eq_getElem hkr]
   refine Zda (λ h4=>.inl ⟨rfl,hstep _ ?_ hw⟩) (λ h4=>.inr ⟨_,rfl,?_,rfl,_,hw⟩)
   ·have h4:=of_decide_eq_true h4
    rw [hhead];intro h5;simp only [Option.some.injEq] at h5;omega
   ·have h4:=of_decide_eq_false h4
    unfold ZaU;simp only;rw [if_neg];rintro ⟨_,_,_,_,h5⟩;have h6:ZmE t≠0:=by omega
    refine h5 h6 ?_;rw [hhead];congr 1;omega
 ·have hkW:k=W:=by have:¬ ((k:Nat):Int)<(W:Int):=h;omega
  subst hkW;refine ⟨Zfd 0 (rest.take k),decide (t >= 16),k + 1,Zcn (Zcn s 1) k,?_,rfl,?_,?_⟩
  ·unfold ZaU;simp only
   have e:(if 16<=t then t - 16 else t).toNat=k:=hW
   rw [e,if_pos ⟨h32,h8,hl,hz,hh⟩]
  ·have:=(hr0.drop (k:=1) hlen).drop (k:=k) (by simpa using hl)
   simpa using this
  ·exact hw
theorem ZjN (n k:Nat) (hk:k<=64):ZgP .u64 (n:Int) (k:Int)=((n / 2 ^ k:Nat):Int):=by
 have e:min ((k:Int).toNat) IntKind.u64.bits=k:=by rw [Int.toNat_natCast];exact Nat.min_eq_left hk
 unfold ZgP;rw [e,Int.fdiv_eq_ediv_of_nonneg _ (by exact Int.le_of_lt (Int.pow_pos (by decide)))];rw [show ((2:Int) ^ k)=((2 ^ k:Nat):Int) from (Int.natCast_pow 2 k).symm]
 exact (Int.natCast_ediv n (2 ^ k)).symm
theorem ZCS (n:Nat):ZgP .u64 (n:Int) 32=((n / 4294967296:Nat):Int):=ZjN n 32 (by omega)
theorem ZCT (n:Nat):ZgP .u64 (n:Int) 16=((n / 65536:Nat):Int):=ZjN n 16 (by omega)
theorem shr8 (n:Nat):ZgP .u64 (n:Int) 8=((n / 256:Nat):Int):=ZjN n 8 (by omega)
theorem ZpY {n:Nat} (hn:n<18446744073709551616) (hw:Sat R Hs w):
  Zm prog 205 #[.int .u64 n] w λ v w'=>v=nI (Lib.bitLen n:Nat)/\Sat R Hs w':=by
 apply ZyR;refine ⟨λ x j w=>∃ m i:Nat,x=m/\j=i/\m<4294967296/\i<=32/\Lib.bitLen n=i + Lib.bitLen m/\Sat R Hs w,?_,?_⟩
 ·refine Br.d (λ h=>?_) (λ h=>?_)
  ·rw [ZCS]
   exact ⟨n / 4294967296,32,rfl,rfl,by omega,by omega,Lib.bitLen_shift32 n (by omega) hn,hw⟩
  ·exact ⟨n,0,rfl,rfl,by omega,by omega,by omega,hw⟩
 rintro _ _ _ w ⟨m,i,rfl,rfl,hm,hi,he,hw⟩;refine ⟨λ x j w=>∃ m i:Nat,x=m/\j=i/\m<65536/\i<=48/\Lib.bitLen n=i + Lib.bitLen m/\Sat R Hs w,?_,?_⟩
 ·refine Br.d (λ h=>?_) (λ h=>?_)
  ·rw [ZCT,Zf]
   exact ⟨m / 65536,i + 16,rfl,by omega,by omega,by omega,by have:=Lib.bitLen_shift16 m (by omega) (by omega);omega,hw⟩
  ·exact ⟨m,i,rfl,rfl,by omega,by omega,he,hw⟩
 clear hm hi he hw;rintro _ _ _ w ⟨m,i,rfl,rfl,hm,hi,he,hw⟩;refine Br.d (λ h=>?_) (λ h=>?_)
 ·rw [shr8,Zk2 (by omega) (by omega)]
  have h8:Lib.bitLen (m / 256)<=8:=Lib.bitLen_le8 ⟨m / 256,by omega⟩;refine ⟨UInt8.ofNat (Lib.bitLen (m / 256)),by omega,?_,?_,hw⟩
  ·rw [Int.toNat_natCast]
   obtain ⟨q,hq⟩:∃ q:Fin 256,q.1=m / 256:=⟨⟨m / 256,by omega⟩,rfl⟩;rw [<-hq];clear hq h8 hw he hi hm h
   revert q
   decide +kernel
  ·have:(UInt8.ofNat (Lib.bitLen (m / 256))).toNat=Lib.bitLen (m / 256):=by simp;omega
   have h2:=Lib.bitLen_shift8 m (by omega) (by omega);rw [this,Zf (x:=((Lib.bitLen (m / 256):Nat):Int)) (by omega) (by omega),Zf (x:=(i:Int) + 8),Zf]
   congr 1;omega
 ·rw [Zk2 (by omega) (by omega)]
  have h8:Lib.bitLen m<=8:=Lib.bitLen_le8 ⟨m,by omega⟩;refine ⟨UInt8.ofNat (Lib.bitLen m),by omega,?_,?_,hw⟩
  ·rw [Int.toNat_natCast]
   obtain ⟨q,hq⟩:∃ q:Fin 256,q.1=m:=⟨⟨m,by omega⟩,rfl⟩;rw [<-hq];clear hq h8 hw he hi hm h
   revert q
   decide +kernel
  ·have:(UInt8.ofNat (Lib.bitLen m)).toNat=Lib.bitLen m:=by simp;omega
   rw [this,Zf (x:=((Lib.bitLen m:Nat):Int)) (by omega) (by omega),Zf]
   congr 1;omega
theorem ZbY {n:Nat} (hn:n<18446744073709551616) (hw:Sat R Hs w):
  Zm prog 128 #[.int .u64 n] w λ v w'=>∃ t:Sl,v=.slice t.a t.len t.cap/\Sat R (Own t 5 (b8 (Zec n))::Hs) w':=by
 apply ZzG;refine (ZpY hn hw).use ?_;rintro _ w ⟨rfl,hw⟩;refine ⟨_,rfl,?_⟩;have hwid:=Zta n hn;have h8:=Zga hn;generalize hL:(dig n).length=L at *;have e:wI ((wI (((Lib.bitLen n:Nat):Int) + 7)).tdiv 8)=(L:Int):=by
  rw [Zf (x:=((Lib.bitLen n:Nat):Int) + 7) (by omega) (by omega),Int.tdiv_eq_ediv_of_nonneg (by omega),Zf];omega
 rw [e,Zk2 (by omega) (by omega)];refine Za hw λ b w hw=>?_;have h0:Sat R (Own ⟨some ⟨b,0,none⟩,1,1⟩ 5 (b8 [(L:Int)])::Hs) w:=Own.of_pts (xs:=b8 [(L:Int)]) (rest:=[]) hw;refine ⟨λ wd out w=>∃ k:Nat,wd=k/\k<=L/\Sat R (Own out 5 (b8 ((L:Int)::(dig n).take (L - k)))::Hs) w,λ wd _ _=>wd.toNat,⟨L,rfl,Nat.le_refl _,by simpa using h0⟩,?_⟩;clear hw h0;rintro _ _ out w ⟨k,rfl,hk,hw⟩;refine Br.d (λ h=>?_) (λ h=>?_)
 ·have e1:wI ((k:Int) - 1)=((k - 1:Nat):Int):=by rw [Zf];omega
  have e2:wI (8 * ((k - 1:Nat):Int))=((8 * (k - 1):Nat):Int):=by rw [Zf];omega
  rw [e1,e2,ZjN n _ (by omega)];refine Ge0.mk (by omega) ?_;have hd:=ZxV (n:=n) (k:=k - 1) (by omega);have hlen:((L:Int)::(dig n).take (L - k)).length<=9:=by simp;omega
  refine ZfL ZqG hw (Zol _) rfl (by rw [List.length_map];omega) (by rw [List.length_map];omega) λ t w hw=>⟨⟨k - 1,rfl,by omega,?_⟩,by show ((k - 1:Nat):Int).toNat<(k:Int).toNat;omega⟩;have e3:((L:Int)::(dig n).take (L - (k - 1)))=((L:Int)::(dig n).take (L - k))++[IntKind.u8.wrap ((n / 2 ^ (8 * (k - 1)):Nat):Int)]:=by
   have e4:L - (k - 1)=(L - k) + 1:=by omega
   rw [e4,List.take_succ_eq_append_getElem (by omega),List.cons_append]
   congr 3
   rw [ZwG,show (2:Nat) ^ (8 * (k - 1))=256 ^ (k - 1) from by rw [Nat.pow_mul],show ((n / 256 ^ (k - 1):Nat):Int) % 256=((n / 256 ^ (k - 1) % 256:Nat):Int) from (Int.natCast_emod _ _).symm,<-hd]
   congr 1;omega
  rw [e3];simpa [b8] using hw
 ·have hk0:k=0:=by omega
  subst hk0;refine ⟨out,rfl,?_⟩;have:(dig n).take (L - 0)=dig n:=List.take_of_length_le (by omega);rw [this] at hw;unfold Zec;rw [hL];exact hw
abbrev ZbE (s:Sl) (bad:Bool):Obj:=.cells [.slice s.a s.len s.cap,.bool bad].toArray 207 (0,0)
def Zaz (r:Nat) (rd:Rd):HP:=exs λ s:Sl=>Zah [pts r (ZbE s rd.bad),Zz s (b8 rd.bs)]
theorem Sat.rd {r:Nat} {rd:Rd}:Sat R (Zaz r rd::Hs) w↔∃ s:Sl,Sat R (pts r (ZbE s rd.bad)::Zz s (b8 rd.bs)::Hs) w:=by
 unfold Zaz;rw [Sat.exs];exact ⟨λ⟨s,h⟩=>⟨s,Sat.star.1 h⟩,λ⟨s,h⟩=>⟨s,Sat.star.2 h⟩⟩
abbrev Ze9 (r:Nat):Obj:=.cells [nP r].toArray 153 (0,0)
theorem Zwa {br r:Nat} {s:Sl} {bad:Bool} {Kr:World->Prop} (hw:Sat R (pts br (Ze9 r)::pts r (ZbE s bad)::Hs) w) (k:∀ w,Sat R (pts br (Ze9 r)::pts r (ZbE s true)::Hs) w->Kr w):
  Z1 prog 223 [nP br] (.panicking Zfb) Kr w:=by
 unfold Z1;refine CallsD.mono (ZvD (some ⟨br,0,none⟩) (.iface 274 (.agg #[])) Kr w ?_) ?_
 ·refine ⟨true,λ w' _=>by kernel_rfl,Br.t rfl ?_⟩
  refine Zc.mk rfl ⟨some ⟨r,0,none⟩,oA hw,Zc.mk rfl ?_⟩;have hw:=hw.swap;refine sRu hw λ w hw=>?_;exact k w hw.swap
 ·rintro e v w' ⟨hy,rfl,hk⟩
  exact ⟨hy,rfl,hk⟩
theorem ZAB {br:Nat} {Kr:World->Prop} (k:Kr w):Z1 prog 223 [nP br] .returning Kr w:=by
 unfold Z1;refine CallsD.mono (ZvC (some ⟨br,0,none⟩) Kr w ?_) ?_
 ·exact ⟨false,λ w' _=>by kernel_rfl,Br.f rfl k⟩
 ·rintro e v w' ⟨hy,rfl,hk⟩
  exact ⟨hy,rfl,hk⟩
theorem ZgT {r:Nat} {rd:Rd} {one:Value} {α:Type} {f:α->List Int} {Hs1:α->List HP} {Hs2:List HP} {G:α->Prop} {N:Prop} (hw:Sat R (Zaz r rd::Hs) w)
  (hone:rd.bad=false->∀ (x:ZY) (l:Nat) (s:Sl) (A B:HP) (w : nW),(∀ b o,x b=some o->(R.add x).m b=some o)->SlR x s (b8 rd.bs)->Sat (R.add x) (lp l s::A::B::Hs) w->
   Zbq prog cl one [nP l] w λ e w'=>
    (e=.returned (.tuple #[])/\∃ y s',G y/\SlR x s' (b8 (f y))/\Sat (R.add x) (lp l s'::A::B::Hs1 y) w')\/
    (e=.panicked Zfb/\N/\∃ s',Sat (R.add x) (lp l s'::A::B::Hs2) w')):
  Zm prog 149 #[nP r,one] w λ v w'=>v=.tuple #[]/\
   ((rd.bad=true/\Sat R (Zaz r rd::Hs) w')\/(rd.bad=false/\∃ y,G y/\Sat R (Zaz r ⟨f y,false⟩::Hs1 y) w')\/(rd.bad=false/\N/\Sat R (Zaz r ⟨rd.bs,true⟩::Hs2) w')):=by
 obtain ⟨s,hw⟩:=Sat.rd.1 hw;apply Zzr;refine Za hw λ br w hw=>?_;refine ⟨_,oA hw,Zc.mk rfl ?_⟩;refine ⟨_,oA hw,Zda (λ h=>.inl ⟨rfl,?_⟩) (λ h=>.inr ⟨_,rfl,?_⟩)⟩
 ·have hbad:rd.bad=false:=by simpa using h
  refine ⟨_,oA hw,Zc.mk rfl ?_⟩;refine ⟨_,oA hw,?_⟩;refine Za hw λ l w hw=>?_;have hw:Sat R (pts l (.cells [.slice none 0 0].toArray 47 (0,0))::pts br (Ze9 r)::pts r (ZbE s rd.bad)::Zz s (b8 rd.bs)::Hs) w:=hw;refine sRu hw λ w hw=>?_;have hw:Sat R (lp l s::pts br (Ze9 r)::pts r (ZbE s rd.bad)::Zz s (b8 rd.bs)::Hs) w:=hw;have hw:Sat R (Zz s (b8 rd.bs)::lp l s::pts br (Ze9 r)::pts r (ZbE s rd.bad)::Hs) w:=hw.arr;obtain ⟨x,hd,_,hx,hs⟩:=Zz.lend hw;have hsub:∀ b o,x b=some o->(R.add x).m b=some o:=λ b o hb=>by
   have:=hd b (by rw [hb];simp);simp only [Cx.add,ZY.add,this,hb]
  refine Zbq.mono (hone hbad x l s _ _ w hsub hs hx) ?_;rintro e w' (⟨rfl,bs',s',hg,hs',hw⟩|⟨rfl,hn,s',hw⟩)
  ·refine .inl ⟨rfl,?_⟩
   have hw:Sat (R.add x) (pts br (Ze9 r)::pts r (ZbE s rd.bad)::lp l s'::Hs1 bs') w':=hw.arr;refine ⟨_,oA hw,?_⟩;refine ⟨_,oA hw,Zc.mk rfl ?_⟩;have hw:Sat (R.add x) (pts r (ZbE s rd.bad)::lp l s'::pts br (Ze9 r)::Hs1 bs') w':=hw.arr;refine sRu hw λ w hw=>?_;refine ZAB ⟨rfl,.inr (.inl ⟨hbad,bs',hg,?_⟩)⟩;have hw:Sat (R.add x) (pts r (ZbE s' rd.bad)::lp l s'::pts br (Ze9 r)::Hs1 bs') w:=hw;rw [hbad] at hw;have hw:Sat (R.add x) (pts r (ZbE s' false)::Hs1 bs') w:=hw.cons λ _ h=>h.drop.drop;refine Sat.rd.2 ⟨s',?_⟩;exact (Zz.back hd hs' hw).swap
  ·refine .inr ⟨_,rfl,?_⟩
   have hw:Sat (R.add x) (pts br (Ze9 r)::pts r (ZbE s rd.bad)::lp l s'::Hs2) w':=hw.arr;refine Zwa hw λ w hw=>⟨rfl,.inr (.inr ⟨hbad,hn,?_⟩)⟩;have hw:Sat (R.add x) (pts r (ZbE s true)::Hs2) w:=hw.drop.cons λ _ h=>h.drop;refine Sat.rd.2 ⟨s,?_⟩;exact (Zz.back hd hs hw).swap
 ·have hbad:rd.bad=true:=by simpa using h
  have hw:Sat R (pts br (Ze9 r)::pts r (ZbE s rd.bad)::Zz s (b8 rd.bs)::Hs) w:=hw;refine Zwa hw λ w hw=>⟨rfl,.inl ⟨hbad,?_⟩⟩;rw [<-hbad] at hw;exact Sat.rd.2 ⟨s,hw.drop⟩
theorem Zbq.mk {g:FuncId} {captured:Array Value} {args:List Value} {Q:Ending->World->Prop} (hc:cl g=true) (h:Calls prog g (args++captured.toList).toArray w Q):Zbq prog cl (.func (.func g) #[] captured) args w Q:=by
 unfold Zbq;simp only [hc];exact h
theorem Zmi {s:Sl} {bs:List Int} (hs:Ro R s (b8 bs)) (hl:bs.length<=1099511627776) (hw:Sat R Hs w):
  Zm prog 91 #[.slice s.a s.len s.cap] w λ v w'=>∃ r,v=nP r/\Sat R (Zaz r ⟨bs,false⟩::Hs) w':=by
 apply ZA1;refine (ZeR hs hl hw).u1 λ t w hw=>?_;refine ⟨t,rfl,?_⟩;have hw:=Own.reads hw;refine Za hw λ r w hw=>⟨r,rfl,Sat.rd.2 ⟨t,hw⟩⟩
theorem ZiJ {r:Nat} {rd:Rd} (hw:Sat R (Zaz r rd::Hs) w):
  Zm prog 96 #[nP r] w λ v w'=>v=.bool (ZF rd)/\Sat R (Zaz r rd::Hs) w':=by
 obtain ⟨s,hw⟩:=Sat.rd.1 hw;have hsl:s.len=rd.bs.length:=by
  obtain ⟨x,_,_,_,hx⟩:=Zz.lend hw.swap;have:=hx.len;simpa using this
 apply ZAX;refine Zc.mk rfl ⟨rd.bad,oA hw,Br.nb (λ h=>?_) (λ h=>?_)⟩
 ·refine Zc.mk rfl ?_
  refine ⟨s,oA hw,?_,Sat.rd.2 ⟨s,hw⟩⟩;unfold ZF;rw [h,hsl]
  congr 1
  simp only [Bool.not_false,Bool.true_and];cases rd.bs with
  |nil=>rfl
  |cons=>simp;omega
 ·refine ⟨?_,Sat.rd.2 ⟨s,hw⟩⟩
  unfold ZF;rw [h];rfl
theorem Zsf {h:ZY} {l bm bo:Nat} {s:Sl} {bs:List Int} {most:Int} (hb:∀ x∈bs,0<=x/\x<256) (hsub:∀ b o,h b=some o->R.m b=some o) (hr:SlR h s (b8 bs))
  (hw:Sat R (lp l s::pts bo (.cells [.int .u64 0].toArray 141 (0,0))::pts bm (.cells [.int .u64 most].toArray 141 (0,0))::Hs) w):
  Zba prog 150 #[nP l,nP bm,nP bo] w
   (λ ch w'=>ch=Zfb/\(∀ n k,ZaU bs=some (n,false,k)->¬ n<=most)/\∃ s',Sat R (lp l s'::pts bo (.cells [.int .u64 0].toArray 141 (0,0))::pts bm (.cells [.int .u64 most].toArray 141 (0,0))::Hs) w')
   (λ v w'=>v=.tuple #[]/\∃ n k s',ZaU bs=some (n,false,k)/\n<=most/\SlR h s' (b8 (bs.drop k))/\
    Sat R (lp l s'::pts bo (.cells [.int .u64 n].toArray 141 (0,0))::pts bm (.cells [.int .u64 most].toArray 141 (0,0))::Hs) w'):=by
 apply Zzq;refine (Zjm hb hsub hr hw).use ?_ ?_
 rotate_left
 ·rintro _ w ⟨hp,rfl,s',hw⟩
  refine .inr ⟨_,rfl,rfl,?_,s',hw⟩;intro n k h;rw [hp] at h;cases h
 rintro _ w ⟨n,neg,k,s',hp,rfl,hs',hw⟩;refine .inl ⟨n,neg,rfl,Br.nb (λ h=>?_) (λ h=>?_)⟩
 ·subst h
  have hw2:Sat R (pts bm (.cells [.int .u64 most].toArray 141 (0,0))::lp l s'::pts bo (.cells [.int .u64 0].toArray 141 (0,0))::Hs) w:=hw.arr;refine Zc.mk rfl ?_;refine ⟨most,oA hw,Zda (λ h=>.inl ⟨rfl,?_⟩) (λ h=>.inr ⟨_,rfl,rfl,?_,s',hw⟩)⟩
  ·have h:=of_decide_eq_true h
   have hw:Sat R (pts bo (.cells [.int .u64 0].toArray 141 (0,0))::lp l s'::pts bm (.cells [.int .u64 most].toArray 141 (0,0))::Hs) w:=hw.swap;refine sRu hw λ w hw=>?_;exact ⟨rfl,n,k,s',hp,h,hs',hw.swap⟩
  ·have h:=of_decide_eq_false h
   intro n' k' hp';rw [hp] at hp';simp only [Option.some.injEq,Prod.mk.injEq,true_and] at hp';rw [<-hp'.1];exact h
 ·subst h
  refine Zda (λ h=>by cases h) (λ _=>.inr ⟨_,rfl,rfl,?_,s',hw⟩);intro n' k' hp';rw [hp] at hp';simp at hp'
theorem ZhG {r:Nat} {rd:Rd} {most:Int} (hb:∀ x∈rd.bs,0<=x/\x<256) (hw:Sat R (Zaz r rd::Hs) w):
  Zm prog 93 #[nP r,.int .u64 most] w λ v w'=>v=.int .u64 (Zb most rd).1/\Sat R (Zaz r (Zb most rd).2::Hs) w':=by
 apply ZAZ;refine Za hw λ bm w hw=>Za hw λ bo w hw=>?_;have hw:Sat R (pts bo (.cells [.int .u64 0].toArray 141 (0,0))::pts bm (.cells [.int .u64 most].toArray 141 (0,0))::Zaz r rd::Hs) w:=hw;refine sRu hw λ w hw=>?_;have hw:=hw.re (pts bo (.cells [.int .u64 0].toArray 141 (0,0)));have hw:Sat R (Zaz r rd::pts bo (.cells [.int .u64 0].toArray 141 (0,0))::pts bm (.cells [.int .u64 most].toArray 141 (0,0))::Hs) w:=hw.arr;refine (ZgT (α:=Int × Nat) (f:=λ y=>rd.bs.drop y.2) (G:=λ y=>ZaU rd.bs=some (y.1,false,y.2)/\y.1<=most) (N:=∀ n k,ZaU rd.bs=some (n,false,k)->¬ n<=most)
  (Hs1:=λ y=>pts bo (.cells [.int .u64 y.1].toArray 141 (0,0))::pts bm (.cells [.int .u64 most].toArray 141 (0,0))::Hs)
  (Hs2:=pts bo (.cells [.int .u64 0].toArray 141 (0,0))::pts bm (.cells [.int .u64 most].toArray 141 (0,0))::Hs) hw ?_).use ?_
 ·intro _ x l s A B w hsub hs hw
  refine Zbq.mk (by kernel_rfl) ?_;have hw2:Sat (R.add x) (lp l s::pts bo (.cells [.int .u64 0].toArray 141 (0,0))::pts bm (.cells [.int .u64 most].toArray 141 (0,0))::A::B::Hs) w:=hw.arr;refine (Zsf (h:=x) hb hsub hs hw2).use ?_ ?_
  ·rintro _ w ⟨rfl,n,k,s',hp,hn,hs',hw⟩
   exact .inl ⟨rfl,(n,k),s',⟨hp,hn⟩,hs',hw.arr⟩
  ·rintro _ w ⟨rfl,hn,s',hw⟩
   exact .inr ⟨rfl,hn,s',hw.arr⟩
 ·rintro _ w ⟨rfl,h⟩
  refine ⟨rfl,?_⟩;rcases h with ⟨hbad,hw⟩|⟨hbad,⟨n,k⟩,⟨hp,hn⟩,hw⟩|⟨hbad,hno,hw⟩
  ·have hw:Sat R (pts bo (.cells [.int .u64 0].toArray 141 (0,0))::Zaz r rd::pts bm (.cells [.int .u64 most].toArray 141 (0,0))::Hs) w:=hw.swap
   refine ⟨0,oA hw,?_⟩;unfold Zb;rw [if_pos hbad];exact ⟨rfl,hw.drop.cons λ _ h=>h.drop⟩
  ·have hw:Sat R (pts bo (.cells [.int .u64 n].toArray 141 (0,0))::Zaz r ⟨rd.bs.drop k,false⟩::pts bm (.cells [.int .u64 most].toArray 141 (0,0))::Hs) w:=hw.swap
   refine ⟨n,oA hw,?_⟩;unfold Zb;rw [if_neg (by rw [hbad];simp),hp];simp only;rw [if_pos (by simpa using hn)];exact ⟨rfl,hw.drop.cons λ _ h=>h.drop⟩
  ·have hw:Sat R (pts bo (.cells [.int .u64 0].toArray 141 (0,0))::Zaz r ⟨rd.bs,true⟩::pts bm (.cells [.int .u64 most].toArray 141 (0,0))::Hs) w:=hw.swap
   refine ⟨0,oA hw,?_⟩;have e:Zb most rd=(0,⟨rd.bs,true⟩):=by
    unfold Zb;rw [if_neg (by rw [hbad];simp)];cases hp:ZaU rd.bs with
    |none=>rfl
    |some p=>
     obtain ⟨n,neg,k⟩:=p;simp only;rw [if_neg];rintro ⟨rfl,h⟩;exact hno n k hp h
   rw [e];exact ⟨rfl,hw.drop.cons λ _ h=>h.drop⟩
theorem Zd {most:Int} {rd:Rd} (hb:∀ x∈rd.bs,0<=x/\x<256):∀ x∈(Zb most rd).2.bs,0<=x/\x<256:=by
 unfold Zb;split
 ·exact hb
 ·split
  ·split
   ·exact λ x hx=>hb x (List.mem_of_mem_drop hx)
   ·exact hb
  ·exact hb
theorem Zn {most:Int} {rd:Rd} (hb:∀ x∈rd.bs,0<=x/\x<256) (hm:0<=most):0<=(Zb most rd).1/\(Zb most rd).1<=most:=by
 unfold Zb;split
 ·exact ⟨Int.le_refl _,hm⟩
 ·split
  ·rename_i n neg k hp
   split
   ·rename_i h;exact ⟨(ZeF hb hp).1,h.2⟩
   ·exact ⟨Int.le_refl _,hm⟩
  ·exact ⟨Int.le_refl _,hm⟩
end
end Go.Proofs.YtlplemdmegpoeaaGreatDoor

namespace Go.VC
section
variable {P:Program} {R:Cx} {Hs Rest:List HP} {w:World} {s t:Sl} {T T2:TypeId}
theorem ZfP (k:IntKind) (xs:List Int):ZaE (xs.map (Value.int k))=true:=by
 induction xs with
 |nil=>rfl
 |cons x xs ih=>simp only [List.map_cons,ZaE,List.all_cons,Bool.and_eq_true];exact ⟨rfl,ih⟩
theorem ZbH {b n:Nat} {l:List Value} {fr:Nat × Nat} (hw:Sat R (pts b (.cells l.toArray T fr)::Hs) w) (hn:n=l.length:=by rfl) (hf:Zna l.length fr:=by first|assumption|exact Or.inl rfl):Sat R (Own ⟨some ⟨b,0,none⟩,n,n⟩ T l::Hs) w:=by
 subst hn;have:=Own.of_pts (xs:=l) (rest:=[]) (by simpa using hw) (by simpa using hf);simpa using this
theorem Zho {t1 t2 ty e':TypeId} {bytes n:Nat} {k:IntKind} (E:El P t1 t2 T bytes) {xs ys:List Int} {K:Sl->World->Prop} (h2:P.underlying t2=some (.slice e'))
  (hw:Sat R (Own s T (xs.map (Value.int k))::Hs) w) (hy:Ro R t (ys.map (Value.int k))) (hn:xs.length + ys.length<=n) (hb:2 * n * bytes<=281474976710656) (hb':n<=9223372036854775807)
  (kk:∀ s' w',Sat R (Own s' T ((xs++ys).map (Value.int k))::Hs) w'->K s' w'):
  ∃ w',∃ t':Sl,(Builtin.append_ #[t1,t2] ty #[.slice s.a s.len s.cap,.slice t.a t.len t.cap]).run P w=.ok (.slice t'.a t'.len t'.cap) w'/\K t' w':=by
 have hsrc:Src P 1 t2 (.slice t.a t.len t.cap) ys.length (ys.map (Value.int k)) w:=by
  have:=ZwQ h2 hw hy (ZfP _ _);simpa using this
 refine ZcY E (s:=s) hw hsrc (ZfP _ _) ?_ (by rw [List.length_map];omega) λ s2 w hw=>kk s2 w (by simpa using hw);rw [List.length_map];have:2 * (xs.length + ys.length) * bytes<=2 * n * bytes:=Nat.mul_le_mul_right _ (by omega);omega
theorem Zde {t1 t2 ty e':TypeId} {bytes n:Nat} {k:IntKind} (E:El P t1 t2 T bytes) {xs ys:List Int} {K:Sl->World->Prop} (h2:P.underlying t2=some (.slice e'))
  (hw:Sat R (Own s T (xs.map (Value.int k))::Own t T2 (ys.map (Value.int k))::Hs) w) (hn:xs.length + ys.length<=n) (hb:2 * n * bytes<=281474976710656) (hb':n<=9223372036854775807)
  (kk:∀ s' w',Sat R (Own s' T ((xs++ys).map (Value.int k))::Own t T2 (ys.map (Value.int k))::Hs) w'->K s' w'):
  ∃ w',∃ t':Sl,(Builtin.append_ #[t1,t2] ty #[.slice s.a s.len s.cap,.slice t.a t.len t.cap]).run P w=.ok (.slice t'.a t'.len t'.cap) w'/\K t' w':=by
 obtain ⟨R',hr,_,hw,back⟩:=Own.lend hw.swap (by rw [List.length_map];omega);exact Zho E h2 hw hr hn hb hb' λ s' w' hw=>kk s' w' (back hw).swap
theorem Ro.ix {k:IntKind} {xs:List Int} {S:World->Prop} {i:Int} (hr:Ro R s (xs.map (Value.int k))) (hS:∀ w,S w->Sat R Hs w) (j:Nat) (hi:i=j) (hj:j<xs.length) {F:Int->Prop} (h:F xs[j]):
  Rng i s.len (Zc s.a λ a=>∃ t:Int,(At S (a.add i.toNat) [.int k t])/\F t):=by
 subst hi;exact hr.idxK hS hj h
theorem SlR.ix {k:IntKind} {xs:List Int} {S:World->Prop} {i:Int} (hr:SlR R.m s (xs.map (Value.int k))) (hS:∀ w,S w->Sat R Hs w) (j:Nat) (hi:i=j) (hj:j<xs.length) {F:Int->Prop} (h:F xs[j]):
  Rng i s.len (Zc s.a λ a=>∃ t:Int,(At S (a.add i.toNat) [.int k t])/\F t):=by
 subst hi;exact hr.idxK hS hj h
end
section
variable {P:Program} {R R' R'':Cx} {Hs Rest:List HP} {w:World} {s:Sl} {T:TypeId}
structure Cx.Ext (R R':Cx):Prop where
 m:∀ b o,R.m b=some o->R'.m b=some o
 like:R'.like R
theorem Cx.Ext.refl:R.Ext R:=⟨λ _ _ h=>h,rfl,rfl,rfl⟩
theorem Cx.Ext.trans (h:R.Ext R') (h':R'.Ext R''):R.Ext R'':=
 ⟨λ b o hb=>h'.m b o (h.m b o hb),h.like.1.trans h'.like.1,h.like.2.1.trans h'.like.2.1,h.like.2.2.trans h'.like.2.2⟩
theorem Cx.Ext.add {h:ZY}:R.Ext (R.add h):=⟨λ b o hb=>by simp only [Cx.add,ZY.add,hb],rfl,rfl,rfl⟩
theorem Cx.Ext.back (h:R.Ext R') (hw:Sat R' Hs w):Sat R Hs w:=Sat.ro_of h.m h.like hw
theorem Cx.Ext.ro {xs:List Value} (h:R.Ext R') (a:Ro R s xs):Ro R' s xs:=
 ⟨a.len,a.bound,λ hx=>let ⟨b,off,l,T,fr,h1,h2,h3⟩:=a.mem hx;⟨b,off,l,T,fr,h1,h.m _ _ h2,h3⟩⟩
theorem Cx.Ext.roN {n:Nat} {xs:List (List Value)} (h:R.Ext R') (a:RoN n R s xs):RoN n R' s xs:=
 ⟨a.wid,a.len,λ hx=>let ⟨b,off,l,T,fr,h1,h2,h3⟩:=a.mem hx;⟨b,off,l,T,fr,h1,h.m _ _ h2,h3⟩⟩
theorem Cx.Ext.slR {xs:List Value} (h:R.Ext R') (a:SlR R.m s xs):SlR R'.m s xs:=
 ⟨a.len,a.cap,λ hx=>let ⟨b,off,l,T,fr,h1,h2,h3⟩:=a.mem hx;⟨b,off,l,T,fr,h1,h.m _ _ h2,h3⟩⟩
theorem Zz.leak {xs:List Value} (h:Sat R (Zz s xs::Hs) w):∃ R':Cx,R.Ext R'/\SlR R'.m s xs/\Sat R' Hs w:=by
 obtain ⟨x,_,h1,h2,_⟩:=Zz.lend h;exact ⟨_,.add,h1,h2⟩
theorem Own.leak {xs:List Value} (h:Sat R (Own s T xs::Hs) w):∃ R':Cx,R.Ext R'/\SlR R'.m s xs/\Sat R' Hs w:=Zz.leak (Own.reads h)
theorem Zs.leak {n:Nat} {rows:List (List Value)} (h:Sat R (Zs n s T rows::Hs) w):∃ R':Cx,R.Ext R'/\RoN n R' s rows/\Sat R' Hs w:=by
 obtain ⟨R',h1,⟨x,rfl⟩,h2,_⟩:=Zs.lend h;exact ⟨_,.add,h1,h2⟩
end
end Go.VC
namespace Go.Proofs.YtlplemdmegpoeaaGreatDoor
section
open Go Go.VC Tryz
set_option maxRecDepth 10000
def B166 (c:Sl) (K:nK) (w : nW):Prop:=
 Br c.a.isNone
 (K (.slice none 0 0) w)
 (New (.cells #[] 3 (0,0)) (λ e f=>
 ∃ d:World,∃ b:Sl,((Builtin.append_ #[30,30] 30 #[.slice ((some ⟨e,0,none⟩)) 0 0,c.v]).run prog f=.ok (b.v) d)/\
 K (b.v) d) w)
theorem Zzh (b:Sl) (K:nK) (w : nW) (h:B166 b K w):Zm prog 166 #[b.v] w K:=cq (sk:=.leaf) h func166
def B212 (b:Sl) (e:Value) (K:nK) (w : nW):Prop:=
 nC 272 #[b.v,e] w λ d f=>
 ∃ c,(d=.returned (nI c))/\
 K (.bool (decide (c >= 0))) f
theorem ZyP (b:Sl) (c:Value) (K:nK) (w : nW) (h:B212 b c K w):Zm prog 212 #[b.v,c] w K:=cq (sk:=.leaf) h func212
def B272 (e:Sl) (m:Value) (K:nK) (w : nW):Prop:=
 ∃ (d:Int->World->Prop) (j:Int->World->Nat),(d 0 w)/\∀ (o:Env) (b:Int) (c:World),d b c->
 Br (decide (b<(↑e.len:Int)))
 (Rng b e.len (Zc e.a λ k=>
 ∃ g,(Aw c (Addr.add k b.toNat) [nI g])/\
 Zbq prog cl m [nI g] c λ l f=>
 ∃ i,(l=.returned (.bool i))/\
 Br i
 (K (nI b) f)
 ((d (wI (b + 1)) f)/\j (wI (b + 1)) f<j b c)))
 (K (nI ((-1))) c)
def ZB7:Sk:=(.seq .leaf (.seq (.seq .leaf (.block (.loop [8] [(.int .i64)] [4,5,8,9,10,11,12,13,14,15,16,17,18] .leaf))) .leaf))
theorem Zyh (b:Sl) (c:Value) (K:nK) (w : nW) (h:B272 b c K w):Zm prog 272 #[b.v,c] w K:=cq (sk:=ZB7) h func272
def B249 (b:Sl) (d:Int) (c:Sl) (K:nK) (w : nW):Prop:=
 ((0:Int)<=d)/\
 ((d:Int)<=(↑b.len:Int))/\
 Br ((↑c.len:Int)==0)
 (K (.slice b.a b.len b.cap) w)
 (Br (d==(↑b.len:Int))
 (∃ i:World,∃ f:Sl,((Builtin.append_ #[30,30] 30 #[.slice b.a b.len b.cap,.slice c.a c.len c.cap]).run prog w=.ok (.slice f.a f.len f.cap) i)/\
 K (.slice f.a f.len f.cap) i)
 (Br (decide (wI ((↑b.len:Int) + (↑c.len:Int))>(↑b.cap:Int)))
 (((0:Int)<=d)/\
 ((d:Int)<=(↑b.cap:Int))/\
 ∃ k:World,∃ e:Sl,((Builtin.append_ #[30,3] 30 #[.slice b.a d.toNat b.cap,nI (wI (wI ((↑b.len:Int) + (↑c.len:Int)) - d))]).run prog w=.ok (.slice e.a e.len e.cap) k)/\
 ((0:Int)<=d)/\
 ((d:Int)<=(↑e.len:Int))/\
 ∃ l:World,∃ s:Int,((Builtin.copy_ #[30,30] 3 #[.slice (Zck e.a d.toNat e.cap 1) (e.len - d.toNat) (e.cap - d.toNat),.slice c.a c.len c.cap]).run prog k=.ok (nI s) l)/\
 Drw l λ C z=>
 ((0:Int)<=wI (d + (↑c.len:Int)))/\
 ((wI (d + (↑c.len:Int)):Int)<=(↑e.len:Int))/\
 ((0:Int)<=d)/\
 ((d:Int)<=(↑b.len:Int))/\
 ∃ m:World,∃ t:Int,((Builtin.copy_ #[30,30] 3 #[.slice (Zck e.a (wI (d + (↑c.len:Int))).toNat e.cap 1) (e.len - (wI (d + (↑c.len:Int))).toNat) (e.cap - (wI (d + (↑c.len:Int))).toNat),.slice (Zck b.a d.toNat b.cap 1) (b.len - d.toNat) (b.cap - d.toNat)]).run prog z=.ok (nI t) m)/\
 K (.slice e.a e.len e.cap) m)
 (((0:Int)<=wI ((↑b.len:Int) + (↑c.len:Int)))/\
 ((wI ((↑b.len:Int) + (↑c.len:Int)):Int)<=(↑b.cap:Int))/\
 ((0:Int)<=wI (d + (↑c.len:Int)))/\
 ((wI (d + (↑c.len:Int)):Int)<=(↑(wI ((↑b.len:Int) + (↑c.len:Int))).toNat:Int))/\
 Ext prog 282 #[.slice c.a c.len c.cap,.slice (Zck b.a (wI (d + (↑c.len:Int))).toNat b.cap 1) ((wI ((↑b.len:Int) + (↑c.len:Int))).toNat - (wI (d + (↑c.len:Int))).toNat) (b.cap - (wI (d + (↑c.len:Int))).toNat)] w λ q n=>
 ∃ g,(q=.returned (.bool g))/\
 Br (!g)
 (Drw n λ D A=>
 ((0:Int)<=wI (d + (↑c.len:Int)))/\
 ((wI (d + (↑c.len:Int)):Int)<=(↑(wI ((↑b.len:Int) + (↑c.len:Int))).toNat:Int))/\
 ((0:Int)<=d)/\
 ((d:Int)<=(↑(wI ((↑b.len:Int) + (↑c.len:Int))).toNat:Int))/\
 ∃ o:World,∃ u:Int,((Builtin.copy_ #[30,30] 3 #[.slice (Zck b.a (wI (d + (↑c.len:Int))).toNat b.cap 1) ((wI ((↑b.len:Int) + (↑c.len:Int))).toNat - (wI (d + (↑c.len:Int))).toNat) (b.cap - (wI (d + (↑c.len:Int))).toNat),.slice (Zck b.a d.toNat b.cap 1) ((wI ((↑b.len:Int) + (↑c.len:Int))).toNat - d.toNat) (b.cap - d.toNat)]).run prog A=.ok (nI u) o)/\
 ((0:Int)<=d)/\
 ((d:Int)<=(↑(wI ((↑b.len:Int) + (↑c.len:Int))).toNat:Int))/\
 ∃ p:World,∃ v:Int,((Builtin.copy_ #[30,30] 3 #[.slice (Zck b.a d.toNat b.cap 1) ((wI ((↑b.len:Int) + (↑c.len:Int))).toNat - d.toNat) (b.cap - d.toNat),.slice c.a c.len c.cap]).run prog o=.ok (nI v) p)/\
 K (.slice b.a ((wI ((↑b.len:Int) + (↑c.len:Int))).toNat) b.cap) p)
 (((0:Int)<=(↑b.len:Int))/\
 (((↑b.len:Int):Int)<=(↑(wI ((↑b.len:Int) + (↑c.len:Int))).toNat:Int))/\
 ∃ j:World,∃ x:Int,((Builtin.copy_ #[30,30] 3 #[.slice (Zck b.a (↑b.len:Int).toNat b.cap 1) ((wI ((↑b.len:Int) + (↑c.len:Int))).toNat - (↑b.len:Int).toNat) (b.cap - (↑b.len:Int).toNat),.slice c.a c.len c.cap]).run prog n=.ok (nI x) j)/\
 ((0:Int)<=d)/\
 ((d:Int)<=(↑(wI ((↑b.len:Int) + (↑c.len:Int))).toNat:Int))/\
 nC 283 #[.slice (Zck b.a d.toNat b.cap 1) ((wI ((↑b.len:Int) + (↑c.len:Int))).toNat - d.toNat) (b.cap - d.toNat),nI ((↑c.len:Int))] j λ r y=>
 (r=.returned (.tuple #[]))/\
 K (.slice b.a ((wI ((↑b.len:Int) + (↑c.len:Int))).toNat) b.cap) y))))
theorem Zyr (b:Sl) (d:Int) (c:Sl) (K:nK) (w : nW) (h:B249 b d c K w):Zm prog 249 #[.slice b.a b.len b.cap,nI d,.slice c.a c.len c.cap] w K:=cq (sk:=.leaf) h func249
def B248 (e:Sl) (k:Int) (K:nK) (w : nW):Prop:=
 ∃ (g:Int->Int->World->Prop) (j:Int->Int->World->Nat),(g 0 ((↑e.len:Int)) w)/\∀ (A:Env) (b:Int) (c:Int) (d:World),g b c d->
 Br (decide (b<c))
 (Rng (wI (ZgP IntKind.u64 (IntKind.u64.wrap (wI (b + c))) 1)) e.len (Zc e.a λ s=>
 ∃ l,(Aw d (Addr.add s ((wI (ZgP IntKind.u64 (IntKind.u64.wrap (wI (b + c))) 1)).toNat)) [nI l])/\
 nC 267 #[nI l,nI k] d λ v i=>
 ∃ m,(v=.returned (.bool m))/\
 Br m
 ((g (wI (wI (ZgP IntKind.u64 (IntKind.u64.wrap (wI (b + c))) 1) + 1)) c i)/\j (wI (wI (ZgP IntKind.u64 (IntKind.u64.wrap (wI (b + c))) 1) + 1)) c i<j b c d)
 ((g b (wI (ZgP IntKind.u64 (IntKind.u64.wrap (wI (b + c))) 1)) i)/\j b (wI (ZgP IntKind.u64 (IntKind.u64.wrap (wI (b + c))) 1)) i<j b c d)))
 (Br (decide (b<(↑e.len:Int)))
 (Rng b e.len (Zc e.a λ t=>
 ∃ n,(Aw d (Addr.add t b.toNat) [nI n])/\
 Br (n==k)
 (K (.tuple #[nI b,.bool true]) d)
 (Rng b e.len (Zc e.a λ u=>
 ∃ o,(Aw d (Addr.add u b.toNat) [nI o])/\
 nC 281 #[nI o] d λ x r=>
 ∃ p,(x=.returned (.bool p))/\
 Br p
 (nC 281 #[nI k] r λ y z=>
 ∃ q,(y=.returned (.bool q))/\
 K (.tuple #[nI b,.bool q]) z)
 (K (.tuple #[nI b,.bool false]) r)))))
 (K (.tuple #[nI b,.bool false]) d))
def ZCb:Sk:=(.seq .leaf (.seq .leaf (.seq .leaf (.seq (.block (.loop [7,8] [(.int .i64),(.int .i64)] [7,8,9,13,14,15,16,17,18,19,20,21,22,23,24,25,26,27,28,29,30] .leaf)) .leaf))))
theorem Zys (b:Sl) (c:Int) (K:nK) (w : nW) (h:B248 b c K w):Zm prog 248 #[b.v,nI c] w K:=cq (sk:=ZCb) h func248
def B267 (a:Int) (b:Int) (K:nK) (w : nW):Prop:=
 nC 278 #[nI a] w λ g e=>
 ∃ c,(g=.returned (.bool c))/\
 Br c
 (nC 278 #[nI b] e λ i f=>
 ∃ d,(i=.returned (.bool d))/\
 Br (!d)
 (K (.bool true) f)
 (K (.bool (decide (a<b))) f))
 (K (.bool (decide (a<b))) e)
theorem Zyi (a:Int) (b:Int) (K:nK) (w : nW) (h:B267 a b K w):Zm prog 267 #[nI a,nI b] w K:=cq (sk:=.leaf) h func267
def B281 (a:Int) (K:nK) (w : nW):Prop:=
 K (.bool (a !=a)) w
theorem Zyd (a:Int) (K:nK) (w : nW) (h:B281 a K w):Zm prog 281 #[nI a] w K:=cq (sk:=.leaf) h func281
def B278 (a:Int) (K:nK) (w : nW):Prop:=
 K (.bool (a !=a)) w
theorem Ztw (a:Int) (K:nK) (w : nW) (h:B278 a K w):Zm prog 278 #[nI a] w K:=cq (sk:=.leaf) h func278
def B165 (s:Int) (j:Sl) (K:nK) (w : nW):Prop:=
 New (.cells #[nI s,j.v] 37 (0,0)) (λ d c=>
 ∃ o,(Aw c ⟨d,0,none⟩ [nI o])/\
 Br (decide (o<1))
 (K (.bool false) c)
 (∃ p,(Aw c ⟨d,0,none⟩ [nI p])/\
 Br (decide (p>60))
 (K (.bool false) c)
 (∃ g:Sl,(Aw c ⟨d,0 + 1,none⟩ [g.v])/\
 Br (decide ((↑g.len:Int)<1))
 (K (.bool false) c)
 (∃ i:Sl,(Aw c ⟨d,0 + 1,none⟩ [i.v])/\
 Br (decide ((↑i.len:Int)>4))
 (K (.bool false) c)
 (∃ e:Sl,(Aw c ⟨d,0 + 1,none⟩ [e.v])/\
 nC 212 #[e.v,.func (.func 237) #[] #[]] c λ q k=>
 ∃ l,(q=.returned (.bool l))/\
 Br l
 (K (.bool false) k)
 (∃ m,∃ f:Sl,(Aw k ⟨d,0,none⟩ [nI m,f.v])/\
 nC 236 #[.agg #[nI m,f.v]] k λ r t=>
 ∃ n,(r=.returned (nI n))/\
 K (.bool (decide (n<=10))) t)))))) w
theorem Zzi (c:Int) (b:Sl) (K:nK) (w : nW) (h:B165 c b K w):Zm prog 165 #[.agg #[nI c,b.v]] w K:=cq (sk:=.leaf) h func165
def B237 (a:Int) (K:nK) (w : nW):Prop:=
 Br (decide (a<1))
 (K (.bool true) w)
 (K (.bool (decide (a>10))) w)
theorem ZyB (a:Int) (K:nK) (w : nW) (h:B237 a K w):Zm prog 237 #[nI a] w K:=cq (sk:=.leaf) h func237
def B236 (o:Int) (g:Sl) (K:nK) (w : nW):Prop:=
 New (.cells #[nI o,g.v] 37 (0,0)) (λ n k=>
 ∃ c:Sl,(Aw k ⟨n,0 + 1,none⟩ [c.v])/\
 ∃ (f:Int->Int->World->Prop) (l:Int->Int->World->Nat),(f 0 0 k)/\∀ (p:Env) (e:Int) (b:Int) (d:World),f e b d->
 Br (decide (b<(↑c.len:Int)))
 (Rng b c.len (Zc c.a λ m=>
 ∃ i,(Aw d (Addr.add m b.toNat) [nI i])/\
 (f (wI (e + i)) (wI (b + 1)) d)/\l (wI (e + i)) (wI (b + 1)) d<l e b d))
 (K (nI e) d)) w
def ZCf:Sk:=(.seq .leaf (.seq .leaf (.seq (.seq .leaf (.block (.loop [3,9] [(.int .i64),(.int .i64)] [3,5,9,10,11,12,13,14,15,16] .leaf))) .leaf)))
theorem ZyC (c:Int) (b:Sl) (K:nK) (w : nW) (h:B236 c b K w):Zm prog 236 #[.agg #[nI c,b.v]] w K:=cq (sk:=ZCf) h func236
def B164 (r:Int) (f:Sl) (K:nK) (w : nW):Prop:=
 New (.cells #[nI r,f.v] 37 (0,0)) (λ e m=>
 ∃ g,∃ b:Sl,(Aw m ⟨e,0,none⟩ [nI g,b.v])/\
 nC 165 #[.agg #[nI g,b.v]] m λ p n=>
 ∃ i,(p=.returned (.bool i))/\
 Br (!i)
 (K (nI 0) n)
 (Drw n λ d t=>
 ∃ j,(At d ⟨e,0,none⟩ [nI j])/\
 ∃ k,∃ c:Sl,(At d ⟨e,0,none⟩ [nI k,c.v])/\
 nC 236 #[.agg #[nI k,c.v]] t λ q o=>
 ∃ l,(q=.returned (nI l))/\
 (d o)/\
 K (nI (wI (j * l))) o)) w
theorem Zzj (c:Int) (b:Sl) (K:nK) (w : nW) (h:B164 c b K w):Zm prog 164 #[.agg #[nI c,b.v]] w K:=cq (sk:=.leaf) h func164
def B250 (k:Int) (c:Sl) (e:Int) (K:nK) (w : nW):Prop:=
 New (.cells #[nI k,c.v] 37 (0,0)) (λ i d=>
 Br (decide (e >= 0))
 (∃ g,∃ b:Sl,(Aw d ⟨i,0,none⟩ [nI g,b.v])/\
 nC 164 #[.agg #[nI g,b.v]] d λ j m=>
 ∃ f,(j=.returned (nI f))/\
 K (.bool (decide (e<f))) m)
 (K (.bool false) d)) w
theorem Zyq (c:Int) (b:Sl) (d:Int) (K:nK) (w : nW) (h:B250 c b d K w):Zm prog 250 #[.agg #[nI c,b.v],nI d] w K:=cq (sk:=.leaf) h func250
def B253 (s:Int) (f:Sl) (c:Int) (K:nK) (w : nW):Prop:=
 New (.cells #[nI s,f.v] 37 (0,0)) (λ k o=>
 ∃ m,∃ e:Sl,(Aw o ⟨k,0,none⟩ [nI m,e.v])/\
 nC 250 #[.agg #[nI m,e.v],nI c] o λ p j=>
 ∃ n,(p=.returned (.bool n))/\
 Br (!n)
 (K (.tuple #[.string (ByteArray.mk #[]),nI 1]) j)
 (∃ l,∃ d:Sl,(Aw j ⟨k,0,none⟩ [nI l,d.v])/\
 nC 236 #[.agg #[nI l,d.v]] j λ q t=>
 ∃ b,(q=.returned (nI b))/\
 Drw t λ x u=>
 Nz b (Nz b (Nz b (((0:Int)<=wI (c.tmod b + 1))/\
 ((wI (c.tmod b + 1):Int)<=10)/\
 ((0:Int)<=c.tmod b)/\
 ((c.tmod b:Int)<=(↑(wI (c.tmod b + 1)).toNat:Int))/\
 nC 284 #[nI (wI (wI (c.tdiv b) + 1))] u λ r v=>
 ∃ g,(r=.returned (.string g))/\
 (((↑(g.size + ((ByteArray.mk #[65,66,67,68,69,70,71,72,74,75]).extract (c.tmod b).toNat (wI (c.tmod b + 1)).toNat).size):Int):Int)<=9223372036854775807)/\
 K (.tuple #[.string (g++(ByteArray.mk #[65,66,67,68,69,70,71,72,74,75]).extract (c.tmod b).toNat (wI (c.tmod b + 1)).toNat),nI 0]) v))))) w
theorem Zyo (c:Int) (b:Sl) (d:Int) (K:nK) (w : nW) (h:B253 c b d K w):Zm prog 253 #[.agg #[nI c,b.v],nI d] w K:=cq (sk:=.leaf) h func253
def B247 (U:Int) (u:Sl) (V:ByteArray) (K:nK) (w : nW):Prop:=
 New (.cells #[nI U,u.v] 37 (0,0)) (λ m I=>
 ∃ y,∃ f:Sl,(Aw I ⟨m,0,none⟩ [nI y,f.v])/\
 nC 165 #[.agg #[nI y,f.v]] I λ M J=>
 ∃ z,(M=.returned (.bool z))/\
 Br (!z)
 (K (.tuple #[nI 0,nI 1]) J)
 (New (.stringIter V 0) (λ L Y=>
 ∃ (l:Int->Int->World->Prop) (s:Int->Int->World->Nat),(l 0 ((-1)) Y)/\∀ (Z:Env) (b:Int) (c:Int) (o:World),l b c o->
 ZvO ((some ⟨L,0,none⟩)) (λ T e p=>
 ∃ (k:Bool->World->Prop),(Br (decide (c >= 0))
 (k true p)
 (Br (T==0)
 (Br (e==48)
 (k true p)
 (k (decide (b>60)) p))
 (k (decide (b>60)) p)))/\
 ∀ (aa:Env) (A:Bool) (q:World),k A q->
 Br A
 (K (.tuple #[nI 0,nI 2]) q)
 (∃ (t:Bool->World->Prop),(Br (decide (e >= 48))
 (t (decide (e<=57)) q)
 (t false q))/\
 ∀ (ab:Env) (C:Bool) (r:World),t C r->
 Br C
 ((l (wI (wI (10 * b) + wI (IntKind.i32.wrap (e - 48)))) c r)/\s (wI (wI (10 * b) + wI (IntKind.i32.wrap (e - 48)))) c r<s b c o)
 (nC 280 #[.int .i32 e] r λ N x=>
 ∃ n,(N=.returned (nI n))/\
 Br (decide (n<0))
 (K (.tuple #[nI 0,nI 2]) x)
 ((l b n x)/\s b n x<s b c o))))
 (λ j=>
 Br (decide (b<1))
 (K (.tuple #[nI 0,nI 2]) j)
 (∃ D,(Aw j ⟨m,0,none⟩ [nI D])/\
 Br (decide (b>D))
 (K (.tuple #[nI 0,nI 2]) j)
 (Br (decide (c<0))
 (K (.tuple #[nI 0,nI 2]) j)
 (∃ E,∃ g:Sl,(Aw j ⟨m,0,none⟩ [nI E,g.v])/\
 nC 236 #[.agg #[nI E,g.v]] j λ O v=>
 ∃ F,(O=.returned (nI F))/\
 Br (decide (c >= F))
 (K (.tuple #[nI 0,nI 2]) v)
 (∃ G,∃ i:Sl,(Aw v ⟨m,0,none⟩ [nI G,i.v])/\
 nC 236 #[.agg #[nI G,i.v]] v λ Q X=>
 ∃ H,(Q=.returned (nI H))/\
 K (.tuple #[nI (wI (wI (wI (b - 1) * H) + c)),nI 0]) X))))) o) J)) w
def ZCc:Sk:=(.seq .leaf (.seq .leaf (.seq .leaf (.seq (.seq .leaf (.block (.loop [6,7] [(.int .i64),(.int .i64)] [4,5,6,7,8,9,15,16,17,18,19,20,21,22,23,24,25,26,27,28,29,30,31,32,33,34,35,36,37,38,39,40,41,42,43,44,45,46,47,48,49,50] (.seq .leaf (.seq .leaf (.block (.seq .leaf (.block (.cut [23] [.bool] [23,24,25,26,27,28,29,30,31,32,33,34,35,36,37] .leaf (.cond .leaf (.cut [38] [.bool] [38,39,40,41,42,43,44] .leaf .leaf))))))))))) .leaf))))
theorem Zyt (c:Int) (b:Sl) (d:ByteArray) (K:nK) (w : nW) (h:B247 c b d K w):Zm prog 247 #[.agg #[nI c,b.v],.string d] w K:=cq (sk:=ZCc) h func247
def B280 (f:Int) (K:nK) (w : nW):Prop:=
 ∃ (c:Int->World->Prop) (e:Int->World->Nat),(c 0 w)/\∀ (g:Env) (a:Int) (b:World),c a b->
 Br (decide (a<10))
 (∃ d:UInt8,((0:Int)<=a)/\
 ((ByteArray.mk #[65,66,67,68,69,70,71,72,74,75])[a.toNat]? =some d)/\
 Br (IntKind.i32.wrap (↑d.toNat:Int)==f)
 (K (nI a) b)
 ((c (wI (a + 1)) b)/\e (wI (a + 1)) b<e a b))
 (K (nI ((-1))) b)
def ZB6:Sk:=(.seq .leaf (.seq (.seq .leaf (.block (.loop [4] [(.int .i64)] [2,3,4,5,6,7,8,9,10,11,12,13] .leaf))) .leaf))
theorem Zye (a:Int) (K:nK) (w : nW) (h:B280 a K w):Zm prog 280 #[.int .i32 a] w K:=cq (sk:=ZB6) h func280
def B251 (t:Int) (k:Sl) (u:Int) (K:nK) (w : nW):Prop:=
 New (.cells #[nI t,k.v] 37 (0,0)) (λ m o=>
 ∃ n,∃ e:Sl,(Aw o ⟨m,0,none⟩ [nI n,e.v])/\
 nC 236 #[.agg #[nI n,e.v]] o λ s p=>
 ∃ l,(s=.returned (nI l))/\
 Nz l (∃ f:Sl,(Aw p ⟨m,0 + 1,none⟩ [f.v])/\
 ∃ (j:Int->Int->World->Prop) (q:Int->Int->World->Nat),(j (u.tmod l) 0 p)/\∀ (v:Env) (b:Int) (c:Int) (d:World),j b c d->
 Br (decide (c<(↑f.len:Int)))
 (Rng c f.len (Zc f.a λ r=>
 ∃ g,(Aw d (Addr.add r c.toNat) [nI g])/\
 Br (decide (b<g))
 (K (.tuple #[nI b,nI (wI (wI (g - 1) - b))]) d)
 ((j (wI (b - g)) (wI (c + 1)) d)/\q (wI (b - g)) (wI (c + 1)) d<q b c d)))
 (K (.tuple #[nI 0,nI 0]) d))) w
def ZCa:Sk:=(.seq .leaf (.seq .leaf (.seq (.seq .leaf (.block (.loop [6,16] [(.int .i64),(.int .i64)] [4,5,6,8,16,17,18,19,20,21,22,23,24,25,26,27,28,29,30,31] .leaf))) .leaf)))
theorem Zyp (c:Int) (b:Sl) (d:Int) (K:nK) (w : nW) (h:B251 c b d K w):Zm prog 251 #[.agg #[nI c,b.v],nI d] w K:=cq (sk:=ZCa) h func251
def B179 (ar:Int) (F:Sl) (H:Sl) (j:Int) (K:nK) (w : nW):Prop:=
 New (.cells #[nI ar,F.v] 37 (0,0)) (λ r I=>
 ∃ (N:World->Prop),(Br (decide (j<1))
 (K (.tuple #[.slice none 0 0,nI 1]) I)
 (∃ O,∃ m:Sl,(Aw I ⟨r,0,none⟩ [nI O,m.v])/\
 nC 164 #[.agg #[nI O,m.v]] I λ am ae=>
 ∃ Q,(am=.returned (nI Q))/\
 Br (decide (j>Q))
 (K (.tuple #[.slice none 0 0,nI 1]) ae)
 (N  ae)))/\
 ∀ (az:Env)  (J:World),N  J->
 ∃ T,∃ n:Sl,(Aw J ⟨r,0,none⟩ [nI T,n.v])/\
 nC 164 #[.agg #[nI T,n.v]] J λ an ax=>
 ∃ G,(an=.returned (nI G))/\
 ∃ af:World,∃ f:Sl,((Instr.makeSlice 291 (nI G) (nI G)).run prog ax=.ok (f.v) af)/\
 ∃ (u:Int->World->Prop) (D:Int->World->Nat),(u 0 af)/\∀ (a0:Env) (e:Int) (i:World),u e i->
 Br (decide (e<(↑H.len:Int)))
 (Rng e H.len (Zc H.a λ ag=>
 ∃ z,(Aw i (Addr.add ag e.toNat) [nI z])/\
 ∃ U,∃ o:Sl,(Aw i ⟨r,0,none⟩ [nI U,o.v])/\
 nC 250 #[.agg #[nI U,o.v],nI z] i λ ao L=>
 ∃ V,(ao=.returned (.bool V))/\
 Br V
 (Rng z f.len (Zc f.a λ ah=>
 ∃ M,(St 4 (Addr.add ah z.toNat) (.bool true) L M)/\
 (u (wI (e + 1)) M)/\D (wI (e + 1)) M<D e i))
 ((u (wI (e + 1)) L)/\D (wI (e + 1)) L<D e i)))
 (∃ X,∃ p:Sl,(Aw i ⟨r,0,none⟩ [nI X,p.v])/\
 nC 164 #[.agg #[nI X,p.v]] i λ ap ay=>
 ∃ Y,(ap=.returned (nI Y))/\
 ∃ (v:Sl->Sl->Int->World->Prop) (E:Sl->Sl->Int->World->Nat),(v ⟨none,0,0⟩ ⟨none,0,0⟩ 0 ay)/\∀ (a1:Env) (d:Sl) (y:Sl) (b:Int) (k:World),v d y b k->
 Br (decide (b<Y))
 (∃ (x:Sl->World->Prop),(∃ Z,∃ q:Sl,(Aw k ⟨r,0,none⟩ [nI Z,q.v])/\
 nC 251 #[.agg #[nI Z,q.v],nI b] k λ aq A=>
 ∃ aa au,(aq=.returned (.tuple #[nI aa,nI au]))/\
 Br (aa==0)
 (x ⟨none,0,0⟩ A)
 (Rng b f.len (Zc f.a λ ai=>
 ∃ ab,(Aw A (Addr.add ai b.toNat) [.bool ab])/\
 Br ab
 (x ⟨none,0,0⟩ A)
 (x y A))))/\
 ∀ (a2:Env) (l:Sl) (t:World),x l t->
 Rng b f.len (Zc f.a λ aj=>
 ∃ ac,(Aw t (Addr.add aj b.toNat) [.bool ac])/\
 Br ac
 ((v d l (wI (b + 1)) t)/\E d l (wI (b + 1)) t<E d y b k)
 (New (.cells #[nI b] 3 (0,0)) (λ ak av=>
 ∃ ad:World,∃ s:Sl,((Builtin.append_ #[30,30] 30 #[d.v,.slice ((some ⟨ak,0,none⟩)) 1 1]).run prog av=.ok (s.v) ad)/\
 New (.cells #[nI b] 3 (0,0)) (λ al aw=>
 ∃ C:World,∃ g:Sl,((Builtin.append_ #[30,30] 30 #[l.v,.slice ((some ⟨al,0,none⟩)) 1 1]).run prog aw=.ok (g.v) C)/\
 Br ((↑g.len:Int)==j)
 (K (.tuple #[g.v,nI 0]) C)
 ((v s g (wI (b + 1)) C)/\E s g (wI (b + 1)) C<E d y b k)) ad) t)))
 (Br (decide ((↑d.len:Int)<j))
 (K (.tuple #[.slice none 0 0,nI 3]) k)
 (((0:Int)<=j)/\
 ((j:Int)<=(↑d.cap:Int))/\
 K (.tuple #[.slice d.a j.toNat d.cap,nI 0]) k)))) w
def ZCu:Sk:=(.seq .leaf (.cut [] [] [6,7,16,17,18,19,20,21,22,23] .leaf (.seq .leaf (.seq (.seq .leaf (.block (.loop [29] [(.int .i64)] [10,29,30,31,32,33,34,35,36,37,38,39] .leaf))) (.seq .leaf (.seq (.seq .leaf (.block (.loop [11,12,42] [.sl,.sl,(.int .i64)] [6,7,11,12,13,14,15,42,43,44,45,46,47,48,49,50,51,52,53,54,55,56,57,58,59,60,61,62,63,64,65,66,67,68,69,70,71,72,73,74,75,76] (.seq .leaf (.seq .leaf (.seq (.block (.seq .leaf (.cut [12] [.sl] [12,14,15,45,46,47,48,49,50,51,52,53,54,55,56,57,58] .leaf .leaf))) .leaf)))))) .leaf))))))
theorem Zy4 (d:Int) (b:Sl) (c:Sl) (e:Int) (K:nK) (w : nW) (h:B179 d b c e K w):Zm prog 179 #[.agg #[nI d,b.v],c.v,nI e] w K:=cq (sk:=ZCu) h func179
def B234 (a:Int) (K:nK) (w : nW):Prop:=
 Br (decide (a >= 0))
 (K (.bool (decide (a<=10000))) w)
 (K (.bool false) w)
theorem ZyE (a:Int) (K:nK) (w : nW) (h:B234 a K w):Zm prog 234 #[nI a] w K:=cq (sk:=.leaf) h func234
def B201 (c:Sl) (k:Sl) (t:Value) (K:nK) (w : nW):Prop:=
 ∃ (s:World->Prop),(Br (decide ((↑c.len:Int)<1))
 (K (.bool false) w)
 (Br (decide ((↑c.len:Int)>8))
 (K (.bool false) w)
 (Br ((↑k.len:Int) !=(↑c.len:Int))
 (K (.bool false) w)
 (s  w))))/\
 ∀ (Z:Env)  (E:World),s  E->
 ∃ (n:Int->Bool->Int->World->Prop) (o:Int->Bool->Int->World->Nat),(n 0 true (wI ((↑c.len:Int) - 1)) E)/\∀ (aa:Env) (d:Int) (j:Bool) (b:Int) (l:World),n d j b l->
 Br (decide (b >= 0))
 (∃ (p:World->Prop),(Drw l λ i Y=>
 Rng b c.len (Zc c.a λ H=>
 ∃ u,(At i (Addr.add H b.toNat) [nI u])/\
 nC 234 #[nI u] Y λ T r=>
 ∃ v,(T=.returned (.bool v))/\
 (i r)/\
 Br (!v)
 (K (.bool false) r)
 (Rng b k.len (Zc k.a λ I=>
 ∃ x,(At i (Addr.add I b.toNat) [nI x])/\
 nC 234 #[nI x] r λ U m=>
 ∃ y,(U=.returned (.bool y))/\
 (i m)/\
 Br (!y)
 (K (.bool false) m)
 (Br (decide (b>0))
 (Rng b c.len (Zc c.a λ J=>
 ∃ z,(At i (Addr.add J b.toNat) [nI z])/\
 Rng (wI (b - 1)) c.len (Zc c.a λ L=>
 ∃ A,(At i (Addr.add L ((wI (b - 1)).toNat)) [nI A])/\
 Br (decide (z>A))
 (K (.bool false) m)
 (p  m))))
 (p  m))))))/\
 ∀ (ab:Env)  (g:World),p  g->
 Rng b k.len (Zc k.a λ M=>
 ∃ e,(Aw g (Addr.add M b.toNat) [nI e])/\
 Br j
 (Rng b c.len (Zc c.a λ N=>
 ∃ q,(Aw g (Addr.add N b.toNat) [nI q])/\
 Rng b c.len (Zc c.a λ O=>
 ∃ C,(Aw g (Addr.add O b.toNat) [nI C])/\
 Zbq prog cl t [nI b,nI (wI (C - wI (d + e)))] g λ V F=>
 (V=.returned (.tuple #[]))/\
 (n (wI (d + e)) (decide (wI (d + e)<=q)) (wI (b - 1)) F)/\o (wI (d + e)) (decide (wI (d + e)<=q)) (wI (b - 1)) F<o d j b l)))
 (Rng b c.len (Zc c.a λ Q=>
 ∃ D,(Aw g (Addr.add Q b.toNat) [nI D])/\
 Zbq prog cl t [nI b,nI (wI (D - wI (d + e)))] g λ X G=>
 (X=.returned (.tuple #[]))/\
 (n (wI (d + e)) false (wI (b - 1)) G)/\o (wI (d + e)) false (wI (b - 1)) G<o d j b l))))
 (K (.bool j) l)
def ZCp:Sk:=(.seq .leaf (.cut [] [] [6,10,11,12,13,14,15,16,17,18,19,20,21,22,23,24] .leaf (.seq .leaf (.seq (.seq .leaf (.block (.loop [7,8,9] [(.int .i64),.bool,(.int .i64)] [6,7,8,9,28,29,30,31,32,33,34,35,36,37,38,39,40,41,42,43,44,45,46,47,48,49,50,51,52,53,54,55,56,57,58,59,60,61,62,63,64,65,66,67,68,69,70,71,72,73,74,75,76,77,78,79,80,81,82,83,84,85] (.seq .leaf (.seq (.block (.cut [] [] [6,32,33,34,35,36,37,38,39,40,41,42,43,44,45,46,47,48,49,50,51,52,53,54,55,56,57,58,59,60,61] .leaf .leaf)) .leaf))))) .leaf))))
theorem ZyU (b:Sl) (c:Sl) (d:Value) (K:nK) (w : nW) (h:B201 b c d K w):Zm prog 201 #[b.v,c.v,d] w K:=cq (sk:=ZCp) h func201
def B123 (d:Sl) (g:Sl) (n:Int) (K:nK) (w : nW):Prop:=
 New (.cells #[nI n] 3 (0,0)) (λ e p=>
 New (.cells #[nI 0] 3 (0,0)) (λ f q=>
 ∃ m,(St 3 ⟨f,0,none⟩ (nI 10000) q m)/\
 nC 201 #[d.v,g.v,.func (.func 202) #[] #[.pointer ((some ⟨e,0,none⟩)),.pointer ((some ⟨f,0,none⟩))]] m λ o b=>
 ∃ i,(o=.returned (.bool i))/\
 Br (!i)
 (K (.tuple #[nI 0,nI 1]) b)
 (∃ j,(Aw b ⟨e,0,none⟩ [nI j])/\
 Br (decide (j<0))
 (K (.tuple #[nI 0,nI 1]) b)
 (∃ k,(Aw b ⟨e,0,none⟩ [nI k])/\
 Br (decide (k >= (↑d.len:Int)))
 (K (.tuple #[nI 0,nI 1]) b)
 (∃ l,(Aw b ⟨f,0,none⟩ [nI l])/\
 K (.tuple #[nI l,nI 0]) b)))) p) w
theorem ZzI (b:Sl) (c:Sl) (d:Int) (K:nK) (w : nW) (h:B123 b c d K w):Zm prog 123 #[b.v,c.v,nI d] w K:=cq (sk:=.leaf) h func123
def B202 (k:Int) (d:Int) (j:Option Addr) (c:Option Addr) (K:nK) (w : nW):Prop:=
 Zc j λ g=>
 ∃ e,(Aw w g [nI e])/\
 Br (decide (k<=e))
 (Zc c λ i=>
 ∃ a,(Aw w i [nI a])/\
 ∃ f:World,((Instr.storeAt 3 (.pointer c) (nI (if d<a then d else a))).run prog w=.ok () f)/\
 K (.tuple #[]) f)
 (K (.tuple #[]) w)
theorem Ztx (c:Int) (d:Int) (a:Option Addr) (b:Option Addr) (K:nK) (w : nW) (h:B202 c d a b K w):Zm prog 202 #[nI c,nI d,.pointer a,.pointer b] w K:=cq (sk:=.leaf) h func202
def B168 (f:Sl) (b:Sl) (g:Int) (e:Int) (K:nK) (w : nW):Prop:=
 nC 123 #[f.v,b.v,nI g] w λ k d=>
 ∃ i j,(k=.returned (.tuple #[nI i,nI j]))/\
 Br (j !=0)
 (K (.tuple #[.slice none 0 0,nI 1]) d)
 (Br (decide (e<1))
 (K (.tuple #[.slice none 0 0,nI 1]) d)
 (Br (decide (e>10000))
 (K (.tuple #[.slice none 0 0,nI 1]) d)
 (Br (decide (e>i))
 (K (.tuple #[.slice none 0 0,nI 3]) d)
 (nC 238 #[b.v,nI g,nI e] d λ l m=>
 ∃ c:Sl,(l=.returned (c.v))/\
 K (.tuple #[c.v,nI 0]) m))))
theorem Zzf (b:Sl) (c:Sl) (d:Int) (e:Int) (K:nK) (w : nW) (h:B168 b c d e K w):Zm prog 168 #[b.v,c.v,nI d,nI e] w K:=cq (sk:=.leaf) h func168
def B175 (f:Sl) (b:Sl) (e:Int) (g:Int) (K:nK) (w : nW):Prop:=
 nC 123 #[f.v,b.v,nI e] w λ l d=>
 ∃ n i,(l=.returned (.tuple #[nI n,nI i]))/\
 Br (i !=0)
 (K (.tuple #[.slice none 0 0,nI 1]) d)
 (Br (decide (g<1))
 (K (.tuple #[.slice none 0 0,nI 1]) d)
 (Rng e b.len (Zc b.a λ k=>
 ∃ j,(Aw d (Addr.add k e.toNat) [nI j])/\
 Br (decide (g>j))
 (K (.tuple #[.slice none 0 0,nI 1]) d)
 (nC 238 #[b.v,nI e,nI (wI (0 - g))] d λ m p=>
 ∃ c:Sl,(m=.returned (c.v))/\
 K (.tuple #[c.v,nI 0]) p))))
theorem Zy8 (b:Sl) (c:Sl) (d:Int) (e:Int) (K:nK) (w : nW) (h:B175 b c d e K w):Zm prog 175 #[b.v,c.v,nI d,nI e] w K:=cq (sk:=.leaf) h func175
def B238 (d:Sl) (c:Int) (l:Int) (K:nK) (w : nW):Prop:=
 nC 166 #[d.v] w λ k f=>
 ∃ b:Sl,(k=.returned (b.v))/\
 Rng c b.len (Zc b.a λ i=>
 ∃ e,(Aw f (Addr.add i c.toNat) [nI e])/\
 Rng c b.len (Zc b.a λ j=>
 ∃ g,(St 3 (Addr.add j c.toNat) (nI (wI (e + l))) f g)/\
 K (b.v) g))
theorem ZyA (b:Sl) (c:Int) (d:Int) (K:nK) (w : nW) (h:B238 b c d K w):Zm prog 238 #[b.v,nI c,nI d] w K:=cq (sk:=.leaf) h func238
def B163 (j:Int) (d:Sl) (K:nK) (w : nW):Prop:=
 ∃ (o:World->Prop),(nC 234 #[nI j] w λ z g=>
 ∃ p,(z=.returned (.bool p))/\
 Br (!p)
 (K (.tuple #[.slice none 0 0,nI 1]) g)
 (Br (decide ((↑d.len:Int)<1))
 (K (.tuple #[.slice none 0 0,nI 1]) g)
 (Br (decide ((↑d.len:Int)>8))
 (K (.tuple #[.slice none 0 0,nI 1]) g)
 (o  g))))/\
 ∀ (F:Env)  (r:World),o  r->
 New (.cells #[nI j] 3 (0,0)) (λ x D=>
 ((0:Int)<=1)/\
 ((1:Int)<=(↑d.len:Int))/\
 ∃ (i:Sl->Int->World->Prop) (t:Sl->Int->World->Nat),(i ⟨(some ⟨x,0,none⟩),1,1⟩ 0 D)/\∀ (G:Env) (b:Sl) (c:Int) (f:World),i b c f->
 Br (decide (c<(↑(d.len - Int.toNat 1):Int)))
 (Rng c (d.len - Int.toNat 1) (Zc (Zck d.a (Int.toNat 1) d.cap 1) λ u=>
 ∃ q,(Aw f (Addr.add u c.toNat) [.float .f64 q])/\
 nC 235 #[.float .f64 q,nI j] f λ A s=>
 ∃ k C,(A=.returned (.tuple #[nI k,nI C]))/\
 Rng c b.len (Zc b.a λ v=>
 ∃ l,(Aw s (Addr.add v c.toNat) [nI l])/\
 New (.cells #[nI (if l<k then l else k)] 3 (0,0)) (λ y E=>
 ∃ n:World,∃ e:Sl,((Builtin.append_ #[30,30] 30 #[b.v,.slice ((some ⟨y,0,none⟩)) 1 1]).run prog E=.ok (e.v) n)/\
 (i e (wI (c + 1)) n)/\t e (wI (c + 1)) n<t b c f) s)))
 (K (.tuple #[b.v,nI 0]) f)) r
def ZCx:Sk:=(.seq .leaf (.cut [] [] [4,5,11,12,13,14,15,16,17,18,19,20,21,22,23] .leaf (.seq .leaf (.seq (.seq .leaf (.block (.loop [6,29] [.sl,(.int .i64)] [6,7,8,9,10,29,30,31,32,33,34,35,36,37,38,39,40,41,42,43,44,45,46,47,48,49] .leaf))) .leaf))))
theorem Zzk (c:Int) (b:Sl) (K:nK) (w : nW) (h:B163 c b K w):Zm prog 163 #[nI c,b.v] w K:=cq (sk:=ZCx) h func163
def B235 (c:Nat) (d:Int) (K:nK) (w : nW):Prop:=
 ∃ (e:Bool->World->Prop),(Br (decide (d<0))
 (e true w)
 (e (decide (d>10000)) w))/\
 ∀ (q:Env) (n:Bool) (b:World),e n b->
 Br n
 (K (.tuple #[nI 0,nI 1]) b)
 (∃ i:Bool,(∀ a,(λ a=>a=b) a->((do eqGuard BinOp.gtr 35 (Operand.tmp 14) (Operand.const (Value.float FloatKind.f64 0)) (.float .f64 c) (.float .f64 0);binOp BinOp.gtr 35 (.float .f64 c) (.float .f64 0):Sem Value)).run prog a=.ok (.bool i) a)/\
 Br (!i)
 (K (.tuple #[nI 0,nI 0]) b)
 (∃ j:Bool,(∀ a,(λ a=>a=b) a->((do eqGuard BinOp.geq 35 (Operand.tmp 18) (Operand.const (Value.float FloatKind.f64 4607182418800017408)) (.float .f64 c) (.float .f64 4607182418800017408);binOp BinOp.geq 35 (.float .f64 c) (.float .f64 4607182418800017408):Sem Value)).run prog a=.ok (.bool j) a)/\
 Br j
 (K (.tuple #[nI d,nI 0]) b)
 (∃ g:World,∃ f:Nat,((convert 3 35 (nI d)).run prog b=.ok (.float .f64 f) g)/\
 ∃ k:Nat,(∀ a,(λ a=>a=g) a->((do eqGuard BinOp.mul 35 (Operand.tmp 21) (Operand.tmp 23) (.float .f64 c) (.float .f64 f);binOp BinOp.mul 35 (.float .f64 c) (.float .f64 f):Sem Value)).run prog a=.ok (.float .f64 k) a)/\
 nC 276 #[.float .f64 k] g λ p o=>
 ∃ l,(p=.returned (.float .f64 l))/\
 ∃ m:Int,(∀ a,(λ a=>a=o) a->((convert 35 3 (.float .f64 l))).run prog a=.ok (nI m) a)/\
 K (.tuple #[nI m,nI 0]) o)))
def ZCg:Sk:=(.seq .leaf (.seq (.block (.cut [6] [.bool] [6,7,8,9,10,11,12] .leaf .leaf)) .leaf))
theorem ZyD (a:Nat) (b:Int) (K:nK) (w : nW) (h:B235 a b K w):Zm prog 235 #[.float .f64 a,nI b] w K:=cq (sk:=ZCg) h func235
def B276 (d:Nat) (K:nK) (w : nW):Prop:=
 Ext prog 291 #[.float .f64 d] w λ b c=>
 ∃ a,(b=.returned (.float .f64 a))/\
 K (.float .f64 a) c
theorem Zyg (a:Nat) (K:nK) (w : nW) (h:B276 a K w):Zm prog 276 #[.float .f64 a] w K:=cq (sk:=.leaf) h func276
def B284 (c:Int) (K:nK) (w : nW):Prop:=
 nC 296 #[nI c] w λ b d=>
 ∃ a,(b=.returned (.string a))/\
 K (.string a) d
theorem Zyc (a:Int) (K:nK) (w : nW) (h:B284 a K w):Zm prog 284 #[nI a] w K:=cq (sk:=.leaf) h func284
set_option maxRecDepth 10000
def B98 (n:Int) (F:Int) (m:Sl) (o:Sl) (K:nK) (w : nW):Prop:=
 New (.cells #[nI F,m.v] 37 (0,0)) (λ j y=>
 ∃ q,∃ c:Sl,(Aw y ⟨j,0,none⟩ [nI q,c.v])/\
 nC 164 #[.agg #[nI q,c.v]] y λ z G=>
 ∃ r,(z=.returned (nI r))/\
 nC 163 #[nI r,o.v] G λ A k=>
 ∃ d:Sl,∃ s,(A=.returned (.tuple #[d.v,nI s]))/\
 Br (decide (n<1))
 (K (.tuple #[.pointer none,nI 1]) k)
 (Br (decide (n>9999))
 (K (.tuple #[.pointer none,nI 1]) k)
 (∃ t,∃ e:Sl,(Aw k ⟨j,0,none⟩ [nI t,e.v])/\
 nC 165 #[.agg #[nI t,e.v]] k λ C l=>
 ∃ u,(C=.returned (.bool u))/\
 Br (!u)
 (K (.tuple #[.pointer none,nI 1]) l)
 (Br (s !=0)
 (K (.tuple #[.pointer none,nI 1]) l)
 (∃ f:Sl,(Aw l ⟨j,0 + 1,none⟩ [f.v])/\
 nC 166 #[f.v] l λ D H=>
 ∃ g:Sl,(D=.returned (g.v))/\
 ∃ p,(St 30 ⟨j,0 + 1,none⟩ (g.v) H p)/\
 ∃ v,∃ i:Sl,(Aw p ⟨j,0,none⟩ [nI v,i.v])/\
 nC 167 #[nI n,.agg #[nI v,i.v],d.v] p λ E I=>
 ∃ x,(E=.returned (.pointer x))/\
 K (.tuple #[.pointer x,nI 0]) I))))) w
theorem ZAV (e:Int) (d:Int) (b:Sl) (c:Sl) (K:nK) (w : nW) (h:B98 e d b c K w):Zm prog 98 #[nI e,.agg #[nI d,b.v],c.v] w K:=cq (sk:=.leaf) h func98
def B167 (g:Int) (ah:Int) (n:Sl) (b:Sl) (K:nK) (w : nW):Prop:=
 New (.cells #[nI ah,.slice n.a n.len n.cap] 37 (0,0)) (λ O ai=>
 Drw ai λ c t=>
 ∃ f,∃ d:Sl,(At c ⟨O,0,none⟩ [nI f,.slice d.a d.len d.cap])/\
 (∃ m:World,∃ e:Sl,((Instr.makeSlice 30 (nI ((↑b.len:Int))) (nI ((↑b.len:Int)))).run prog t=.ok (.slice e.a e.len e.cap) m)/\
 (c m)/\
 (New (.map #[] 0) (λ Q H=>
 (c H)/\
 New (.map #[] 0) (λ X I=>
 (c I)/\
 New (.cells #[nI g,nI f,.slice d.a d.len d.cap,.slice b.a b.len b.cap,.slice e.a e.len e.cap,.map ((some Q)),.map ((some X))] 186 (0,0)) (λ ab J=>
 (c J)/\
 K (.pointer ((some ⟨ab,0,none⟩))) J) I) H) m)/\
 New (.map #[] 0) (λ Y L=>
 (c L)/\
 New (.map #[] 0) (λ T M=>
 (c M)/\
 New (.cells #[nI g,nI f,.slice d.a d.len d.cap,.slice b.a b.len b.cap,.slice e.a e.len e.cap,.map ((some T)),.map ((some Y))] 186 (0,0)) (λ ac N=>
 (c N)/\
 K (.pointer ((some ⟨ac,0,none⟩))) N) M) L) m)/\
 (New (.map #[] 0) (λ v o=>
 (c o)/\
 (∃ p:World,∃ i:Sl,((Instr.makeSlice 30 (nI ((↑b.len:Int))) (nI ((↑b.len:Int)))).run prog o=.ok (.slice i.a i.len i.cap) p)/\
 (c p)/\
 New (.map #[] 0) (λ Z y=>
 (c y)/\
 New (.cells #[nI g,nI f,.slice d.a d.len d.cap,.slice b.a b.len b.cap,.slice i.a i.len i.cap,.map ((some v)),.map ((some Z))] 186 (0,0)) (λ ad z=>
 (c z)/\
 K (.pointer ((some ⟨ad,0,none⟩))) z) y) p)/\
 New (.map #[] 0) (λ aa A=>
 (c A)/\
 ∃ q:World,∃ j:Sl,((Instr.makeSlice 30 (nI ((↑b.len:Int))) (nI ((↑b.len:Int)))).run prog A=.ok (.slice j.a j.len j.cap) q)/\
 (c q)/\
 New (.cells #[nI g,nI f,.slice d.a d.len d.cap,.slice b.a b.len b.cap,.slice j.a j.len j.cap,.map ((some v)),.map ((some aa))] 186 (0,0)) (λ ae C=>
 (c C)/\
 K (.pointer ((some ⟨ae,0,none⟩))) C) q) o) t)/\
 New (.map #[] 0) (λ x r=>
 (c r)/\
 (∃ s:World,∃ k:Sl,((Instr.makeSlice 30 (nI ((↑b.len:Int))) (nI ((↑b.len:Int)))).run prog r=.ok (.slice k.a k.len k.cap) s)/\
 (c s)/\
 New (.map #[] 0) (λ U D=>
 (c D)/\
 New (.cells #[nI g,nI f,.slice d.a d.len d.cap,.slice b.a b.len b.cap,.slice k.a k.len k.cap,.map ((some U)),.map ((some x))] 186 (0,0)) (λ af E=>
 (c E)/\
 K (.pointer ((some ⟨af,0,none⟩))) E) D) s)/\
 New (.map #[] 0) (λ V F=>
 (c F)/\
 ∃ u:World,∃ l:Sl,((Instr.makeSlice 30 (nI ((↑b.len:Int))) (nI ((↑b.len:Int)))).run prog F=.ok (.slice l.a l.len l.cap) u)/\
 (c u)/\
 New (.cells #[nI g,nI f,.slice d.a d.len d.cap,.slice b.a b.len b.cap,.slice l.a l.len l.cap,.map ((some V)),.map ((some x))] 186 (0,0)) (λ ag G=>
 (c G)/\
 K (.pointer ((some ⟨ag,0,none⟩))) G) u) r) t) w
theorem Zzg (e:Int) (d:Int) (b:Sl) (c:Sl) (K:nK) (w : nW) (h:B167 e d b c K w):Zm prog 167 #[nI e,.agg #[nI d,.slice b.a b.len b.cap],.slice c.a c.len c.cap] w K:=cq (sk:=.leaf) h func167
def B101 (f:Option Addr) (g:Int) (r:Int) (s:Int) (K:nK) (w : nW):Prop:=
 Zc f λ m=>
 ∃ t:Option Nat,(Aw w (nO m 5) [.map t])/\
 ∃ D:Option Addr,∃ u:Bool,(∀ b,(λ b=>b=w) b->((Instr.lookup 183 (.map t) (nI g) true)).run prog b=.ok (.tuple #[.pointer D,.bool u]) b)/\
 ∃ (k:World->Prop),(Br (decide (g<1))
 (K (nI 1) w)
 (Br (decide (g>28629151))
 (K (nI 1) w)
 (Br u
 (K (nI 7) w)
 (k  w))))/\
 ∀ (G:Env)  (x:World),k  x->
 Drw x λ l E=>
 Zc f λ n=>
 ∃ c:Sl,(At l (nO n 3) [c.v])/\
 Zc f λ o=>
 ∃ d:Sl,(At l (nO o 4) [d.v])/\
 nC 168 #[c.v,d.v,nI r,nI s] E λ C y=>
 ∃ e:Sl,∃ i,(C=.returned (.tuple #[e.v,nI i]))/\
 Br (i==0)
 (Zc f λ p=>
 ∃ j,(St 30 (nO p 4) (e.v) y j)/\
 Zc f λ q=>
 ∃ v:Option Nat,(Aw j (nO q 5) [.map v])/\
 New (.cells #[nI g,nI r,nI s,.slice none 0 0] 197 (0,0)) (λ A F=>
 ∃ z:World,((Instr.mapUpdate 183 (.map v) (nI g) (.pointer ((some ⟨A,0,none⟩)))).run prog F=.ok () z)/\
 K (nI i) z) j)
 (K (nI i) y)
def ZCR:Sk:=(.seq .leaf (.seq .leaf (.cut [] [] [8,22,23,24,25,26,27,28,29,30] .leaf .leaf)))
theorem ZzT (b:Option Addr) (d:Int) (a:Int) (c:Int) (K:nK) (w : nW) (h:B101 b d a c K w):Zm prog 101 #[.pointer b,nI d,nI a,nI c] w K:=cq (sk:=ZCR) h func101
def B104 (d:Option Addr) (z:Int) (K:nK) (w : nW):Prop:=
 Zc d λ p=>
 ∃ A:Option Nat,(Aw w (nO p 5) [.map A])/\
 ∃ l:Option Addr,∃ C:Bool,(∀ b,(λ b=>b=w) b->((Instr.lookup 183 (.map A) (nI z) true)).run prog b=.ok (.tuple #[.pointer l,.bool C]) b)/\
 Br (!C)
 (K (nI 2) w)
 (Zc l λ q=>
 ∃ e:Sl,(Aw w (nO q 3) [e.v])/\
 ∃ (m:Int->World->Prop) (J:Int->World->Nat),(m 0 w)/\∀ (T:Env) (c:Int) (j:World),m c j->
 Br (decide (c<(↑e.len:Int)))
 (Rng c e.len (Zc e.a λ L=>
 ∃ D,(Aw j (Addr.add L c.toNat) [nI D])/\
 Zc d λ r=>
 ∃ E:Option Nat,(Aw j (nO r 6) [.map E])/\
 ∃ n:World,((Builtin.delete_ #[184,3] 0 #[.map E,nI D]).run prog j=.ok (.tuple #[]) n)/\
 (m (wI (c + 1)) n)/\J (wI (c + 1)) n<J c j))
 (Drw j λ k O=>
 Zc d λ s=>
 ∃ f:Sl,(At k (nO s 3) [f.v])/\
 Zc d λ t=>
 ∃ g:Sl,(At k (nO t 4) [g.v])/\
 Zc l λ u=>
 ∃ F,(At k (nO u 1) [nI F])/\
 Zc l λ v=>
 ∃ G,(At k (nO v 2) [nI G])/\
 nC 175 #[f.v,g.v,nI F,nI G] O λ M Q=>
 ∃ i:Sl,∃ N,(M=.returned (.tuple #[i.v,nI N]))/\
 Zc d λ x=>
 ∃ o,(St 30 (nO x 4) (i.v) Q o)/\
 Zc d λ y=>
 ∃ H:Option Nat,(Aw o (nO y 5) [.map H])/\
 ∃ I:World,((Builtin.delete_ #[183,3] 0 #[.map H,nI z]).run prog o=.ok (.tuple #[]) I)/\
 K (nI 0) I))
def ZCP:Sk:=(.seq .leaf (.seq .leaf (.seq .leaf (.seq (.seq .leaf (.block (.loop [25] [(.int .i64)] [8,25,26,27,28,29,30,31,32,33,34] .leaf))) .leaf))))
theorem ZzQ (a:Option Addr) (b:Int) (K:nK) (w : nW) (h:B104 a b K w):Zm prog 104 #[.pointer a,nI b] w K:=cq (sk:=ZCP) h func104
def B177 (i:Option Addr) (q:Int) (p:ByteArray) (K:nK) (w : nW):Prop:=
 Zc i λ f=>
 ∃ j:Option Nat,(Aw w (nO f 5) [.map j])/\
 ∃ d:Option Addr,∃ k:Bool,(∀ b,(λ b=>b=w) b->((Instr.lookup 183 (.map j) (nI q) true)).run prog b=.ok (.tuple #[.pointer d,.bool k]) b)/\
 Zc i λ g=>
 ∃ l,∃ c:Sl,(Aw w (nO g 1) [nI l,c.v])/\
 nC 247 #[.agg #[nI l,c.v],.string p] w λ o n=>
 ∃ e m,(o=.returned (.tuple #[nI e,nI m]))/\
 Br k
 (K (.tuple #[.pointer d,nI e,.bool (m==0)]) n)
 (K (.tuple #[.pointer d,nI e,.bool false]) n)
theorem Zy6 (a:Option Addr) (c:Int) (b:ByteArray) (K:nK) (w : nW) (h:B177 a c b K w):Zm prog 177 #[.pointer a,nI c,.string b] w K:=cq (sk:=.leaf) h func177
def B178 (y:Option Addr) (e:Option Addr) (f:Int) (K:nK) (w : nW):Prop:=
 Zc e λ j=>
 ∃ b:Sl,(Aw w (nO j 3) [b.v])/\
 nC 248 #[b.v,nI f] w λ v q=>
 ∃ n z,(v=.returned (.tuple #[nI n,.bool z]))/\
 Zc e λ k=>
 ∃ c:Sl,(Aw q (nO k 3) [c.v])/\
 New (.cells #[nI f] 3 (0,0)) (λ u A=>
 nC 249 #[c.v,nI n,.slice ((some ⟨u,0,none⟩)) 1 1] A λ x C=>
 ∃ d:Sl,(x=.returned (d.v))/\
 Zc e λ l=>
 ∃ r,(St 30 (nO l 3) (d.v) C r)/\
 Drw r λ i D=>
 Zc y λ m=>
 ∃ o:Option Nat,(At i (nO m 6) [.map o])/\
 Zc e λ t=>
 ∃ p,(At i (Addr.add t 0) [nI p])/\
 ∃ s:World,((Instr.mapUpdate 184 (.map o) (nI f) (nI p)).run prog D=.ok () s)/\
 K (.tuple #[]) s) q
theorem Zy5 (a:Option Addr) (b:Option Addr) (c:Int) (K:nK) (w : nW) (h:B178 a b c K w):Zm prog 178 #[.pointer a,.pointer b,nI c] w K:=cq (sk:=.leaf) h func178
def B106 (f:Option Addr) (u:Int) (t:ByteArray) (K:nK) (w : nW):Prop:=
 nC 177 #[.pointer f,nI u,.string t] w λ r e=>
 ∃ c g n,(r=.returned (.tuple #[.pointer c,nI g,.bool n]))/\
 Zc f λ k=>
 ∃ o:Option Nat,(Aw e (nO k 6) [.map o])/\
 ∃ v:Int,∃ p:Bool,(∀ b,(λ b=>b=e) b->((Instr.lookup 184 (.map o) (nI g) true)).run prog b=.ok (.tuple #[nI v,.bool p]) b)/\
 Br (!n)
 (K (nI 2) e)
 (Drw e λ j i=>
 Zc c λ l=>
 ∃ d:Sl,(At j (nO l 3) [d.v])/\
 Zc c λ m=>
 ∃ q,(At j (nO m 2) [nI q])/\
 Br (decide ((↑d.len:Int) >= q))
 (K (nI 7) i)
 (Br p
 (K (nI 3) i)
 (nC 178 #[.pointer f,.pointer c,nI g] i λ s x=>
 (s=.returned (.tuple #[]))/\
 K (nI 0) x)))
theorem ZzO (a:Option Addr) (c:Int) (b:ByteArray) (K:nK) (w : nW) (h:B106 a c b K w):Zm prog 106 #[.pointer a,nI c,.string b] w K:=cq (sk:=.leaf) h func106
def B107 (j:Option Addr) (Q:Int) (K:nK) (w : nW):Prop:=
 Zc j λ o=>
 ∃ t:Option Nat,(Aw w (nO o 5) [.map t])/\
 ∃ l:Option Addr,∃ u:Bool,(∀ b,(λ b=>b=w) b->((Instr.lookup 183 (.map t) (nI Q) true)).run prog b=.ok (.tuple #[.pointer l,.bool u]) b)/\
 Br (!u)
 (K (.tuple #[.slice none 0 0,nI 2]) w)
 (Zc l λ p=>
 ∃ m:Sl,(Aw w (nO p 3) [m.v])/\
 Br (decide ((↑m.len:Int)>0))
 (K (.tuple #[.slice none 0 0,nI 7]) w)
 (Drw w λ e T=>
 Zc j λ q=>
 ∃ v,∃ f:Sl,(At e (nO q 1) [nI v,f.v])/\
 Zc j λ r=>
 ∃ x:Option Nat,(At e (nO r 6) [.map x])/\
 Zc l λ s=>
 ∃ z,(At e (nO s 2) [nI z])/\
 nC 180 #[.map x] T λ J D=>
 ∃ y:Value,(J=.returned (y))/\
 (e D)/\
 nC 129 #[y] D λ L E=>
 ∃ g:Sl,(L=.returned (g.v))/\
 (e E)/\
 nC 179 #[.agg #[nI v,f.v],g.v,nI z] E λ M F=>
 ∃ c:Sl,∃ A,(M=.returned (.tuple #[c.v,nI A]))/\
 (e F)/\
 ∃ (n:Int->World->Prop) (H:Int->World->Nat),(n 0 F)/\∀ (V:Env) (d:Int) (k:World),n d k->
 Br (decide (d<(↑c.len:Int)))
 (Rng d c.len (Zc c.a λ I=>
 ∃ C,(Aw k (Addr.add I d.toNat) [nI C])/\
 nC 178 #[.pointer j,.pointer l,nI C] k λ N G=>
 (N=.returned (.tuple #[]))/\
 (n (wI (d + 1)) G)/\H (wI (d + 1)) G<H d k))
 (nC 181 #[.pointer j,c.v] k λ O U=>
 ∃ i:Sl,(O=.returned (i.v))/\
 K (.tuple #[i.v,nI A]) U)))
def ZCO:Sk:=(.seq .leaf (.seq .leaf (.seq .leaf (.seq .leaf (.seq (.seq .leaf (.block (.loop [51] [(.int .i64)] [11,51,52,53,54,55,56,57,58,59] .leaf))) .leaf)))))
theorem ZzN (a:Option Addr) (b:Int) (K:nK) (w : nW) (h:B107 a b K w):Zm prog 107 #[.pointer a,nI b] w K:=cq (sk:=ZCO) h func107
def B55 (j:Option Addr) (K:nK) (w : nW):Prop:=
 Zc j λ o=>
 ∃ f:Sl,(Aw w (nO o 3) [f.v])/\
 ∃ q:World,∃ b:Sl,((Instr.makeSlice 30 (nI ((↑f.len:Int))) (nI ((↑f.len:Int)))).run prog w=.ok (b.v) q)/\
 ∃ (i:Int->World->Prop) (r:Int->World->Nat),(i 0 q)/\∀ (z:Env) (c:Int) (g:World),i c g->
 Br (decide (c<(↑b.len:Int)))
 (Drw g λ l x=>
 Zc j λ m=>
 ∃ d:Sl,(At l (nO m 3) [d.v])/\
 Zc j λ n=>
 ∃ e:Sl,(At l (nO n 4) [e.v])/\
 nC 123 #[d.v,e.v,nI c] x λ t y=>
 ∃ p u,(t=.returned (.tuple #[nI p,nI u]))/\
 Rng c b.len (Zc b.a λ s=>
 ∃ k,(St 3 (Addr.add s c.toNat) (nI p) y k)/\
 (i (wI (c + 1)) k)/\r (wI (c + 1)) k<r c g))
 (K (b.v) g)
def sk55:Sk:=(.seq .leaf (.seq .leaf (.seq (.seq .leaf (.block (.loop [13] [(.int .i64)] [4,13,14,15,16,17,18,19,20,21,22,23,24,25,26,27,28,29,30,31,32] .leaf))) .leaf)))
theorem ZBm (a:Option Addr) (K:nK) (w : nW) (h:B55 a K w):Zm prog 55 #[.pointer a] w K:=cq (sk:=sk55) h func55
def B134 (t:Option Addr) (K:nK) (w : nW):Prop:=
 Zc t λ s=>
 ∃ u:Option Nat,(Aw w (nO s 5) [.map u])/\
 nC 209 #[.map u] w λ M Q=>
 ∃ v:Value,(M=.returned (v))/\
 nC 61 #[v] Q λ N T=>
 ∃ f:Sl,(N=.returned (f.v))/\
 ∃ (n:Sl->Int->World->Prop) (H:Sl->Int->World->Nat),(n ⟨none,0,0⟩ 0 T)/\∀ (Y:Env) (c:Sl) (e:Int) (d:World),n c e d->
 Br (decide (e<(↑f.len:Int)))
 (Rng e f.len (Zc f.a λ I=>
 ∃ x,(Aw d (Addr.add I e.toNat) [nI x])/\
 Zc t λ r=>
 ∃ y:Option Nat,(Aw d (nO r 5) [.map y])/\
 ∃ z:Option Addr,(∀ b,(λ b=>b=d) b->((Instr.lookup 183 (.map y) (nI x) false)).run prog b=.ok (.pointer z) b)/\
 Zc z λ J=>
 ∃ A C D,∃ g:Sl,(Aw d J [nI A,nI C,nI D,g.v])/\
 New (.cells #[nI 0,nI 0,nI 0,.slice none 0 0] 197 (0,0)) (λ m U=>
 ∃ o,(St 197 ⟨m,0,none⟩ (.agg #[nI A,nI C,nI D,g.v]) U o)/\
 ∃ i:Sl,(Aw o ⟨m,0 + 3,none⟩ [i.v])/\
 nC 166 #[i.v] o λ O V=>
 ∃ j:Sl,(O=.returned (j.v))/\
 ∃ p,(St 30 ⟨m,0 + 3,none⟩ (j.v) V p)/\
 ∃ E F G,∃ k:Sl,(Aw p ⟨m,0,none⟩ [nI E,nI F,nI G,k.v])/\
 New (.cells #[nI E,nI F,nI G,k.v] 197 (0,0)) (λ L X=>
 ∃ q:World,∃ l:Sl,((Builtin.append_ #[177,177] 177 #[c.v,.slice ((some ⟨L,0,none⟩)) 1 1]).run prog X=.ok (l.v) q)/\
 (n l (wI (e + 1)) q)/\H l (wI (e + 1)) q<H c e d) p) d))
 (K (c.v) d)
def ZCH:Sk:=(.seq .leaf (.seq .leaf (.seq (.seq .leaf (.block (.loop [3,14] [.sl,(.int .i64)] [3,5,6,14,15,16,17,18,19,20,21,22,23,24,25,26,27,28,29,30,31,32,33,34] .leaf))) .leaf)))
theorem ZzD (a:Option Addr) (K:nK) (w : nW) (h:B134 a K w):Zm prog 134 #[.pointer a] w K:=cq (sk:=ZCH) h func134
def B122 (g:Option Addr) (m:Int) (K:nK) (w : nW):Prop:=
 Zc g λ f=>
 ∃ i:Option Nat,(Aw w (nO f 5) [.map i])/\
 ∃ j:Option Addr,∃ k:Bool,(∀ b,(λ b=>b=w) b->((Instr.lookup 183 (.map i) (nI m) true)).run prog b=.ok (.tuple #[.pointer j,.bool k]) b)/\
 Br (!k)
 (K (.slice none 0 0) w)
 (Zc j λ e=>
 ∃ c:Sl,(Aw w (nO e 3) [c.v])/\
 nC 181 #[.pointer g,c.v] w λ l n=>
 ∃ d:Sl,(l=.returned (d.v))/\
 K (d.v) n)
theorem ZzJ (a:Option Addr) (b:Int) (K:nK) (w : nW) (h:B122 a b K w):Zm prog 122 #[.pointer a,nI b] w K:=cq (sk:=.leaf) h func122
def B181 (t:Option Addr) (i:Sl) (K:nK) (w : nW):Prop:=
 ∃ (g:Sl->Int->World->Prop) (p:Sl->Int->World->Nat),(g ⟨none,0,0⟩ 0 w)/\∀ (y:Env) (b:Sl) (c:Int) (e:World),g b c e->
 Br (decide (c<(↑i.len:Int)))
 (Rng c i.len (Zc i.a λ q=>
 ∃ m,(Aw e (Addr.add q c.toNat) [nI m])/\
 Zc t λ l=>
 ∃ n,∃ d:Sl,(Aw e (nO l 1) [nI n,d.v])/\
 nC 253 #[.agg #[nI n,d.v],nI m] e λ s v=>
 ∃ o u,(s=.returned (.tuple #[.string o,nI u]))/\
 New (.cells #[.string o] 9 (0,0)) (λ r x=>
 ∃ k:World,∃ f:Sl,((Builtin.append_ #[31,31] 31 #[b.v,.slice ((some ⟨r,0,none⟩)) 1 1]).run prog x=.ok (f.v) k)/\
 (g f (wI (c + 1)) k)/\p f (wI (c + 1)) k<p b c e) v))
 (K (b.v) e)
def ZCt:Sk:=(.seq .leaf (.seq .leaf (.seq (.seq .leaf (.block (.loop [5,12] [.sl,(.int .i64)] [5,7,8,9,12,13,14,15,16,17,18,19,20,21,22,23,24,25,26,27,28,29] .leaf))) .leaf)))
theorem Zy3 (c:Option Addr) (b:Sl) (K:nK) (w : nW) (h:B181 c b K w):Zm prog 181 #[.pointer c,b.v] w K:=cq (sk:=ZCt) h func181
def B64 (e:Option Addr) (K:nK) (w : nW):Prop:=
 New (.cells #[.slice none 0 0] 47 (0,0)) (λ y am=>
 New (.cells #[.nilFunc] 113 (0,0)) (λ c aq=>
 ∃ V,(St 113 ⟨c,0,none⟩ (.func (.func 132) #[] #[.pointer ((some ⟨y,0,none⟩))]) aq V)/\
 Drw V λ o ar=>
 ∃ z:Value,(At o ⟨c,0,none⟩ [z])/\
 Zc e λ aa=>
 ∃ A,(At o (Addr.add aa 0) [nI A])/\
 Zc e λ t=>
 ∃ C,(At o (nO t 1) [nI C])/\
 New (.cells #[nI A,nI C] 3 (0,0)) (λ ac X=>
 (o X)/\
 Zbq prog cl z [.slice ((some ⟨ac,0,none⟩)) 2 2] X λ af s=>
 (af=.returned (.tuple #[]))/\
 (o s)/\
 Zc e λ u=>
 ∃ f:Sl,(Aw s ⟨u.block,u.off + 1 + 1,none⟩ [f.v])/\
 nC 133 #[f.v,.pointer ((some ⟨c,0,none⟩))] s λ ag Y=>
 (ag=.returned (.tuple #[]))/\
 Zc e λ v=>
 ∃ g:Sl,(Aw Y (nO v 3) [g.v])/\
 nC 133 #[g.v,.pointer ((some ⟨c,0,none⟩))] Y λ ah au=>
 (ah=.returned (.tuple #[]))/\
 Drw au λ p av=>
 ∃ D:Value,(At p ⟨c,0,none⟩ [D])/\
 Zc e λ x=>
 ∃ E:Option Nat,(At p (nO x 5) [.map E])/\
 ∃ F:Int,(∀ b,p b->((Builtin.len_ #[183] 3 #[.map E])).run prog b=.ok (nI F) b)/\
 New (.cells #[nI F] 3 (0,0)) (λ ad O=>
 (p O)/\
 Zbq prog cl D [.slice ((some ⟨ad,0,none⟩)) 1 1] O λ ai Q=>
 (ai=.returned (.tuple #[]))/\
 (p Q)/\
 nC 134 #[.pointer e] Q λ aj an=>
 ∃ i:Sl,(aj=.returned (i.v))/\
 ∃ (r:Int->World->Prop) (Z:Int->World->Nat),(r 0 an)/\∀ (aw:Env) (d:Int) (m:World),r d m->
 Br (decide (d<(↑i.len:Int)))
 (Rng d i.len (Zc i.a λ ab=>
 ∃ G H I,∃ j:Sl,(Aw m (Addr.add ab (Zcp d.toNat 4)) [nI G,nI H,nI I,j.v])/\
 New (.cells #[nI 0,nI 0,nI 0,.slice none 0 0] 197 (0,0)) (λ q ao=>
 ∃ n,(St 197 ⟨q,0,none⟩ (.agg #[nI G,nI H,nI I,j.v]) ao n)/\
 ∃ J:Value,(Aw n ⟨c,0,none⟩ [J])/\
 ∃ L,(Aw n ⟨q,0,none⟩ [nI L])/\
 ∃ M,(Aw n ⟨q,0 + 1,none⟩ [nI M])/\
 ∃ N,(Aw n ⟨q,0 + 2,none⟩ [nI N])/\
 New (.cells #[nI L,nI M,nI N] 3 (0,0)) (λ ae ap=>
 Zbq prog cl J [.slice ((some ⟨ae,0,none⟩)) 3 3] ap λ ak T=>
 (ak=.returned (.tuple #[]))/\
 ∃ k:Sl,(Aw T ⟨q,0 + 3,none⟩ [k.v])/\
 nC 133 #[k.v,.pointer ((some ⟨c,0,none⟩))] T λ al U=>
 (al=.returned (.tuple #[]))/\
 (r (wI (d + 1)) U)/\Z (wI (d + 1)) U<Z d m) n) m))
 (∃ l:Sl,(Aw m ⟨y,0,none⟩ [l.v])/\
 K (l.v) m)) av) ar) am) w
def sk64:Sk:=(.seq .leaf (.seq .leaf (.seq .leaf (.seq .leaf (.seq .leaf (.seq .leaf (.seq .leaf (.seq .leaf (.seq (.seq .leaf (.block (.loop [46] [(.int .i64)] [7,46,47,48,49,50,51,52,53,54,55,56,57,58,59,60,61,62,63] .leaf))) .leaf)))))))))
theorem ZBh (a:Option Addr) (K:nK) (w : nW) (h:B64 a K w):Zm prog 64 #[.pointer a] w K:=cq (sk:=sk64) h func64
def B132 (i:Sl) (l:Option Addr) (K:nK) (w : nW):Prop:=
 ∃ (g:Int->World->Prop) (p:Int->World->Nat),(g 0 w)/\∀ (v:Env) (b:Int) (f:World),g b f->
 Br (decide (b<(↑i.len:Int)))
 (Rng b i.len (Zc i.a λ r=>
 ∃ m,(Aw f (Addr.add r b.toNat) [nI m])/\
 Drw f λ k u=>
 Zc l λ q=>
 ∃ c:Sl,(At k q [c.v])/\
 nC 128 #[.int .u64 (IntKind.u64.wrap m)] u λ s n=>
 ∃ d:Sl,(s=.returned (d.v))/\
 (k n)/\
 ∃ o:World,∃ e:Sl,((Builtin.append_ #[47,47] 47 #[c.v,d.v]).run prog n=.ok (e.v) o)/\
 ∃ j:World,((Instr.storeAt 47 (.pointer l) (e.v)).run prog o=.ok () j)/\
 (g (wI (b + 1)) j)/\p (wI (b + 1)) j<p b f))
 (K (.tuple #[]) f)
def ZCI:Sk:=(.seq .leaf (.block (.loop [7] [(.int .i64)] [4,7,8,9,10,11,12,13,14,15,16] .leaf)))
theorem ZzF (b:Sl) (c:Option Addr) (K:nK) (w : nW) (h:B132 b c K w):Zm prog 132 #[b.v,.pointer c] w K:=cq (sk:=ZCI) h func132
def B133 (b:Sl) (d:Option Addr) (K:nK) (w : nW):Prop:=
 Zc d λ i=>
 ∃ e:Value,(Aw w i [e])/\
 New (.cells #[nI ((↑b.len:Int))] 3 (0,0)) (λ k n=>
 Zbq prog cl e [.slice ((some ⟨k,0,none⟩)) 1 1] n λ l g=>
 (l=.returned (.tuple #[]))/\
 Zc d λ j=>
 ∃ f:Value,(Aw g j [f])/\
 Zbq prog cl f [.slice b.a b.len b.cap] g λ m o=>
 (m=.returned (.tuple #[]))/\
 K (.tuple #[]) o) w
theorem ZzE (b:Sl) (c:Option Addr) (K:nK) (w : nW) (h:B133 b c K w):Zm prog 133 #[.slice b.a b.len b.cap,.pointer c] w K:=cq (sk:=.leaf) h func133
set_option maxRecDepth 10000
def B256 (o:Int) (j:Sl) (K:nK) (w : nW):Prop:=
 New (.cells #[nI o,j.v] 37 (0,0)) (λ l p=>
 ∃ (i:Int->Int->World->Prop) (m:Int->Int->World->Nat),(i 0 0 p)/\∀ (q:Env) (d:Int) (c:Int) (b:World),i d c b->
 ∃ g:Sl,(Aw b ⟨l,0 + 1,none⟩ [g.v])/\
 Br (decide (c<(↑g.len:Int)))
 (∃ e:Sl,(Aw b ⟨l,0 + 1,none⟩ [e.v])/\
 Rng c e.len (Zc e.a λ n=>
 ∃ k,(Aw b (Addr.add n c.toNat) [nI k])/\
 (i (wI (d + k)) (wI (c + 1)) b)/\m (wI (d + k)) (wI (c + 1)) b<m d c b))
 (K (nI d) b)) w
def ZB9:Sk:=(.seq .leaf (.seq .leaf (.seq (.seq .leaf (.block (.loop [3,4] [(.int .i64),(.int .i64)] [3,4,5,6,7,8,9,10,11,12,13,14,15,16,17,18] .leaf))) .leaf)))
theorem Zyl (c:Int) (b:Sl) (K:nK) (w : nW) (h:B256 c b K w):Zm prog 256 #[.agg #[nI c,b.v]] w K:=cq (sk:=ZB9) h func256
def B184 (D:Int) (o:Sl) (K:nK) (w : nW):Prop:=
 New (.cells #[nI D,o.v] 37 (0,0)) (λ f e=>
 ∃ (p:World->Prop),(∃ u,(Aw e ⟨f,0,none⟩ [nI u])/\
 Br (decide (u<1))
 (K (.bool false) e)
 (∃ v,(Aw e ⟨f,0,none⟩ [nI v])/\
 Br (decide (v>60))
 (K (.bool false) e)
 (∃ k:Sl,(Aw e ⟨f,0 + 1,none⟩ [k.v])/\
 Br (decide ((↑k.len:Int)<1))
 (K (.bool false) e)
 (∃ l:Sl,(Aw e ⟨f,0 + 1,none⟩ [l.v])/\
 Br (decide ((↑l.len:Int)>4))
 (K (.bool false) e)
 (p  e)))))/\
 ∀ (F:Env)  (x:World),p  x->
 ∃ (n:Int->World->Prop) (y:Int->World->Nat),(n 0 x)/\∀ (G:Env) (d:Int) (c:World),n d c->
 ∃ m:Sl,(Aw c ⟨f,0 + 1,none⟩ [m.v])/\
 Br (decide (d<(↑m.len:Int)))
 (∃ i:Sl,(Aw c ⟨f,0 + 1,none⟩ [i.v])/\
 Rng d i.len (Zc i.a λ z=>
 ∃ q,(Aw c (Addr.add z d.toNat) [nI q])/\
 Br (decide (q<1))
 (K (.bool false) c)
 (∃ j:Sl,(Aw c ⟨f,0 + 1,none⟩ [j.v])/\
 Rng d j.len (Zc j.a λ A=>
 ∃ r,(Aw c (Addr.add A d.toNat) [nI r])/\
 Br (decide (r>10))
 (K (.bool false) c)
 ((n (wI (d + 1)) c)/\y (wI (d + 1)) c<y d c)))))
 (∃ s,∃ g:Sl,(Aw c ⟨f,0,none⟩ [nI s,g.v])/\
 nC 256 #[.agg #[nI s,g.v]] c λ C E=>
 ∃ t,(C=.returned (nI t))/\
 K (.bool (decide (t<=10))) E)) w
def ZCs:Sk:=(.seq .leaf (.cut [] [] [2,4,5,6,7,8,9,10,11,12,13,14,15,16,17,18,19,20,21,22,23] .leaf (.seq (.seq .leaf (.block (.loop [3] [(.int .i64)] [2,3,24,25,26,27,28,29,30,31,32,33,34,35,36,37,38,39,40,41,42,43,44] .leaf))) .leaf)))
theorem Zy0 (c:Int) (b:Sl) (K:nK) (w : nW) (h:B184 c b K w):Zm prog 184 #[.agg #[nI c,b.v]] w K:=cq (sk:=ZCs) h func184
def B186 (r:Int) (f:Sl) (K:nK) (w : nW):Prop:=
 New (.cells #[nI r,f.v] 37 (0,0)) (λ e m=>
 ∃ j,∃ c:Sl,(Aw m ⟨e,0,none⟩ [nI j,c.v])/\
 nC 184 #[.agg #[nI j,c.v]] m λ p n=>
 ∃ k,(p=.returned (.bool k))/\
 Br (!k)
 (K (nI 0) n)
 (Drw n λ d t=>
 ∃ l,(At d ⟨e,0,none⟩ [nI l])/\
 ∃ g,∃ b:Sl,(At d ⟨e,0,none⟩ [nI g,b.v])/\
 nC 256 #[.agg #[nI g,b.v]] t λ q o=>
 ∃ i,(q=.returned (nI i))/\
 (d o)/\
 K (nI (wI (l * i))) o)) w
theorem ZyZ (c:Int) (b:Sl) (K:nK) (w : nW) (h:B186 c b K w):Zm prog 186 #[.agg #[nI c,b.v]] w K:=cq (sk:=.leaf) h func186
def B260 (c:Sl) (K:nK) (w : nW):Prop:=
 ∃ (j:World->Prop),(Br (decide ((↑c.len:Int)<1))
 (K (.bool false) w)
 (Br (decide ((↑c.len:Int)>8))
 (K (.bool false) w)
 (j  w)))/\
 ∀ (t:Env)  (o:World),j  o->
 ∃ (f:Int->World->Prop) (i:Int->World->Nat),(f 0 o)/\∀ (u:Env) (b:Int) (e:World),f b e->
 Br (decide (b<(↑c.len:Int)))
 (Drw e λ g d=>
 Rng b c.len (Zc c.a λ p=>
 ∃ k,(At g (Addr.add p b.toNat) [nI k])/\
 Br (decide (k<0))
 (K (.bool false) d)
 (Rng b c.len (Zc c.a λ q=>
 ∃ l,(At g (Addr.add q b.toNat) [nI l])/\
 Br (decide (l>10000))
 (K (.bool false) d)
 (Br (decide (b>0))
 (Rng b c.len (Zc c.a λ r=>
 ∃ m,(At g (Addr.add r b.toNat) [nI m])/\
 Rng (wI (b - 1)) c.len (Zc c.a λ s=>
 ∃ n,(At g (Addr.add s ((wI (b - 1)).toNat)) [nI n])/\
 Br (decide (m>n))
 (K (.bool false) d)
 ((f (wI (b + 1)) d)/\i (wI (b + 1)) d<i b e))))
 ((f (wI (b + 1)) d)/\i (wI (b + 1)) d<i b e))))))
 (K (.bool true) e)
def ZB8:Sk:=(.seq .leaf (.cut [] [] [2,4,5,6,7,8,9,10,11] .leaf (.seq (.seq .leaf (.block (.loop [3] [(.int .i64)] [2,3,12,13,14,15,16,17,18,19,20,21,22,23,24,25,26,27,28,29,30,31,32,33,34,35,36,37,38,39,40,41,42,43,44,45] .leaf))) .leaf)))
theorem Zyj (b:Sl) (K:nK) (w : nW) (h:B260 b K w):Zm prog 260 #[b.v] w K:=cq (sk:=ZB8) h func260
def B204 (f:Sl) (k:Int) (K:nK) (w : nW):Prop:=
 ∃ (e:Int->Int->World->Prop) (i:Int->Int->World->Nat),(e 0 k w)/\∀ (m:Env) (d:Int) (b:Int) (c:World),e d b c->
 Br (decide (b<(↑f.len:Int)))
 (Rng b f.len (Zc f.a λ j=>
 ∃ g,(Aw c (Addr.add j b.toNat) [nI g])/\
 (e (wI (d + g)) (wI (b + 1)) c)/\i (wI (d + g)) (wI (b + 1)) c<i d b c))
 (K (nI d) c)
def ZCn:Sk:=(.seq .leaf (.seq .leaf (.seq (.seq .leaf (.block (.loop [5,6] [(.int .i64),(.int .i64)] [5,6,8,9,10,11,12,13,14,15,16,17,18,19] .leaf))) .leaf)))
theorem ZyS (b:Sl) (c:Int) (K:nK) (w : nW) (h:B204 b c K w):Zm prog 204 #[b.v,nI c] w K:=cq (sk:=ZCn) h func204
def B203 (f:Sl) (c:Sl) (K:nK) (w : nW):Prop:=
 nC 260 #[f.v] w λ C m=>
 ∃ t,(C=.returned (.bool t))/\
 ∃ (n:World->Prop),(Br (!t)
 (K (.bool false) m)
 (Br ((↑c.len:Int) !=(↑f.len:Int))
 (K (.bool false) m)
 (n  m)))/\
 ∀ (F:Env)  (u:World),n  u->
 ∃ (j:Int->World->Prop) (v:Int->World->Nat),(j 0 u)/\∀ (G:Env) (b:Int) (d:World),j b d->
 Br (decide (b<(↑c.len:Int)))
 (Rng b c.len (Zc c.a λ y=>
 ∃ p,(Aw d (Addr.add y b.toNat) [nI p])/\
 Br (decide (p<0))
 (K (.bool false) d)
 (Rng b c.len (Zc c.a λ z=>
 ∃ q,(Aw d (Addr.add z b.toNat) [nI q])/\
 Br (decide (q>10000))
 (K (.bool false) d)
 ((j (wI (b + 1)) d)/\v (wI (b + 1)) d<v b d)))))
 (∃ (k:Int->World->Prop) (x:Int->World->Nat),(k 0 d)/\∀ (H:Env) (e:Int) (g:World),k e g->
 Br (decide (e<(↑f.len:Int)))
 (Drw g λ o E=>
 Rng e f.len (Zc f.a λ A=>
 ∃ s,(At o (Addr.add A e.toNat) [nI s])/\
 nC 204 #[c.v,nI e] E λ D i=>
 ∃ r,(D=.returned (nI r))/\
 (o i)/\
 Br (decide (r>s))
 (K (.bool false) i)
 ((k (wI (e + 1)) i)/\x (wI (e + 1)) i<x e g)))
 (K (.bool true) g))
def ZCo:Sk:=(.seq .leaf (.seq .leaf (.cut [] [] [4,10,11,12,13,14,15,16,17,18] .leaf (.seq (.seq .leaf (.block (.loop [6] [(.int .i64)] [4,6,19,20,21,22,23,24,25,26,27,28,29,30,31,32,33,34,35,36] .leaf))) (.seq (.seq .leaf (.block (.loop [7] [(.int .i64)] [4,7,37,38,39,40,41,42,43,44,45,46,47,48,49,50] .leaf))) .leaf)))))
theorem ZyT (b:Sl) (c:Sl) (K:nK) (w : nW) (h:B203 b c K w):Zm prog 203 #[b.v,c.v] w K:=cq (sk:=ZCo) h func203
def B196 (e:Sl) (j:Int) (K:nK) (w : nW):Prop:=
 ∃ (d:Int->World->Prop) (g:Int->World->Nat),(d 0 w)/\∀ (l:Env) (b:Int) (c:World),d b c->
 Br (decide (b<(↑e.len:Int)))
 (Rng b e.len (Zc e.a λ i=>
 ∃ f,(Aw c (Addr.add i b.toNat) [nI f])/\
 Br (f==j)
 (K (.bool true) c)
 ((d (wI (b + 1)) c)/\g (wI (b + 1)) c<g b c)))
 (K (.bool false) c)
def ZCq:Sk:=(.seq .leaf (.seq (.seq .leaf (.block (.loop [5] [(.int .i64)] [4,5,6,7,8,9,10,11,12,13,14,15,16,17] .leaf))) .leaf))
theorem ZyV (b:Sl) (c:Int) (K:nK) (w : nW) (h:B196 b c K w):Zm prog 196 #[b.v,nI c] w K:=cq (sk:=ZCq) h func196
def B137 (n:Int) (K:nK) (w : nW):Prop:=
 ∃ (g:Int->Sl->World->Prop) (k:Int->Sl->World->Nat),(g n ⟨none,0,0⟩ w)/\∀ (q:Env) (c:Int) (b:Sl) (f:World),g c b f->
 Br (decide (c>0))
 (New (.cells #[.int .u8 (IntKind.u8.wrap (c.tmod 256))] 5 (0,0)) (λ m o=>
 ∃ i:World,∃ e:Sl,((Builtin.append_ #[47,47] 47 #[.slice ((some ⟨m,0,none⟩)) 1 1,b.v]).run prog o=.ok (e.v) i)/\
 (g (IntKind.u64.wrap (c.tdiv 256)) e i)/\k (IntKind.u64.wrap (c.tdiv 256)) e i<k c b f) f)
 (New (.cells #[.int .u8 (IntKind.u8.wrap (↑b.len:Int))] 5 (0,0)) (λ l p=>
 ∃ j:World,∃ d:Sl,((Builtin.append_ #[47,47] 47 #[.slice ((some ⟨l,0,none⟩)) 1 1,b.v]).run prog p=.ok (d.v) j)/\
 K (d.v) j) f)
def ZCG:Sk:=(.seq .leaf (.seq .leaf (.seq (.block (.loop [0,3] [(.int .u64),.sl] [0,3,4,5,6,7,8,9,10,11,12,13] .leaf)) .leaf)))
theorem ZzB (a:Int) (K:nK) (w : nW) (h:B137 a K w):Zm prog 137 #[.int .u64 a] w K:=cq (sk:=ZCG) h func137
def B143 (b:Option Addr) (K:nK) (w : nW):Prop:=
 ∃ (E:World->Prop),(Drw w λ t D=>
 Zc b λ F=>
 ∃ N,(At t (nO F 2) [.bool N])/\
 Br N
 (K (.tuple #[.int .u64 0,.bool false,nI 0]) D)
 (Zc b λ G=>
 ∃ O,(At t (nO G 1) [nI O])/\
 Zc b λ ad=>
 ∃ o:Sl,(At t (Addr.add ad 0) [o.v])/\
 Br (decide (O >= (↑o.len:Int)))
 (K (.tuple #[.int .u64 0,.bool false,nI 0]) D)
 (E  D)))/\
 ∀ (am:Env)  (V:World),E  V->
 Drw V λ u X=>
 Zc b λ ae=>
 ∃ k:Sl,(At u (Addr.add ae 0) [k.v])/\
 Zc b λ H=>
 ∃ y,(At u (nO H 1) [nI y])/\
 Rng y k.len (Zc k.a λ af=>
 ∃ g,(At u (Addr.add af y.toNat) [.int .u8 g])/\
 ∃ (s:Int->World->Prop),(Br (decide (wI g >= 16))
 (s (wI (wI g - 16)) X)
 (s (wI g) X))/\
 ∀ (an:Env) (e:Int) (Y:World),s e Y->
 ∃ (i:World->Prop),(Drw Y λ d c=>
 Br (decide (e>8))
 (K (.tuple #[.int .u64 0,.bool false,nI 0]) c)
 (Zc b λ I=>
 ∃ Q,(At d (nO I 1) [nI Q])/\
 Zc b λ ag=>
 ∃ p:Sl,(At d (Addr.add ag 0) [p.v])/\
 Br (decide (wI (wI (Q + 1) + e)>(↑p.len:Int)))
 (K (.tuple #[.int .u64 0,.bool false,nI 0]) c)
 (Br (decide (wI g >= 16))
 (Br (e==0)
 (K (.tuple #[.int .u64 0,.bool false,nI 0]) c)
 (Br (decide (e>0))
 (Zc b λ ah=>
 ∃ l:Sl,(At d (Addr.add ah 0) [l.v])/\
 Zc b λ J=>
 ∃ z,(At d (nO J 1) [nI z])/\
 Rng (wI (z + 1)) l.len (Zc l.a λ aj=>
 ∃ T,(At d (Addr.add aj ((wI (z + 1)).toNat)) [.int .u8 T])/\
 Br (T==0)
 (K (.tuple #[.int .u64 0,.bool false,nI 0]) c)
 (i  c)))
 (i  c)))
 (Br (decide (e>0))
 (Zc b λ ai=>
 ∃ m:Sl,(At d (Addr.add ai 0) [m.v])/\
 Zc b λ L=>
 ∃ A,(At d (nO L 1) [nI A])/\
 Rng (wI (A + 1)) m.len (Zc m.a λ ak=>
 ∃ U,(At d (Addr.add ak ((wI (A + 1)).toNat)) [.int .u8 U])/\
 Br (U==0)
 (K (.tuple #[.int .u64 0,.bool false,nI 0]) c)
 (i  c)))
 (i  c)))))/\
 ∀ (ao:Env)  (Z:World),i  Z->
 ∃ (r:Int->Int->World->Prop) (ab:Int->Int->World->Nat),(r 0 0 Z)/\∀ (ap:Env) (j:Int) (f:Int) (q:World),r j f q->
 Br (decide (f<e))
 (Drw q λ v aa=>
 Zc b λ al=>
 ∃ n:Sl,(At v (Addr.add al 0) [n.v])/\
 Zc b λ M=>
 ∃ C,(At v (nO M 1) [nI C])/\
 Rng (wI (wI (C + 1) + f)) n.len (Zc n.a λ ac=>
 ∃ x,(At v (Addr.add ac ((wI (wI (C + 1) + f)).toNat)) [.int .u8 x])/\
 (r (IntKind.u64.wrap (IntKind.u64.wrap (j * 256) + IntKind.u64.wrap x)) (wI (f + 1)) aa)/\ab (IntKind.u64.wrap (IntKind.u64.wrap (j * 256) + IntKind.u64.wrap x)) (wI (f + 1)) aa<ab j f q))
 (K (.tuple #[.int .u64 j,.bool (decide (wI g >= 16)),nI (wI (e + 1))]) q))
def ZCC:Sk:=(.seq .leaf (.cut [] [] [2,3,4,9,10,11,12,13,14,15,16,17,18,19,20,21,22,23,24] .leaf (.seq .leaf (.seq .leaf (.cut [5] [(.int .i64)] [5,38,39,40] .leaf (.cut [] [] [2,3,4,41,42,43,44,45,46,47,48,49,50,51,52,53,54,55,56,57,58,59,60,61,62,63,64,65,66,67,68,69,70,71,72,73,74,75,76,77,78,79,80,81,82] .leaf (.seq .leaf (.seq (.seq .leaf (.block (.loop [7,8] [(.int .u64),(.int .i64)] [7,8,83,84,85,86,87,88,89,90,91,92,93,94,95,96,97,98,99,100,101,102,103,104] .leaf))) .leaf))))))))
theorem Zzw (a:Option Addr) (K:nK) (w : nW) (h:B143 a K w):Zm prog 143 #[.pointer a] w K:=cq (sk:=ZCC) h func143
def B77 (a:Option Addr) (t:Int) (K:nK) (w : nW):Prop:=
 nC 143 #[.pointer a] w λ s b=>
 ∃ c m d,(s=.returned (.tuple #[.int .u64 c,.bool m,nI d]))/\
 ∃ (f:World->Prop),(Br (d==0)
 (Zc a λ g=>
 ∃ o,(St 4 (nO g 2) (.bool true) b o)/\
 K (.int .u64 0) o)
 (Br m
 (Zc a λ i=>
 ∃ p,(St 4 (nO i 2) (.bool true) b p)/\
 K (.int .u64 0) p)
 (Br (decide (c>t))
 (Zc a λ j=>
 ∃ q,(St 4 (nO j 2) (.bool true) b q)/\
 K (.int .u64 0) q)
 (f  b))))/\
 ∀ (v:Env)  (e:World),f  e->
 Zc a λ k=>
 ∃ n,(Aw e (nO k 1) [nI n])/\
 Zc a λ l=>
 ∃ r,(St 3 (nO l 1) (nI (wI (n + d))) e r)/\
 K (.int .u64 c) r
def sk77:Sk:=(.seq .leaf (.seq .leaf (.cut [] [] [4,14,15,16,17,18,19,20,21,22,23,24,25,26] .leaf .leaf)))
theorem ZA8 (b:Option Addr) (a:Int) (K:nK) (w : nW) (h:B77 b a K w):Zm prog 77 #[.pointer b,.int .u64 a] w K:=cq (sk:=sk77) h func77
def B80 (d:Option Addr) (K:nK) (w : nW):Prop:=
 Drw w λ c j=>
 Zc d λ f=>
 ∃ i,(At c (nO f 2) [.bool i])/\
 Br (!i)
 (Zc d λ e=>
 ∃ g,(At c (nO e 1) [nI g])/\
 Zc d λ k=>
 ∃ b:Sl,(At c (Addr.add k 0) [b.v])/\
 K (.bool (g==(↑b.len:Int))) j)
 (K (.bool false) j)
theorem ZA5 (a:Option Addr) (K:nK) (w : nW) (h:B80 a K w):Zm prog 80 #[.pointer a] w K:=cq (sk:=.leaf) h func80
set_option maxRecDepth 10000
def B127 (e:Option Addr) (K:nK) (w : nW):Prop:=
 Zc e λ z=>
 ∃ j:Sl,(Aw w (nO z 3) [j.v])/\
 ∃ D:World,∃ c:Sl,((Instr.makeSlice 30 (nI ((↑j.len:Int))) (nI ((↑j.len:Int)))).run prog w=.ok (c.v) D)/\
 ∃ (m:Int->World->Prop) (E:Int->World->Nat),(m 0 D)/\∀ (I:Env) (b:Int) (k:World),m b k->
 Zc e λ r=>
 ∃ l:Sl,(Aw k (nO r 4) [l.v])/\
 Br (decide (b<(↑l.len:Int)))
 (Drw k λ d H=>
 Zc e λ s=>
 ∃ f:Sl,(At d (nO s 4) [f.v])/\
 Rng b f.len (Zc f.a λ t=>
 ∃ n,(At d (nO (t.add (Zcp b.toNat 4)) 1) [nI n])/\
 Zc e λ u=>
 ∃ g:Sl,(At d (nO u 4) [g.v])/\
 Rng b g.len (Zc g.a λ v=>
 ∃ o,(At d (nO (v.add (Zcp b.toNat 4)) 1) [nI o])/\
 Rng o c.len (Zc c.a λ F=>
 ∃ A,(At d (Addr.add F o.toNat) [nI A])/\
 Zc e λ x=>
 ∃ i:Sl,(At d (nO x 4) [i.v])/\
 Rng b i.len (Zc i.a λ y=>
 ∃ C,(At d (nO (y.add (Zcp b.toNat 4)) 2) [nI C])/\
 Rng n c.len (Zc c.a λ G=>
 ∃ q,(St 3 (Addr.add G n.toNat) (nI (wI (A + C))) H q)/\
 (m (wI (b + 1)) q)/\E (wI (b + 1)) q<E b k))))))
 (K (c.v) k)
def ZCK:Sk:=(.seq .leaf (.seq .leaf (.seq (.seq .leaf (.block (.loop [4] [(.int .i64)] [4,11,12,13,14,15,16,17,18,19,20,21,22,23,24,25,26,27,28,29,30,31,32,33,34,35,36,37,38,39,40,41,42,43,44,45,46,47,48,49] .leaf))) .leaf)))
theorem ZzH (a:Option Addr) (K:nK) (w : nW) (h:B127 a K w):Zm prog 127 #[.pointer a] w K:=cq (sk:=ZCK) h func127
def B219 (g:Option Addr) (s:Int) (r:Int) (K:nK) (w : nW):Prop:=
 nC 77 #[.pointer g,.int .u64 s] w λ p u=>
 ∃ k,(p=.returned (.int .u64 k))/\
 ∃ (f:Sl->Int->World->Prop) (n:Sl->Int->World->Nat),(f ⟨none,0,0⟩ 0 u)/\∀ (y:Env) (b:Sl) (d:Int) (c:World),f b d c->
 Br (decide (d<k))
 (Zc g λ j=>
 ∃ l,(Aw c (nO j 2) [.bool l])/\
 Br (!l)
 (nC 77 #[.pointer g,.int .u64 r] c λ q v=>
 ∃ m,(q=.returned (.int .u64 m))/\
 New (.cells #[nI (wI m)] 3 (0,0)) (λ o x=>
 ∃ i:World,∃ e:Sl,((Builtin.append_ #[30,30] 30 #[b.v,.slice ((some ⟨o,0,none⟩)) 1 1]).run prog x=.ok (e.v) i)/\
 (f e (IntKind.u64.wrap (d + 1)) i)/\n e (IntKind.u64.wrap (d + 1)) i<n b d c) v)
 (K (b.v) c))
 (K (b.v) c)
def ZCj:Sk:=(.seq .leaf (.seq .leaf (.seq .leaf (.seq (.seq .leaf (.block (.loop [8,9] [.sl,(.int .u64)] [8,9,13,14,15,16,17,18,19,20,21,22,23,24,25,26,27,28,29,30,31] .leaf))) .leaf))))
theorem ZyI (c:Option Addr) (b:Int) (a:Int) (K:nK) (w : nW) (h:B219 c b a K w):Zm prog 219 #[.pointer c,.int .u64 b,.int .u64 a] w K:=cq (sk:=ZCj) h func219
def B144 (p:Sl) (K:nK) (w : nW):Prop:=
 New (.cells #[p.v,nI 0,.bool false] 140 (0,0)) (λ b ak=>
 nC 77 #[.pointer ((some ⟨b,0,none⟩)),.int .u64 9999] ak λ Y ar=>
 ∃ u,(Y=.returned (.int .u64 u))/\
 nC 77 #[.pointer ((some ⟨b,0,none⟩)),.int .u64 60] ar λ Z au=>
 ∃ v,(Z=.returned (.int .u64 v))/\
 New (.cells #[nI (wI u),nI (wI v),.slice none 0 0,.slice none 0 0,.slice none 0 0] 179 (0,0)) (λ c av=>
 nC 219 #[.pointer ((some ⟨b,0,none⟩)),.int .u64 4,.int .u64 10] av λ ab aw=>
 ∃ d:Sl,(ab=.returned (d.v))/\
 ∃ T,(St 30 ⟨c,0 + 1 + 1,none⟩ (d.v) aw T)/\
 nC 219 #[.pointer ((some ⟨b,0,none⟩)),.int .u64 8,.int .u64 10000] T λ ac ax=>
 ∃ e:Sl,(ac=.returned (e.v))/\
 ∃ U,(St 30 ⟨c,0 + 3,none⟩ (e.v) ax U)/\
 nC 77 #[.pointer ((some ⟨b,0,none⟩)),.int .u64 600] U λ ad ay=>
 ∃ x,(ad=.returned (.int .u64 x))/\
 ∃ (o:World->Prop),(∃ (n:Int->World->Prop) (V:Int->World->Nat),(n 0 ay)/\∀ (az:Env) (l:Int) (k:World),n l k->
 ∃ (t:World->Prop),(Br (decide (l<x))
 (∃ y,(Aw k ⟨b,0 + 2,none⟩ [.bool y])/\
 Br (!y)
 (t  k)
 (o  k))
 (o  k))/\
 ∀ (a0:Env)  (I:World),t  I->
 nC 77 #[.pointer ((some ⟨b,0,none⟩)),.int .u64 28629151] I λ ae al=>
 ∃ z,(ae=.returned (.int .u64 z))/\
 nC 77 #[.pointer ((some ⟨b,0,none⟩)),.int .u64 8] al λ af am=>
 ∃ A,(af=.returned (.int .u64 A))/\
 nC 77 #[.pointer ((some ⟨b,0,none⟩)),.int .u64 600] am λ ag an=>
 ∃ C,(ag=.returned (.int .u64 C))/\
 New (.cells #[nI 0,nI 0,nI 0,.slice none 0 0] 197 (0,0)) (λ q ao=>
 ∃ J,(St 197 ⟨q,0,none⟩ (.agg #[nI (wI z),nI (wI A),nI (wI C),.slice none 0 0]) ao J)/\
 nC 219 #[.pointer ((some ⟨b,0,none⟩)),.int .u64 600,.int .u64 600] J λ ah ap=>
 ∃ f:Sl,(ah=.returned (f.v))/\
 ∃ L,(St 30 ⟨q,0 + 3,none⟩ (f.v) ap L)/\
 Drw L λ m aq=>
 ∃ g:Sl,(At m ⟨c,0 + 4,none⟩ [g.v])/\
 ∃ D E F,∃ i:Sl,(At m ⟨q,0,none⟩ [nI D,nI E,nI F,i.v])/\
 New (.cells #[nI D,nI E,nI F,i.v] 197 (0,0)) (λ X M=>
 (m M)/\
 ∃ r:World,∃ j:Sl,((Builtin.append_ #[177,177] 177 #[g.v,.slice ((some ⟨X,0,none⟩)) 1 1]).run prog M=.ok (j.v) r)/\
 (m r)/\
 ∃ s,(St 177 ⟨c,0 + 4,none⟩ (j.v) r s)/\
 (n (IntKind.u64.wrap (l + 1)) s)/\V (IntKind.u64.wrap (l + 1)) s<V l k) aq) an)/\
 ∀ (a1:Env)  (N:World),o  N->
 nC 80 #[.pointer ((some ⟨b,0,none⟩))] N λ ai O=>
 ∃ G,(ai=.returned (.bool G))/\
 Br G
 (nC 220 #[.pointer ((some ⟨c,0,none⟩))] O λ aa Q=>
 ∃ H,(aa=.returned (.bool H))/\
 Br (!H)
 (K (.tuple #[.pointer none,nI 6]) Q)
 (K (.tuple #[.pointer ((some ⟨c,0,none⟩)),nI 0]) Q))
 (K (.tuple #[.pointer none,nI 6]) O)) au) w
def ZCB:Sk:=(.seq .leaf (.seq .leaf (.seq .leaf (.seq .leaf (.seq .leaf (.seq .leaf (.cut [] [] [7,8,36,37,38,39,40,41,42,43,44,45,46,47,48,49,50,51,52,53,54,55,56,57,58,59,60,61,62,63,64,65,66,67,68,69,70] (.seq .leaf (.block (.loop [7] [(.int .u64)] [7,8,36,37,38,39,40,41,42,43,44,45,46,47,48,49,50,51,52,53,54,55,56,57,58,59,60,61,62,63,64,65,66,67,68,69,70] (.cut [] [] [36,37,38,39,40,41,42,43,44,45] .leaf .leaf)))) .leaf)))))))
theorem Zzv (b:Sl) (K:nK) (w : nW) (h:B144 b K w):Zm prog 144 #[b.v] w K:=cq (sk:=ZCB) h func144
def B220 (g:Option Addr) (K:nK) (w : nW):Prop:=
 Zc g λ af=>
 ∃ ax,∃ p:Sl,(Aw w (nO af 1) [nI ax,p.v])/\
 nC 184 #[.agg #[nI ax,p.v]] w λ b5 bl=>
 ∃ a0,(b5=.returned (.bool a0))/\
 Zc g λ ah=>
 ∃ s:Sl,(Aw bl (nO ah 3) [s.v])/\
 nC 260 #[s.v] bl λ b6 cg=>
 ∃ a6,(b6=.returned (.bool a6))/\
 ∃ (ad:World->Prop),(Drw cg λ v U=>
 Zc g λ bz=>
 ∃ a7,(At v (Addr.add bz 0) [nI a7])/\
 Br (decide (a7<1))
 (K (.bool false) U)
 (Br (!a0)
 (K (.bool false) U)
 (Br (!a6)
 (K (.bool false) U)
 (Zc g λ aj=>
 ∃ G:Sl,(At v (nO aj 3) [G.v])/\
 Rng 0 G.len (Zc G.a λ b0=>
 ∃ a8,(At v (Addr.add b0 0) [nI a8])/\
 Zc g λ ak=>
 ∃ a9,∃ t:Sl,(At v (nO ak 1) [nI a9,t.v])/\
 nC 186 #[.agg #[nI a9,t.v]] U λ b7 ac=>
 ∃ ba,(b7=.returned (nI ba))/\
 (v ac)/\
 Br (a8 !=ba)
 (K (.bool false) ac)
 (ad  ac))))))/\
 ∀ (cj:Env)  (bp:World),ad  bp->
 ∃ (X:Sl->Int->World->Prop) (br:Sl->Int->World->Nat),(X ⟨none,0,0⟩ 0 bp)/\∀ (ck:Env) (Z:Sl) (i:Int) (n:World),X Z i n->
 Zc g λ al=>
 ∃ O:Sl,(Aw n (nO al 4) [O.v])/\
 Br (decide (i<(↑O.len:Int)))
 (Zc g λ am=>
 ∃ H:Sl,(Aw n (nO am 4) [H.v])/\
 Rng i H.len (Zc H.a λ b1=>
 ∃ bb bc bd,∃ u:Sl,(Aw n (Addr.add b1 (Zcp i.toNat 4)) [nI bb,nI bc,nI bd,u.v])/\
 New (.cells #[nI 0,nI 0,nI 0,.slice none 0 0] 197 (0,0)) (λ d ci=>
 ∃ bq,(St 197 ⟨d,0,none⟩ (.agg #[nI bb,nI bc,nI bd,u.v]) ci bq)/\
 ∃ (Y:World->Prop),(Drw bq λ e j=>
 ∃ be,(At e ⟨d,0,none⟩ [nI be])/\
 Br (decide (be<1))
 (K (.bool false) j)
 (Br (decide (i>0))
 (∃ bf,(At e ⟨d,0,none⟩ [nI bf])/\
 Zc g λ an=>
 ∃ I:Sl,(At e (nO an 4) [I.v])/\
 Rng (wI (i - 1)) I.len (Zc I.a λ b2=>
 ∃ bg,(At e (Addr.add (Addr.add b2 (Zcp (wI (i - 1)).toNat 4)) 0) [nI bg])/\
 Br (decide (bf<=bg))
 (K (.bool false) j)
 (∃ bh,(At e ⟨d,0 + 1,none⟩ [nI bh])/\
 Zc g λ ao=>
 ∃ Q:Sl,(At e (nO ao 3) [Q.v])/\
 Br (decide (bh >= (↑Q.len:Int)))
 (K (.bool false) j)
 (∃ bj,(At e ⟨d,0 + 2,none⟩ [nI bj])/\
 Br (decide (bj<1))
 (K (.bool false) j)
 (∃ L:Sl,(At e ⟨d,0 + 3,none⟩ [L.v])/\
 ∃ aq,(At e ⟨d,0 + 2,none⟩ [nI aq])/\
 Br (decide ((↑L.len:Int)>aq))
 (K (.bool false) j)
 (Y  j))))))
 (∃ bi,(At e ⟨d,0 + 1,none⟩ [nI bi])/\
 Zc g λ ap=>
 ∃ T:Sl,(At e (nO ap 3) [T.v])/\
 Br (decide (bi >= (↑T.len:Int)))
 (K (.bool false) j)
 (∃ bk,(At e ⟨d,0 + 2,none⟩ [nI bk])/\
 Br (decide (bk<1))
 (K (.bool false) j)
 (∃ M:Sl,(At e ⟨d,0 + 3,none⟩ [M.v])/\
 ∃ ar,(At e ⟨d,0 + 2,none⟩ [nI ar])/\
 Br (decide ((↑M.len:Int)>ar))
 (K (.bool false) j)
 (Y  j))))))/\
 ∀ (cl:Env)  (bm:World),Y  bm->
 ∃ (J:Sl->Int->World->Prop) (V:Sl->Int->World->Nat),(J Z 0 bm)/\∀ (cm:Env) (f:Sl) (c:Int) (k:World),J f c k->
 ∃ N:Sl,(Aw k ⟨d,0 + 3,none⟩ [N.v])/\
 Br (decide (c<(↑N.len:Int)))
 (∃ x:Sl,(Aw k ⟨d,0 + 3,none⟩ [x.v])/\
 Rng c x.len (Zc x.a λ bs=>
 ∃ au,(Aw k (Addr.add bs c.toNat) [nI au])/\
 nC 196 #[f.v,nI au] k λ b8 cc=>
 ∃ av,(b8=.returned (.bool av))/\
 Drw cc λ m bn=>
 Br av
 (K (.bool false) bn)
 (∃ y:Sl,(At m ⟨d,0 + 3,none⟩ [y.v])/\
 Rng c y.len (Zc y.a λ bt=>
 ∃ aw,(At m (Addr.add bt c.toNat) [nI aw])/\
 Zc g λ ag=>
 ∃ ay,∃ o:Sl,(At m (nO ag 1) [nI ay,o.v])/\
 nC 186 #[.agg #[nI ay,o.v]] bn λ b9 l=>
 ∃ az,(b9=.returned (nI az))/\
 (m l)/\
 Br (decide (aw >= az))
 (K (.bool false) l)
 (Br (decide (c>0))
 (∃ z:Sl,(At m ⟨d,0 + 3,none⟩ [z.v])/\
 Rng c z.len (Zc z.a λ bu=>
 ∃ a1,(At m (Addr.add bu c.toNat) [nI a1])/\
 ∃ A:Sl,(At m ⟨d,0 + 3,none⟩ [A.v])/\
 Rng (wI (c - 1)) A.len (Zc A.a λ bv=>
 ∃ a2,(At m (Addr.add bv ((wI (c - 1)).toNat)) [nI a2])/\
 Br (decide (a1<=a2))
 (K (.bool false) l)
 (∃ C:Sl,(Aw l ⟨d,0 + 3,none⟩ [C.v])/\
 Rng c C.len (Zc C.a λ bw=>
 ∃ a3,(Aw l (Addr.add bw c.toNat) [nI a3])/\
 New (.cells #[nI a3] 3 (0,0)) (λ b3 cd=>
 ∃ aa:World,∃ E:Sl,((Builtin.append_ #[30,30] 30 #[f.v,.slice ((some ⟨b3,0,none⟩)) 1 1]).run prog cd=.ok (E.v) aa)/\
 (J E (wI (c + 1)) aa)/\V E (wI (c + 1)) aa<V f c k) l)))))
 (∃ D:Sl,(Aw l ⟨d,0 + 3,none⟩ [D.v])/\
 Rng c D.len (Zc D.a λ bx=>
 ∃ a4,(Aw l (Addr.add bx c.toNat) [nI a4])/\
 New (.cells #[nI a4] 3 (0,0)) (λ b4 ce=>
 ∃ ab:World,∃ F:Sl,((Builtin.append_ #[30,30] 30 #[f.v,.slice ((some ⟨b4,0,none⟩)) 1 1]).run prog ce=.ok (F.v) ab)/\
 (J F (wI (c + 1)) ab)/\V F (wI (c + 1)) ab<V f c k) l)))))))
 ((X f (wI (i + 1)) k)/\br f (wI (i + 1)) k<br Z i n)) n))
 (Drw n λ ae cf=>
 Zc g λ ai=>
 ∃ q:Sl,(At ae (nO ai 3) [q.v])/\
 nC 127 #[.pointer g] cf λ ca bo=>
 ∃ r:Sl,(ca=.returned (r.v))/\
 (ae bo)/\
 nC 203 #[q.v,r.v] bo λ cb ch=>
 ∃ a5,(cb=.returned (.bool a5))/\
 K (.bool a5) ch)
def ZCi:Sk:=(.seq .leaf (.seq .leaf (.seq .leaf (.cut [] [] [2,20,21,22,23,24,25,26,27,28,29,30,31,32,33,34,35,36,37,38,39,40,41,42,43,44,45,46] .leaf (.seq .leaf (.seq (.seq .leaf (.block (.loop [5,6] [.sl,(.int .i64)] [2,5,6,7,8,9,47,48,49,50,51,52,53,54,55,56,57,58,59,60,61,62,63,64,65,66,67,68,69,70,71,72,73,74,75,76,77,78,79,80,81,82,83,84,85,86,87,88,89,90,91,92,93,94,95,96,97,98,99,100,101,102,103,104,105,106,107,108,109,110,111,112,113,114,115,116,117,118,119,120,121,122,123,124,125,126,127,128,129,130,131,132,133,134,135,136,137,138,139,140,141,142,143,144,145,146,147,148,149,150,151,152,153,154,155,156,157,158,159,160] (.seq .leaf (.seq (.block (.seq .leaf (.cut [] [] [2,63,64,65,66,67,68,69,70,71,72,73,74,75,76,77,78,79,80,81,82,83,84,85,86,87,88,89,90,91,92,93,94,95,96,97,98,99,100,101,102,103,104,105,106] .leaf (.seq .leaf (.block (.loop [5,8] [.sl,(.int .i64)] [2,5,8,9,107,108,109,110,111,112,113,114,115,116,117,118,119,120,121,122,123,124,125,126,127,128,129,130,131,132,133,134,135,136,137,138,139,140,141,142,143,144,145,146,147,148,149,150,151,152,153,154,155,156,157,158,159,160] .leaf)))))) .leaf))))) .leaf))))))
theorem ZyH (a:Option Addr) (K:nK) (w : nW) (h:B220 a K w):Zm prog 220 #[.pointer a] w K:=cq (sk:=ZCi) h func220
set_option maxRecDepth 10000
def B78 (b:Option Addr) (A:Int) (K:nK) (w : nW):Prop:=
 nC 143 #[.pointer b] w λ Q U=>
 ∃ k C c,(Q=.returned (.tuple #[.int .u64 k,.bool C,nI c]))/\
 ∃ (o:World->Prop),(Drw U λ p g=>
 Br (c==0)
 (Zc b λ r=>
 ∃ F,(St 4 (nO r 2) (.bool true) g F)/\
 K (.slice none 0 0) F)
 (Br C
 (Zc b λ s=>
 ∃ G,(St 4 (nO s 2) (.bool true) g G)/\
 K (.slice none 0 0) G)
 (Br (decide (A<0))
 (Zc b λ t=>
 ∃ H,(St 4 (nO t 2) (.bool true) g H)/\
 K (.slice none 0 0) H)
 (Br (decide (k>IntKind.u64.wrap A))
 (Zc b λ u=>
 ∃ I,(St 4 (nO u 2) (.bool true) g I)/\
 K (.slice none 0 0) I)
 (Zc b λ M=>
 ∃ l:Sl,(At p (Addr.add M 0) [l.v])/\
 Zc b λ q=>
 ∃ D,(At p (nO q 1) [nI D])/\
 Br (decide (k>IntKind.u64.wrap (wI (wI ((↑l.len:Int) - D) - c))))
 (Zc b λ v=>
 ∃ J,(St 4 (nO v 2) (.bool true) g J)/\
 K (.slice none 0 0) J)
 (o  g))))))/\
 ∀ (X:Env)  (n:World),o  n->
 Zc b λ x=>
 ∃ d,(Aw n (nO x 1) [nI d])/\
 Zc b λ y=>
 ∃ L,(St 3 (nO y 1) (nI (wI (wI (d + c) + wI k))) n L)/\
 Drw L λ j V=>
 Zc b λ N=>
 ∃ e:Sl,(At j (Addr.add N 0) [e.v])/\
 Zc b λ z=>
 ∃ i,(At j (nO z 1) [nI i])/\
 ((0:Int)<=i)/\
 ((i:Int)<=(↑e.cap:Int))/\
 ((0:Int)<=wI (d + c))/\
 ((wI (d + c):Int)<=(↑i.toNat:Int))/\
 New (.cells #[] 5 (0,0)) (λ O E=>
 (j E)/\
 ∃ m:World,∃ f:Sl,((Builtin.append_ #[47,47] 47 #[.slice ((some ⟨O,0,none⟩)) 0 0,.slice (Zck e.a (wI (d + c)).toNat e.cap 1) (i.toNat - (wI (d + c)).toNat) (e.cap - (wI (d + c)).toNat)]).run prog E=.ok (f.v) m)/\
 (j m)/\
 K (f.v) m) V
def sk78:Sk:=(.seq .leaf (.seq .leaf (.cut [] [] [4,15,16,17,18,19,20,21,22,23,24,25,26,27,28,29,30,31,32,33,34,35,36,37,38,39,40,41,42,43,44,45,46,47,48,49] .leaf .leaf)))
theorem ZA7 (b:Option Addr) (a:Int) (K:nK) (w : nW) (h:B78 b a K w):Zm prog 78 #[.pointer b,nI a] w K:=cq (sk:=sk78) h func78
end
end Go.Proofs.YtlplemdmegpoeaaGreatDoor

namespace Go.Proofs.YtlplemdmegpoeaaGreatDoor
section
open Go Go.VC Tryz
variable {R:Cx} {Hs Rest:List HP} {w:World}
theorem Zq5:∀ a b:List Int,(a++b).sum=a.sum + b.sum
 |[],b=>by simp
 |x::a,b=>by simp only [List.cons_append,List.sum_cons,Zq5 a b];omega
theorem Zn2 {g:List Int} {j:Nat} (h:j<g.length):(g.take (j + 1)).sum=(g.take j).sum + g[j]:=by
 rw [List.take_add_one,List.getElem?_eq_getElem h,Zq5];simp
theorem Zk9 {g:List Int} (h:∀ x∈g,0<=x/\x<=10):0<=g.sum/\g.sum<=10 * g.length:=by
 induction g with
 |nil=>simp
 |cons a g ih=>
  have:=ih λ x hx=>h x (List.mem_cons_of_mem _ hx);have:=h a List.mem_cons_self;simp only [List.sum_cons,List.length_cons];omega
def Zwd (g:List Int):Bool:=g.all λ x=>decide (1<=x/\x<=10)
def ZdQ (n:Int) (g:List Int):Bool:=decide (1<=n/\n<=60/\1<=g.length/\g.length<=4) && (Zwd g && decide (g.sum<=10))
def Za5 (n:Int) (g:List Int):Int:=if ZdQ n g then n * g.sum else 0
theorem Zaa {n:Int} {g:List Int}:ZdQ n g=true↔(1<=n/\n<=60/\1<=g.length/\g.length<=4)/\(∀ x∈g,1<=x/\x<=10)/\g.sum<=10:=by
 simp [ZdQ,Zwd]
theorem ZjJ {g:List Int} (h:∀ x∈g,1<=x/\x<=10) (hl:1<=g.length):1<=g.sum:=by
 match g,hl with
 |a::g,_=>
  have h1:=h a List.mem_cons_self;have h2:=Zk9 (g:=g) λ x hx=>by have:=h x (List.mem_cons_of_mem _ hx);omega
  simp only [List.sum_cons];omega
theorem Zkh {n:Int} {g:List Int} (h:ZdQ n g=true):Za5 n g=n * g.sum:=by unfold Za5;rw [if_pos h]
theorem Zv7 {a b:Int} (h0:0<=a) (h1:a<=60) (h2:0<=b) (h3:b<=10):0<=a * b/\a * b<=600:=
 ⟨Int.mul_nonneg h0 h2,by have:=Int.mul_le_mul h1 h3 h2 (by omega);omega⟩
theorem ZcS (n:Int) (g:List Int):0<=Za5 n g/\Za5 n g<=600:=by
 unfold Za5;split
 ·rename_i h
  obtain ⟨h1,h2,h3⟩:=Zaa.1 h;have:=Zk9 (λ x hx=>by have:=h2 x hx;omega) (g:=g);exact Zv7 (by omega) (by omega) (by omega) (by omega)
 ·omega
abbrev Zfq (n:Int) (s:Sl):Obj:=.cells [nI n,.slice s.a s.len s.cap].toArray 37 (0,0)
theorem Zb2 {n:Int} {s:Sl} {g:List Int} (hs:RoI R s g) (hg:∀ x∈g,0<=x/\x<=10) (hl:g.length<=4) (hw:Sat R Hs w):
  Zm prog 236 #[.agg #[nI n,.slice s.a s.len s.cap]] w λ v w'=>v=nI g.sum/\Sat R Hs w':=by
 have hlen:=hs.len;apply ZyC;refine Za hw λ p w hw=>?_;have hw:Sat R (pts p (Zfq n s)::Hs) w:=hw;refine ⟨s,oA hw,?_⟩;refine ⟨λ m i w=>∃ j:Nat,i=j/\j<=g.length/\m=(g.take j).sum/\Sat R (pts p (Zfq n s)::Hs) w,λ _ i _=>g.length - i.toNat,⟨0,rfl,by omega,by simp,hw⟩,?_⟩;clear hw;rintro _ _ _ w ⟨j,rfl,hj,rfl,hw⟩;refine Br.d (λ h=>?_) (λ h=>?_)
 ·have hj2:j<g.length:=by omega
  refine hs.idx (eqS hw) hj2 ?_;have hb:=Zk9 (λ x hx=>hg x (List.mem_of_mem_take hx)) (g:=g.take j);have hb2:(g.take j).length<=4:=by rw [List.length_take];omega
  have hx:=hg g[j] (List.getElem_mem _);rw [Zf (x:=(j:Int) + 1),Zf];exact ⟨⟨j + 1,by omega,by omega,(Zn2 hj2).symm,hw⟩,by dsimp only;omega⟩
 ·rw [List.take_of_length_le (by omega)]
  exact ⟨rfl,hw.drop⟩
theorem ZgV {n:Int} {s:Sl} {g:List Int} (hs:RoI R s g) (hg:∀ x∈g,0<=x/\x<=10) (hl:g.length<=4) (hw:Sat R Hs w):
  Zm prog 256 #[.agg #[nI n,.slice s.a s.len s.cap]] w λ v w'=>v=nI g.sum/\Sat R Hs w':=by
 have hlen:=hs.len;apply Zyl;refine Za hw λ p w hw=>?_;have hw:Sat R (pts p (Zfq n s)::Hs) w:=hw;refine ⟨λ m i w=>∃ j:Nat,i=j/\j<=g.length/\m=(g.take j).sum/\Sat R (pts p (Zfq n s)::Hs) w,λ _ i _=>g.length - i.toNat,⟨0,rfl,by omega,by simp,hw⟩,?_⟩;clear hw;rintro _ _ _ w ⟨j,rfl,hj,rfl,hw⟩;refine ⟨s,oA hw,Br.d (λ h=>?_) (λ h=>?_)⟩
 ·have hj2:j<g.length:=by omega
  refine ⟨s,oA hw,hs.idx (eqS hw) hj2 ?_⟩;have hb:=Zk9 (λ x hx=>hg x (List.mem_of_mem_take hx)) (g:=g.take j);have hb2:(g.take j).length<=4:=by rw [List.length_take];omega
  have hx:=hg g[j] (List.getElem_mem _);rw [Zf (x:=(j:Int) + 1),Zf];exact ⟨⟨j + 1,by omega,by omega,(Zn2 hj2).symm,hw⟩,by dsimp only;omega⟩
 ·rw [List.take_of_length_le (by omega)]
  exact ⟨rfl,hw.drop⟩
theorem ZsO {s:Sl} {l:List Int} {f:Value} {p:Int->Bool} (hs:RoI R s l) (hf:∀ x w,Sat R Hs w->Zbq prog cl f [nI x] w λ e w'=>e=.returned (.bool (p x))/\Sat R Hs w') (hw:Sat R Hs w):
  Zm prog 272 #[.slice s.a s.len s.cap,f] w λ v w'=>(∃ n:Int,v=nI n/\(l.any p=true↔0<=n))/\Sat R Hs w':=by
 have hlen:=hs.len;have hbd:=hs.bound;apply Zyh;refine ⟨λ i w=>∃ j:Nat,i=j/\j<=l.length/\(l.take j).any p=false/\Sat R Hs w,λ i _=>l.length - i.toNat,⟨0,rfl,by omega,by simp,hw⟩,?_⟩;clear hw;rintro _ _ w ⟨j,rfl,hj,hn,hw⟩;refine Br.d (λ h=>?_) (λ h=>?_)
 ·have hj2:j<l.length:=by omega
  refine hs.idx (eqS hw) hj2 ?_;refine (hf l[j] _ hw).mono ?_;rintro _ w ⟨rfl,hw⟩;refine ⟨_,rfl,Br.mk (λ h=>⟨⟨j,rfl,⟨λ _=>by omega,λ _=>List.any_eq_true.2 ⟨_,List.getElem_mem _,h⟩⟩⟩,hw⟩) (λ h=>?_)⟩;rw [Zf];refine ⟨⟨j + 1,by omega,by omega,?_,hw⟩,by dsimp only;omega⟩;rw [List.take_add_one,List.getElem?_eq_getElem hj2,List.any_append,hn];simp [h]
 ·refine ⟨⟨-1,rfl,⟨λ h2=>?_,λ h2=>by omega⟩⟩,hw⟩
  rw [List.take_of_length_le (by omega)] at hn;rw [hn] at h2;cases h2
theorem Zjy {s:Sl} {l:List Int} {f:Value} {p:Int->Bool} (hs:RoI R s l) (hf:∀ x w,Sat R Hs w->Zbq prog cl f [nI x] w λ e w'=>e=.returned (.bool (p x))/\Sat R Hs w') (hw:Sat R Hs w):
  Zm prog 212 #[.slice s.a s.len s.cap,f] w λ v w'=>v=.bool (l.any p)/\Sat R Hs w':=by
 apply ZyP;refine (ZsO hs hf hw).use ?_;rintro _ w ⟨⟨n,rfl,h⟩,hw⟩;refine ⟨n,rfl,?_,hw⟩
 congr 1
 rw [Bool.eq_iff_iff,decide_eq_true_iff];exact h.symm
theorem ZuU {g:Int} (hw:Sat R Hs w):Zm prog 237 #[nI g] w λ v w'=>v=.bool (!decide (1<=g/\g<=10))/\Sat R Hs w':=by
 apply ZyB;refine Br.d (λ h=>⟨?_,hw⟩) (λ h=>⟨?_,hw⟩)
 ·rw [decide_eq_false (by omega)];rfl
 ·congr 1
  rw [<-decide_not,decide_eq_decide];omega
theorem Zb6 {n:Int} {g:List Int} (h:¬ ((1<=n/\n<=60/\1<=g.length/\g.length<=4)/\(∀ x∈g,1<=x/\x<=10)/\g.sum<=10)):ZdQ n g=false:=by
 rw [<-Bool.not_eq_true,Zaa];exact h
theorem Zgr {n:Int} {s:Sl} {g:List Int} (hs:RoI R s g) (hw:Sat R Hs w):
  Zm prog 165 #[.agg #[nI n,.slice s.a s.len s.cap]] w λ v w'=>v=.bool (ZdQ n g)/\Sat R Hs w':=by
 have hlen:=hs.len;apply Zzi;refine Za hw λ p w hw=>?_;have hw:Sat R (pts p (Zfq n s)::Hs) w:=hw;refine ⟨n,oA hw,Br.d (λ h1=>⟨by rw [Zb6 (λ h=>by omega)],hw.drop⟩) (λ h1=>?_)⟩;refine ⟨n,oA hw,Br.d (λ h2=>⟨by rw [Zb6 (λ h=>by omega)],hw.drop⟩) (λ h2=>?_)⟩;refine ⟨s,oA hw,Br.d (λ h3=>⟨by rw [Zb6 (λ h=>by omega)],hw.drop⟩) (λ h3=>?_)⟩;refine ⟨s,oA hw,Br.d (λ h4=>⟨by rw [Zb6 (λ h=>by omega)],hw.drop⟩) (λ h4=>?_)⟩;refine ⟨s,oA hw,?_⟩;refine (Zjy (p:=λ x=>!decide (1<=x/\x<=10)) hs (λ x w hw=>Zbq.mk (by kernel_rfl) ((ZuU hw).use λ v w' h=>⟨by rw [h.1],h.2⟩)) hw).u λ w hw=>?_;refine ⟨_,rfl,Br.mk (λ h5=>⟨?_,hw.drop⟩) (λ h5=>?_)⟩
 ·rw [Zb6 (λ h=>?_)]
  obtain ⟨x,hx,hx2⟩:=List.any_eq_true.1 h5;have:=h.2.1 x hx;rw [decide_eq_true this] at hx2;cases hx2
 have hg:∀ x∈g,1<=x/\x<=10:=λ x hx=>by
  by_cases h:1<=x/\x<=10
  ·exact h
  ·have:(g.any λ x=>!decide (1<=x/\x<=10))=true:=List.any_eq_true.2 ⟨x,hx,by rw [decide_eq_false h];rfl⟩
   rw [h5] at this;cases this
 refine ⟨n,s,oA hw,?_⟩;refine (Zb2 hs (λ x hx=>by have:=hg x hx;omega) (by omega) hw).u λ w hw=>?_;refine ⟨_,rfl,?_,hw.drop⟩
 congr 1
 rw [Bool.eq_iff_iff,decide_eq_true_iff,Zaa];exact ⟨λ h=>⟨⟨by omega,by omega,by omega,by omega⟩,hg,h⟩,λ h=>h.2.2⟩
theorem ZhF {n:Int} {s:Sl} {g:List Int} (hs:RoI R s g) (hw:Sat R Hs w):
  Zm prog 184 #[.agg #[nI n,.slice s.a s.len s.cap]] w λ v w'=>v=.bool (ZdQ n g)/\Sat R Hs w':=by
 have hlen:=hs.len;have hbd:=hs.bound;apply Zy0;refine Za hw λ p w hw=>?_;have hw:Sat R (pts p (Zfq n s)::Hs) w:=hw;refine ⟨λ w=>(1<=n/\n<=60/\1<=g.length/\g.length<=4)/\Sat R (pts p (Zfq n s)::Hs) w,?_,?_⟩
 ·refine ⟨n,oA hw,Br.d (λ h1=>⟨by rw [Zb6 (λ h=>by omega)],hw.drop⟩) (λ h1=>?_)⟩
  refine ⟨n,oA hw,Br.d (λ h2=>⟨by rw [Zb6 (λ h=>by omega)],hw.drop⟩) (λ h2=>?_)⟩;refine ⟨s,oA hw,Br.d (λ h3=>⟨by rw [Zb6 (λ h=>by omega)],hw.drop⟩) (λ h3=>?_)⟩;refine ⟨s,oA hw,Br.d (λ h4=>⟨by rw [Zb6 (λ h=>by omega)],hw.drop⟩) (λ h4=>⟨⟨by omega,by omega,by omega,by omega⟩,hw⟩)⟩
 clear hw;rintro _ w ⟨h0,hw⟩;refine ⟨λ i w=>∃ j:Nat,i=j/\j<=g.length/\(∀ x∈g.take j,1<=x/\x<=10)/\Sat R (pts p (Zfq n s)::Hs) w,λ i _=>g.length - i.toNat,⟨0,rfl,by omega,by simp,hw⟩,?_⟩;clear hw;rintro _ _ w ⟨j,rfl,hj,hn,hw⟩;refine ⟨s,oA hw,Br.d (λ h=>?_) (λ h=>?_)⟩
 ·have hj2:j<g.length:=by omega
  have no:¬ (1<=g[j]/\g[j]<=10)->ZdQ n g=false:=λ h=>Zb6 λ h2=>h (h2.2.1 _ (List.getElem_mem _));refine ⟨s,oA hw,hs.idx (eqS hw) hj2 ?_⟩;refine Br.d (λ h1=>⟨by rw [no (by omega)],hw.drop⟩) (λ h1=>?_);refine ⟨s,oA hw,hs.idx (eqS hw) hj2 ?_⟩;refine Br.d (λ h2=>⟨by rw [no (by omega)],hw.drop⟩) (λ h2=>?_);rw [Zf];refine ⟨⟨j + 1,by omega,by omega,?_,hw⟩,by dsimp only;omega⟩;rw [List.take_add_one,List.getElem?_eq_getElem hj2];intro x hx;simp only [Option.toList_some,List.mem_append,List.mem_singleton] at hx;rcases hx with hx|rfl
  ·exact hn x hx
  ·omega
 ·rw [List.take_of_length_le (by omega)] at hn
  refine ⟨n,s,oA hw,?_⟩;refine (ZgV hs (λ x hx=>by have:=hn x hx;omega) (by omega) hw).u λ w hw=>?_;refine ⟨_,rfl,?_,hw.drop⟩
  congr 1
  rw [Bool.eq_iff_iff,decide_eq_true_iff,Zaa];exact ⟨λ h=>⟨h0,hn,h⟩,λ h=>h.2.2⟩
theorem ZdC {n:Int} {s:Sl} {g:List Int} (hs:RoI R s g) (hw:Sat R Hs w):
  Zm prog 164 #[.agg #[nI n,.slice s.a s.len s.cap]] w λ v w'=>v=nI (Za5 n g)/\Sat R Hs w':=by
 apply Zzj;refine Za hw λ p w hw=>?_;have hw:Sat R (pts p (Zfq n s)::Hs) w:=hw;refine ⟨n,s,oA hw,?_⟩;refine (Zgr hs hw).u λ w hw=>?_;refine ⟨_,rfl,Br.nb (λ h=>⟨?_,hw.drop⟩) (λ h=>?_)⟩
 ·unfold Za5;rw [h];rfl
 obtain ⟨h1,h2,h3⟩:=Zaa.1 h;refine Zo hw λ w hw=>?_;refine ⟨n,oS,n,s,oS,?_⟩;refine (Zb2 hs (λ x hx=>by have:=h2 x hx;omega) (by omega) hw).u λ w hw=>?_;have hb:=ZcS n g;rw [Zkh h] at hb ⊢;refine ⟨_,rfl,hw,?_,hw.drop⟩;rw [Zf]
theorem ZhL {n:Int} {s:Sl} {g:List Int} (hs:RoI R s g) (hw:Sat R Hs w):
  Zm prog 186 #[.agg #[nI n,.slice s.a s.len s.cap]] w λ v w'=>v=nI (Za5 n g)/\Sat R Hs w':=by
 apply ZyZ;refine Za hw λ p w hw=>?_;have hw:Sat R (pts p (Zfq n s)::Hs) w:=hw;refine ⟨n,s,oA hw,?_⟩;refine (ZhF hs hw).u λ w hw=>?_;refine ⟨_,rfl,Br.nb (λ h=>⟨?_,hw.drop⟩) (λ h=>?_)⟩
 ·unfold Za5;rw [h];rfl
 obtain ⟨h1,h2,h3⟩:=Zaa.1 h;refine Zo hw λ w hw=>?_;refine ⟨n,oS,n,s,oS,?_⟩;refine (ZgV hs (λ x hx=>by have:=h2 x hx;omega) (by omega) hw).u λ w hw=>?_;have hb:=ZcS n g;rw [Zkh h] at hb ⊢;refine ⟨_,rfl,hw,?_,hw.drop⟩;rw [Zf]
theorem Zlk {n k:Int} {s:Sl} {g:List Int} (hs:RoI R s g) (hw:Sat R Hs w):
  Zm prog 250 #[.agg #[nI n,.slice s.a s.len s.cap],nI k] w λ v w'=>v=.bool (decide (0<=k/\k<Za5 n g))/\Sat R Hs w':=by
 apply Zyq;refine Za hw λ p w hw=>?_;have hw:Sat R (pts p (Zfq n s)::Hs) w:=hw;refine Br.d (λ h=>?_) (λ h=>⟨by rw [decide_eq_false (by omega)],hw.drop⟩);refine ⟨n,s,oA hw,?_⟩;refine (ZdC hs hw).u λ w hw=>?_;refine ⟨_,rfl,?_,hw.drop⟩
 congr 1
 rw [decide_eq_decide];omega
theorem Zvc {s:Sl} {l:List Int} {k:Int} (hs:RoI R s l) (hw:Sat R Hs w):
  Zm prog 196 #[.slice s.a s.len s.cap,nI k] w λ v w'=>v=.bool (decide (k∈l))/\Sat R Hs w':=by
 have hlen:=hs.len;have hbd:=hs.bound;apply ZyV;refine ⟨λ i w=>∃ j:Nat,i=j/\j<=l.length/\k ∉ l.take j/\Sat R Hs w,λ i _=>l.length - i.toNat,⟨0,rfl,by omega,by simp,hw⟩,?_⟩;clear hw;rintro _ _ w ⟨j,rfl,hj,hn,hw⟩;refine Br.d (λ h=>?_) (λ h=>?_)
 ·have hj2:j<l.length:=by omega
  refine hs.idx (eqS hw) hj2 ?_;refine Br.e (λ h=>⟨?_,hw⟩) (λ h=>?_)
  ·rw [decide_eq_true (show k∈l by rw [<-h];exact List.getElem_mem _)]
  rw [Zf];refine ⟨⟨j + 1,by omega,by omega,?_,hw⟩,by dsimp only;omega⟩;rw [List.take_add_one,List.getElem?_eq_getElem hj2];simp only [Option.toList_some,List.mem_append,List.mem_singleton,not_or];exact ⟨hn,λ h2=>h h2.symm⟩
 ·rw [List.take_of_length_le (by omega)] at hn
  exact ⟨by rw [decide_eq_false hn],hw⟩
end
section
open Go Go.VC Tryz
def ZhX:List Int:=[65,66,67,68,69,70,71,72,74,75]
def Za4 (c:Nat):Int:=ZhX.getD c 0
def Zob (r:Nat):List Int:=(if 10<=r then [48 + ((r / 10:Nat):Int)] else [])++[48 + ((r % 10:Nat):Int)]
def ZfT (r c:Nat):List Int:=Zob r++[Za4 c]
def Zxq (w k:Int):ByteArray:=VC.strOf (ZfT (k / w + 1).toNat (k % w).toNat)
def Zsx:ByteArray:=ByteArray.mk #[65,66,67,68,69,70,71,72,74,75]
theorem ZpW:∀ c:Fin 10,Zsx.extract c.1 (c.1 + 1)=VC.strOf [Za4 c.1]:=by decide +kernel
theorem Zsw:∀ c:Fin 10,∃ b:UInt8,Zsx[c.1]? =some b/\(b.toNat:Int)=Za4 c.1:=by decide +kernel
theorem ZsC:∀ r:Fin 61,∀ c:Fin 10,VC.strOf (Zob r.1)++VC.strOf [Za4 c.1]=VC.strOf (ZfT r.1 c.1):=by decide +kernel
def ZkM (c:Int):Int:=match ZhX.findIdx? (·==c) with|some i=>i|none=>-1
def ZsM (c:Int):Bool:=decide (48<=c/\c<=57)
def prs:List Int->Bool->Int->Int->Option (Int × Int)
 |[],_,row,last=>some (row,last)
 |c::l,first,row,last=>
  if 0<=last\/(first=true/\c=48)\/row>60 then none
  else if ZsM c then prs l false (10 * row + (c - 48)) last
  else if ZkM c<0 then none
  else prs l false row (ZkM c)
def ZkA (n w:Int) (lab:ByteArray):Int × Int:=
 match prs (ZX lab) true 0 (-1) with
 |none=>(0,2)
 |some (row,last)=>if row<1\/row>n\/last<0\/last >= w then (0,2) else ((row - 1) * w + last,0)
theorem ZrX:∀ r:Fin 60,∀ c:Fin 10,prs (ZfT (r.1 + 1) c.1) true 0 (-1)=some ((r.1:Int) + 1,(c.1:Int)):=by decide +kernel
def ZB3 (l:List Int) (row:Int):Prop:=
 (l=[]/\row=0)\/(∃ d:Int,1<=d/\d<=9/\l=[48 + d]/\row=d)\/(∃ d e:Int,1<=d/\d<=9/\0<=e/\e<=9/\l=[48 + d,48 + e]/\row=10 * d + e)\/100<=row
def PrsI (l:List Int) (row last:Int):Prop:=(last=-1/\ZB3 l row)\/(0<=last/\last<10/\∃ l',l=l'++[Za4 last.toNat]/\ZB3 l' row)
theorem ZkL {c:Int} (h:¬ ZkM c<0):0<=ZkM c/\ZkM c<10/\Za4 (ZkM c).toNat=c:=by
 unfold ZkM at *;split at h
 ·rename_i i hi
  obtain ⟨hlt,hp,_⟩:=List.findIdx?_eq_some_iff_getElem.1 hi;have hlt':i<10:=hlt;refine ⟨by omega,by omega,?_⟩;unfold Za4;rw [Int.toNat_natCast,List.getD_eq_getElem?_getD,List.getElem?_eq_getElem hlt];simpa using hp
 ·omega
theorem Zm8:∀ (l a:List Int) (first:Bool) (row last row' last':Int),(first=true↔a=[])->PrsI a row last->prs l first row last=some (row',last')->PrsI (a++l) row' last'
 |[],a,_,row,last,row',last',_,h,e=>by
  simp only [prs,Option.some.injEq,Prod.mk.injEq] at e;rw [List.append_nil,<-e.1,<-e.2];exact h
 |c::l,a,first,row,last,row',last',hf,h,e=>by
  have hne:(false=true↔a++[c]=[]):=by simp
  unfold prs at e;split at e
  ·cases e
  rename_i h1;have hl:last<0:=by omega
  have hd:ZB3 a row:=by
   rcases h with h|h
   ·exact h.2
   ·omega
  split at e
  ·rename_i h2
   have h2:=of_decide_eq_true h2;have:=Zm8 l (a++[c]) false _ last row' last' hne (.inl ⟨?_,?_⟩) e
   ·rw [List.append_assoc] at this;exact this
   ·rcases h with h|h
    ·exact h.1
    ·omega
   ·rcases hd with ⟨rfl,rfl⟩|⟨d,hd1,hd2,rfl,rfl⟩|⟨d,e2,hd1,hd2,he1,he2,rfl,rfl⟩|hbig
    ·have:first=true:=hf.2 rfl
     refine .inr (.inl ⟨c - 48,?_,by omega,?_,by omega⟩)
     ·have:c≠48:=λ hc=>h1 (.inr (.inl ⟨this,hc⟩))
      omega
     ·rw [show (48:Int) + (c - 48)=c by omega];rfl
    ·refine .inr (.inr (.inl ⟨row,c - 48,hd1,hd2,by omega,by omega,?_,by omega⟩))
     rw [show (48:Int) + (c - 48)=c by omega];rfl
    ·exact .inr (.inr (.inr (by omega)))
    ·omega
  ·split at e
   ·cases e
   rename_i h2 h3;obtain ⟨c0,c1,c2⟩:=ZkL h3;have:=Zm8 l (a++[c]) false row (ZkM c) row' last' hne (.inr ⟨c0,c1,a,by rw [c2],hd⟩) e;rw [List.append_assoc] at this;exact this
theorem Zvr {l:List Int} {row:Int} (h:ZB3 l row) (h1:1<=row) (h2:row<=60):l=Zob row.toNat:=by
 rcases h with ⟨rfl,rfl⟩|⟨d,hd1,hd2,rfl,rfl⟩|⟨d,e,hd1,hd2,he1,he2,rfl,rfl⟩|hbig
 ·omega
 ·unfold Zob
  rw [if_neg (by omega)];simp only [List.nil_append,List.cons.injEq,and_true];omega
 ·unfold Zob
  rw [if_pos (by omega)];simp only [List.cons_append,List.nil_append,List.cons.injEq,and_true];constructor<;>omega
 ·omega
theorem Zw2 {l:List Int} {row last:Int} (h:prs l true 0 (-1)=some (row,last)) (h1:1<=row) (h2:row<=60) (h3:0<=last):last<10/\l=ZfT row.toNat last.toNat:=by
 have:=Zm8 l [] true 0 (-1) row last (by simp) (.inl ⟨rfl,.inl ⟨rfl,rfl⟩⟩) h;rw [List.nil_append] at this;rcases this with ⟨h,_⟩|⟨_,h4,l',rfl,hd⟩
 ·omega
 ·exact ⟨h4,by unfold ZfT;rw [Zvr hd h1 h2]⟩
theorem Zl3:∀ r:Fin 60,∀ c:Fin 10,∀ n∈ZfT (r.1 + 1) c.1,0<=n/\n<256:=by decide +kernel
theorem Zvi {n w k:Int} {lab:ByteArray} (hn:n<=60) (hw:1<=w) (hw2:w<=10):(ZkA n w lab=(k,0))↔(0<=k/\k<n * w/\Zxq w k=lab):=by
 constructor
 ·intro h
  unfold ZkA at h;split at h
  ·simp at h
  rename_i row last hp;split at h
  ·simp at h
  rename_i hr;simp only [Prod.mk.injEq,and_true] at h;obtain ⟨h4,h5⟩:=Zw2 hp (by omega) (by omega) (by omega);have hm:(row - 1) * w<=(n - 1) * w:=Int.mul_le_mul_of_nonneg_right (by omega) (by omega);have hm0:0<=(row - 1) * w:=Int.mul_nonneg (by omega) (by omega);have hm2:(n - 1) * w=n * w - w:=by rw [Int.sub_mul];omega
  refine ⟨by omega,by omega,?_⟩;have e1:k / w=row - 1:=by
   rw [<-h,Int.mul_comm,Int.add_comm,Int.add_mul_ediv_left _ _ (by omega),Int.ediv_eq_zero_of_lt (by omega) (by omega)];omega
  have e2:k % w=last:=by
   rw [<-h,Int.mul_comm,Int.add_comm,Int.add_mul_emod_self_left,Int.emod_eq_of_lt (by omega) (by omega)]
  unfold Zxq;rw [e1,e2,show row - 1 + 1=row by omega,<-h5,Zlb]
 ·rintro ⟨h0,h1,rfl⟩
  have e0:0<=k / w:=Int.ediv_nonneg h0 (by omega);have e1:k / w<n:=Int.ediv_lt_of_lt_mul (by omega) h1;have e2:0<=k % w:=Int.emod_nonneg _ (by omega);have e3:k % w<w:=Int.emod_lt_of_pos _ (by omega);have e4:=Int.mul_ediv_add_emod k w;generalize hq:k / w=q at *;generalize hm:k % w=m at *;obtain ⟨a,rfl⟩:=Int.eq_ofNat_of_zero_le e0;obtain ⟨b,rfl⟩:=Int.eq_ofNat_of_zero_le e2;unfold ZkA Zxq;rw [hq,hm,show ((a:Int) + 1).toNat=a + 1 by omega,Int.toNat_natCast];have hb:=Zl3 ⟨a,by omega⟩ ⟨b,by omega⟩;have hp:=ZrX ⟨a,by omega⟩ ⟨b,by omega⟩;rw [Zeq hb,hp];dsimp only;rw [if_neg (by omega)];simp only [Prod.mk.injEq,and_true];rw [<-e4,show (a:Int) + 1 - 1=a by omega,Int.mul_comm]
theorem Zte (s:ByteArray) (i:Nat) (h:¬ (s.get! (i + 0)).toNat<128):128<=(Utf8.decode s i).1:=by
 unfold Utf8.decode;dsimp only;rw [if_neg h];split
 ·split
  ·assumption
  ·decide
 ·split
  ·split
   ·rename_i h;simp only [Bool.and_eq_true,decide_eq_true_iff] at h;have:=h.1;dsimp only;omega
   ·decide
  ·split
   ·split
    ·rename_i h;simp only [Bool.and_eq_true,decide_eq_true_iff] at h;have:=h.1;dsimp only;omega
    ·decide
   ·decide
set_option maxRecDepth 10000
def B296 (c:Int) (K:nK) (w : nW):Prop:=
 nC 302 #[nI c,nI 10] w λ b d=>
 ∃ a,(b=.returned (.string a))/\
 K (.string a) d
theorem Zya (a:Int) (K:nK) (w : nW) (h:B296 a K w):Zm prog 296 #[nI a] w K:=cq (sk:=.leaf) h func296
def B302 (d:Int) (m:Int) (K:nK) (w : nW):Prop:=
 Br (m==10)
 (∃ (f:World->Prop),(Br (decide (0<=d))
 (Br (decide (d<100))
 (nC 306 #[nI d] w λ y D=>
 ∃ n,(y=.returned (.string n))/\
 K (.string n) D)
 (f  w))
 (f  w))/\
 ∀ (G:Env)  (u:World),f  u->
 New (.cells #[.int .u8 0,.int .u8 0,.int .u8 0,.int .u8 0,.int .u8 0,.int .u8 0,.int .u8 0,.int .u8 0,.int .u8 0,.int .u8 0,.int .u8 0,.int .u8 0,.int .u8 0,.int .u8 0,.int .u8 0,.int .u8 0,.int .u8 0,.int .u8 0,.int .u8 0,.int .u8 0,.int .u8 0,.int .u8 0,.int .u8 0,.int .u8 0] 328 (0,0)) (λ e v=>
 ∃ (g:Int->World->Prop),(Br (decide (d<0))
 (g (IntKind.u64.wrap (0 - IntKind.u64.wrap d)) v)
 (g (IntKind.u64.wrap d) v))/\
 ∀ (H:Env) (j:Int) (x:World),g j x->
 nC 307 #[.int .u64 j] x λ z E=>
 ∃ b,(z=.returned (nI b))/\
 ∃ o:Addr,(some (Addr.mk e 0 none)=some o)/\
 ((0:Int)<=wI (1 + b))/\
 ((wI (1 + b):Int)<=24)/\
 ((0:Int)<=1)/\
 ((1:Int)<=(↑(wI (1 + b)).toNat:Int))/\
 nC 308 #[.slice (Zck (some o) (Int.toNat 1) 24 1) ((wI (1 + b)).toNat - Int.toNat 1) 23,.int .u64 j] E λ A k=>
 (A=.returned (.tuple #[]))/\
 Br (decide (d<0))
 (∃ l,(St 5 (Addr.add ⟨e,0,none⟩ 0) (.int .u8 45) k l)/\
 ∃ p:Addr,(some (Addr.mk e 0 none)=some p)/\
 ((0:Int)<=wI (1 + b))/\
 ((wI (1 + b):Int)<=24)/\
 ∃ q:ByteArray,(∀ c,(λ c=>c=l) c->((convert 47 9 (.slice ((some (p))) ((wI (1 + b)).toNat) 24))).run prog c=.ok (.string q) c)/\
 K (.string q) l)
 (∃ r:Addr,(some (Addr.mk e 0 none)=some r)/\
 ((0:Int)<=wI (1 + b))/\
 ((wI (1 + b):Int)<=24)/\
 ((0:Int)<=1)/\
 ((1:Int)<=(↑(wI (1 + b)).toNat:Int))/\
 ∃ s:ByteArray,(∀ c,(λ c=>c=k) c->((convert 47 9 (.slice (Zck (some r) (Int.toNat 1) 24 1) ((wI (1 + b)).toNat - Int.toNat 1) 23))).run prog c=.ok (.string s) c)/\
 K (.string s) k)) u)
 (nC 309 #[.slice none 0 0,.int .u64 (IntKind.u64.wrap d),nI m,.bool (decide (d<0)),.bool false] w λ C F=>
 ∃ i:Sl,∃ t,(C=.returned (.tuple #[i.v,.string t]))/\
 K (.string t) F)
def ZB5:Sk:=(.seq .leaf (.seq (.seq .leaf (.cond (.cut [] [] [4,12,13,14,15,16,17,18,19] .leaf (.seq .leaf (.seq .leaf (.cut [6] [(.int .u64)] [6,22,23,24,25] .leaf .leaf)))) .leaf)) .leaf))
theorem Zx9 (b:Int) (a:Int) (K:nK) (w : nW) (h:B302 b a K w):Zm prog 302 #[nI b,nI a] w K:=cq (sk:=ZB5) h func302
def B306 (a:Int) (K:nK) (w : nW):Prop:=
 Br (decide (a<10))
 (((0:Int)<=wI (a + 1))/\
 ((wI (a + 1):Int)<=36)/\
 ((0:Int)<=a)/\
 ((a:Int)<=(↑(wI (a + 1)).toNat:Int))/\
 K (.string ((ByteArray.mk #[48,49,50,51,52,53,54,55,56,57,97,98,99,100,101,102,103,104,105,106,107,108,109,110,111,112,113,114,115,116,117,118,119,120,121,122]).extract a.toNat (wI (a + 1)).toNat)) w)
 (((0:Int)<=wI (wI (a * 2) + 2))/\
 ((wI (wI (a * 2) + 2):Int)<=200)/\
 ((0:Int)<=wI (a * 2))/\
 ((wI (a * 2):Int)<=(↑(wI (wI (a * 2) + 2)).toNat:Int))/\
 K (.string ((ByteArray.mk (([48,48,48,49,48,50,48,51,48,52,48,53,48,54,48,55,48,56,48,57,49,48,49,49,49,50,49,51,49,52,49,53,49,54,49,55,49,56,49,57,50,48,50,49,50,50,50,51,50,52].append [50,53,50,54,50,55,50,56,50,57,51,48,51,49,51,50,51,51,51,52,51,53,51,54,51,55,51,56,51,57,52,48,52,49,52,50,52,51,52,52,52,53,52,54,52,55,52,56,52,57]).append ([53,48,53,49,53,50,53,51,53,52,53,53,53,54,53,55,53,56,53,57,54,48,54,49,54,50,54,51,54,52,54,53,54,54,54,55,54,56,54,57,55,48,55,49,55,50,55,51,55,52].append [55,53,55,54,55,55,55,56,55,57,56,48,56,49,56,50,56,51,56,52,56,53,56,54,56,55,56,56,56,57,57,48,57,49,57,50,57,51,57,52,57,53,57,54,57,55,57,56,57,57])).toArray).extract (wI (a * 2)).toNat (wI (wI (a * 2) + 2)).toNat)) w)
theorem Zx8 (a:Int) (K:nK) (w : nW) (h:B306 a K w):Zm prog 306 #[nI a] w K:=cq (sk:=.leaf) h func306
end
section
open Go Go.VC Tryz
variable {R:Cx} {Hs Rest:List HP} {w:World}
def ZAj:ByteArray:=ByteArray.mk #[48,49,50,51,52,53,54,55,56,57,97,98,99,100,101,102,103,104,105,106,107,108,109,110,111,112,113,114,115,116,117,118,119,120,121,122]
def ZAi:ByteArray:=ByteArray.mk (([48,48,48,49,48,50,48,51,48,52,48,53,48,54,48,55,48,56,48,57,49,48,49,49,49,50,49,51,49,52,49,53,49,54,49,55,49,56,49,57,50,48,50,49,50,50,50,51,50,52].append [50,53,50,54,50,55,50,56,50,57,51,48,51,49,51,50,51,51,51,52,51,53,51,54,51,55,51,56,51,57,52,48,52,49,52,50,52,51,52,52,52,53,52,54,52,55,52,56,52,57]).append ([53,48,53,49,53,50,53,51,53,52,53,53,53,54,53,55,53,56,53,57,54,48,54,49,54,50,54,51,54,52,54,53,54,54,54,55,54,56,54,57,55,48,55,49,55,50,55,51,55,52].append [55,53,55,54,55,55,55,56,55,57,56,48,56,49,56,50,56,51,56,52,56,53,56,54,56,55,56,56,56,57,57,48,57,49,57,50,57,51,57,52,57,53,57,54,57,55,57,56,57,57])).toArray
theorem Zpl:∀ r:Fin 10,ZAj.extract r.1 (r.1 + 1)=VC.strOf (Zob r.1):=by decide +kernel
theorem Zpk:∀ r:Fin 100,10<=r.1->ZAi.extract (r.1 * 2) (r.1 * 2 + 2)=VC.strOf (Zob r.1):=by decide +kernel
theorem ZsJ {n:Nat} (h:n<100) (hw:Sat R Hs w):Zm prog 284 #[nI n] w λ v w'=>v=.string (VC.strOf (Zob n))/\Sat R Hs w':=by
 apply Zyc;have h3:Zm prog 306 #[nI n] w λ v w'=>v=.string (VC.strOf (Zob n))/\Sat R Hs w':=by
  apply Zx8;have w1:wI ((n:Int) + 1)=((n + 1:Nat):Int):=Zf;have w2:wI ((n:Int) * 2)=((n * 2:Nat):Int):=Zf;have w3:wI (((n * 2:Nat):Int) + 2)=((n * 2 + 2:Nat):Int):=Zf;rw [B306,w2,w3,w1];refine Br.d (λ h=>?_) (λ h=>?_)
  ·refine ⟨by omega,by omega,by omega,by omega,?_,hw⟩
   exact congrArg Value.string (Zpl ⟨n,by omega⟩)
  ·refine ⟨by omega,by omega,by omega,by omega,?_,hw⟩
   exact congrArg Value.string (Zpk ⟨n,by omega⟩ (by dsimp only;omega))
 have h2:Zm prog 302 #[nI n,nI 10] w λ v w'=>v=.string (VC.strOf (Zob n))/\Sat R Hs w':=by
  apply Zx9;refine Br.t rfl ⟨λ _=>False,Br.t (decide_eq_true (by omega)) (Br.t (decide_eq_true (by omega)) ?_),λ _ _ h=>h.elim⟩;refine h3.u λ w hw=>?_;exact ⟨_,rfl,rfl,hw⟩
 have h1:Zm prog 296 #[nI n] w λ v w'=>v=.string (VC.strOf (Zob n))/\Sat R Hs w':=by
  apply Zya;refine h2.u λ w hw=>?_;exact ⟨_,rfl,rfl,hw⟩
 refine h1.u λ w hw=>?_;exact ⟨_,rfl,rfl,hw⟩
def Zu4 (n:Int) (g:List Int) (k:Int):ByteArray × Int:=if 0<=k/\k<Za5 n g then (Zxq g.sum k,0) else (⟨#[]⟩,1)
theorem ZsE {n:Int} {g:List Int} {k:Int} (h:0<=k/\k<Za5 n g):∃ a b q m:Nat,k=a/\g.sum=b/\1<=b/\b<=10/\q<60/\m<b/\Zxq g.sum k=VC.strOf (ZfT (q + 1) m)/\(∀ x∈g,1<=x/\x<=10)/\g.length<=4/\((a:Int)).tmod (b:Int)=(m:Int)/\((a:Int)).tdiv (b:Int)=(q:Int):=by
 have hok:ZdQ n g=true:=by
  by_cases hok:ZdQ n g=true
  ·exact hok
  ·unfold Za5 at h;rw [if_neg hok] at h;omega
 obtain ⟨h1,h2,h3⟩:=Zaa.1 hok;have hp:=ZjJ h2 (by omega);rw [Zkh hok] at h;obtain ⟨a,rfl⟩:=Int.eq_ofNat_of_zero_le h.1;obtain ⟨b,hb⟩:=Int.eq_ofNat_of_zero_le (show 0<=g.sum by omega);rw [hb] at h hp h3;have hd:(a:Int) / (b:Int)<n:=Int.ediv_lt_of_lt_mul (by omega) h.2;refine ⟨a,b,a / b,a % b,rfl,hb,by omega,by omega,?_,Nat.mod_lt _ (by omega),?_,h2,by omega,rfl,rfl⟩
 ·rw [<-Int.natCast_ediv] at hd;omega
 ·unfold Zxq
  rw [hb,<-Int.natCast_ediv,<-Int.natCast_emod];rfl
theorem Zp1 {n k:Int} {s:Sl} {g:List Int} (hs:RoI R s g) (hw:Sat R Hs w):
  Zm prog 253 #[.agg #[nI n,.slice s.a s.len s.cap],nI k] w λ v w'=>v=.tuple #[.string (Zu4 n g k).1,nI (Zu4 n g k).2]/\Sat R Hs w':=by
 apply Zyo;refine Za hw λ p w hw=>?_;have hw:Sat R (pts p (Zfq n s)::Hs) w:=hw;refine ⟨n,s,oA hw,?_⟩;refine (Zlk hs hw).u λ w hw=>?_;refine ⟨_,rfl,Br.nd (λ h=>⟨?_,hw.drop⟩) (λ h=>?_)⟩
 ·unfold Zu4;rw [if_neg h]
 have e:Zu4 n g k=(Zxq g.sum k,0):=by unfold Zu4;rw [if_pos h]
 rw [e];obtain ⟨a,b,q,m,rfl,hb,b1,b2,a1,a2,hl,hg,hg2,e1,e2⟩:=ZsE h;rw [hl];refine ⟨n,s,oA hw,?_⟩;refine (Zb2 hs (λ x hx=>by have:=hg x hx;omega) hg2 hw).u λ w hw=>?_;rw [hb];refine ⟨_,rfl,?_⟩;refine Zo hw λ w hw=>?_;have w1:wI ((m:Int) + 1)=((m + 1:Nat):Int):=Zf;have w2:wI (q:Int)=(q:Int):=Zf;have w3:wI ((q:Int) + 1)=((q + 1:Nat):Int):=Zf;rw [e1,e2,w1,w2,w3];refine Nz.mk (by omega) (Nz.mk (by omega) (Nz.mk (by omega) ⟨by omega,by omega,by omega,by omega,?_⟩));refine (ZsJ (by omega) hw).u λ w hw=>?_;have eL:(ByteArray.mk #[65,66,67,68,69,70,71,72,74,75]).extract ((m:Int)).toNat (((m + 1:Nat):Int)).toNat=VC.strOf [Za4 (m)]:=ZpW ⟨m,by omega⟩;rw [eL];refine ⟨_,rfl,?_,?_,hw.drop⟩
 ·have:(VC.strOf (Zob (q + 1))).size<=2:=by
   show ((Zob (q + 1)).map _).toArray.size<=2;rw [List.size_toArray,List.length_map];unfold Zob;split<;>simp
  have h1:(VC.strOf [Za4 (m)]).size=1:=rfl;omega
 ·rw [ZsC ⟨q + 1,by omega⟩ ⟨m,by omega⟩]
theorem ZxZ {c:Int} {j:Nat} (hj:j<10) (hn:∀ i,i<j->Za4 i≠c) (h:Za4 j=c):ZkM c=j:=by
 have hl:ZhX.findIdx? (·==c)=some j:=by
  rw [List.findIdx?_eq_some_iff_getElem];refine ⟨hj,?_,λ i hi=>?_⟩
  ·unfold Za4 at h
   rw [List.getD_eq_getElem?_getD,List.getElem?_eq_getElem (show j<ZhX.length from hj)] at h
   exact beq_iff_eq.2 h
  ·have:=hn i hi
   unfold Za4 at this;rw [List.getD_eq_getElem?_getD,List.getElem?_eq_getElem (show i<ZhX.length from by show i<10;omega)] at this
   simpa using this
 unfold ZkM;rw [hl]
theorem ZxY {c:Int} (hn:∀ i,i<10->Za4 i≠c):ZkM c=-1:=by
 unfold ZkM;split
 ·rename_i i hi
  obtain ⟨hlt,hp,_⟩:=List.findIdx?_eq_some_iff_getElem.1 hi;have:=hn i hlt;unfold Za4 at this;rw [List.getD_eq_getElem?_getD,List.getElem?_eq_getElem hlt] at this;exact absurd (by simpa using hp) this
 ·rfl
theorem ZnF {c:Int} (hw:Sat R Hs w):Zm prog 280 #[.int .i32 c] w λ v w'=>v=nI (ZkM c)/\Sat R Hs w':=by
 apply Zye;refine ⟨λ i w=>∃ j:Nat,i=j/\j<=10/\(∀ k,k<j->Za4 k≠c)/\Sat R Hs w,λ i _=>10 - i.toNat,⟨0,rfl,by omega,λ k h=>by omega,hw⟩,?_⟩;clear hw;rintro _ _ w ⟨j,rfl,hj,hn,hw⟩;refine Br.d (λ h=>?_) (λ h=>?_)
 ·obtain ⟨b,hb,hv⟩:=Zsw ⟨j,by omega⟩
  refine ⟨b,by omega,hb,?_⟩;have hbd:=b.toNat_lt;rw [show IntKind.i32.wrap (b.toNat:Int)=(b.toNat:Int) by rw [IntKind.wrap_i32];omega];refine Br.e (λ h2=>⟨?_,hw⟩) (λ h2=>?_)
  ·rw [ZxZ (by omega) hn (hv.symm.trans h2)]
  ·rw [Zf]
   refine ⟨⟨j + 1,by omega,by omega,λ k hk=>?_,hw⟩,by dsimp only;omega⟩;by_cases hkj:k=j
   ·subst hkj;rw [<-hv];exact h2
   ·exact hn k (by omega)
 ·exact ⟨by rw [ZxY (λ i hi=>hn i (by omega))],hw⟩
def Zbk (n:Int) (g:List Int) (lab:ByteArray):Int × Int:=if ZdQ n g then ZkA n g.sum lab else (0,1)
theorem Zoh (c:Int) (l:List Int) (first:Bool) (row last:Int):prs (c::l) first row last=if 0<=last\/(first=true/\c=48)\/row>60 then none
  else if ZsM c then prs l false (10 * row + (c - 48)) last else if ZkM c<0 then none else prs l false row (ZkM c):=rfl
theorem ZuE {lab:ByteArray} {pos:Nat} (h:pos<lab.size):(ZX lab).drop pos=((lab[pos]'h).toNat:Int)::(ZX lab).drop (pos + 1):=by
 have hl:pos<(ZX lab).length:=by rw [Zak];exact h
 rw [List.drop_eq_getElem_cons hl]
 congr 1
 simp [ZX];rfl
theorem ZpX:∀ i:Fin 10,Za4 i.1<=75:=by decide +kernel
theorem Ztj {c:Int} (h:128<=c):ZkM c<0:=by
 by_cases h2:ZkM c<0
 ·exact h2
 ·obtain ⟨h0,h1,h3⟩:=ZkL h2
  have:=ZpX ⟨(ZkM c).toNat,by omega⟩;dsimp only at this;omega
theorem Zs2 {n:Int} {s:Sl} {g:List Int} {lab:ByteArray} (hs:RoI R s g) (hsz:lab.size<=9223372036854775807) (hw:Sat R Hs w):
  Zm prog 247 #[.agg #[nI n,.slice s.a s.len s.cap],.string lab] w λ v w'=>v=.tuple #[nI (Zbk n g lab).1,nI (Zbk n g lab).2]/\Sat R Hs w':=by
 apply Zyt;refine Za hw λ p w hw=>?_;have hw:Sat R (pts p (Zfq n s)::Hs) w:=hw;refine ⟨n,s,oA hw,?_⟩;refine (Zgr hs hw).use ?_;rintro _ w ⟨rfl,hw⟩;refine ⟨_,rfl,Br.nb (λ h=>⟨?_,hw.drop⟩) (λ hok=>?_)⟩
 ·unfold Zbk;rw [h];rfl
 have e:Zbk n g lab=ZkA n g.sum lab:=by unfold Zbk;rw [if_pos hok]
 rw [e];obtain ⟨l1,l2,l3⟩:=Zaa.1 hok;have hp:=ZjJ l2 (by omega);refine Za hw λ b w hw=>?_;have no:prs (ZX lab) true 0 (-1)=none->ZkA n g.sum lab=(0,2):=λ h=>by unfold ZkA;rw [h]
 refine ⟨λ row last w=>∃ pos:Nat,pos<=lab.size/\prs ((ZX lab).drop pos) (decide (pos=0)) row last=prs (ZX lab) true 0 (-1)/\0<=row/\row<=700/\-1<=last/\last<10/\Sat R (pts b (.stringIter lab pos)::pts p (Zfq n s)::Hs) w,
  λ _ _ w=>lab.size - w.iterPos b,⟨0,by omega,rfl,by omega,by omega,by omega,by omega,hw⟩,?_⟩
 clear hw;rintro _ row last w ⟨pos,hpos,hprs,r0,r1,t0,t1,hw⟩;have hpw:w.iterPos b=pos:=by have:=hw.at;simp [World.iterPos,this]
 refine ⟨b,lab,pos,rfl,hw.at,λ hlt=>?_,λ hlt=>?_⟩
 ·rw [ZuE hlt] at hprs
  have hbyte:=(lab[pos]'hlt).toNat_lt;have hw2:=hw.setPts (.stringIter lab (pos + (Utf8.decode lab pos).2));generalize hw':w.setBlock b (.stringIter lab (pos + (Utf8.decode lab pos).2))=w2 at hw2;have:({ w with heap:=w.heap.setIfInBounds b (.stringIter lab (pos + (Utf8.decode lab pos).2)) }:World)=w2:=hw';rw [this];have hc:((lab[pos]'hlt).toNat<128/\Utf8.decode lab pos=((lab[pos]'hlt).toNat,1))\/(128<=(lab[pos]'hlt).toNat/\128<=(Utf8.decode lab pos).1):=by
   by_cases h:(lab[pos]'hlt).toNat<128
   ·exact .inl ⟨h,decode_ascii lab pos hlt h⟩
   ·refine .inr ⟨by omega,Zte lab pos ?_⟩
    have e:lab.get! (pos + 0)=lab[pos]'hlt:=by
     show lab.get! pos=_;simp [ByteArray.get!,getElem!_pos,hlt];rfl
    rw [e];exact h
  clear this hw';generalize hdc:Utf8.decode lab pos=dc at *;obtain ⟨c,wd⟩:=dc;dsimp only at hc hw2 ⊢;generalize hby:(lab[pos]'hlt).toNat=by0 at *;have hc0:(c:Int)=by0/\wd=1\/128<=by0/\128<=c:=by
   rcases hc with ⟨_,h⟩|h
   ·simp only [Prod.mk.injEq] at h;exact .inl ⟨by omega,h.2⟩
   ·exact .inr h
  have h48:(by0:Int)=48↔(c:Int)=48:=by omega
  refine ⟨λ t w=>t=decide (0<=last\/(decide (pos=0)=true/\(by0:Int)=48)\/row>60)/\Sat R (pts b (.stringIter lab (pos + wd))::pts p (Zfq n s)::Hs) w,?_,?_⟩
  ·refine Br.d (λ h=>⟨?_,hw2⟩) (λ h=>Br.e (λ h2=>Br.e (λ h3=>⟨?_,hw2⟩) (λ h3=>⟨?_,hw2⟩)) (λ h2=>⟨?_,hw2⟩))
   ·rw [decide_eq_true (.inl h)]
   ·rw [decide_eq_true (.inr (.inl ⟨decide_eq_true (by omega),h48.2 h3⟩))]
   ·rw [decide_eq_decide]
    constructor
    ·intro h4;exact .inr (.inr h4)
    ·rintro (h4|⟨_,h4⟩|h4)
     ·omega
     ·exact absurd (h48.1 h4) h3
     ·exact h4
   ·rw [decide_eq_decide]
    constructor
    ·intro h4;exact .inr (.inr h4)
    ·rintro (h4|⟨h4,_⟩|h4)
     ·omega
     ·have:=of_decide_eq_true h4;omega
     ·exact h4
  clear hw hw2;rintro _ _ w3 ⟨rfl,hw⟩;refine Br.d (λ h=>⟨?_,hw.drop.drop⟩) (λ h=>?_)
  ·rw [Zoh] at hprs
   rw [if_pos h] at hprs;rw [no hprs.symm]
  rw [Zoh] at hprs;rw [if_neg h] at hprs;refine ⟨λ t w=>t=ZsM c/\Sat R (pts b (.stringIter lab (pos + wd))::pts p (Zfq n s)::Hs) w,?_,?_⟩
  ·unfold ZsM
   refine Br.d (λ h=>⟨?_,hw⟩) (λ h=>⟨?_,hw⟩)
   ·rw [decide_eq_decide];omega
   ·rw [decide_eq_false (by omega)]
  clear hw;rintro _ _ w4 ⟨rfl,hw⟩;refine Br.mk (λ h2=>?_) (λ h2=>?_)
  ·have h3:=of_decide_eq_true h2
   rcases hc0 with ⟨hcb,rfl⟩|hc0
   ·rw [<-hcb,if_pos h2] at hprs
    rw [show IntKind.i32.wrap ((c:Int) - 48)=(c:Int) - 48 by rw [IntKind.wrap_i32];omega,Zf (x:=10 * row),Zf (x:=(c:Int) - 48),Zf];refine ⟨⟨pos + 1,by omega,?_,by omega,by omega,by omega,by omega,hw⟩,?_⟩
    ·rw [decide_eq_false (by omega)];exact hprs
    ·have:w4.iterPos b=pos + 1:=by have:=hw.at;simp [World.iterPos,this]
     rw [this,hpw];omega
   ·omega
  ·refine (ZnF hw).use ?_
   rintro _ w5 ⟨rfl,hw⟩;refine ⟨_,rfl,Br.d (λ h3=>⟨?_,hw.drop.drop⟩) (λ h3=>?_)⟩
   ·have hno:ZkM (by0:Int)<0:=by
     rcases hc0 with ⟨hcb,rfl⟩|hc0
     ·rw [<-hcb];exact h3
     ·exact Ztj (by omega)
    have hnd:ZsM (by0:Int)=false:=by
     rcases hc0 with ⟨hcb,rfl⟩|hc0
     ·rw [<-hcb];exact h2
     ·exact decide_eq_false (by omega)
    rw [hnd,if_neg (by simp),if_pos hno] at hprs;rw [no hprs.symm]
   ·obtain ⟨c0,c1,c2⟩:=ZkL h3
    rcases hc0 with ⟨hcb,rfl⟩|hc0
    ·rw [<-hcb,h2,if_neg (by simp),if_neg h3] at hprs
     refine ⟨⟨pos + 1,by omega,?_,by omega,by omega,by omega,by omega,hw⟩,?_⟩
     ·rw [decide_eq_false (by omega)];exact hprs
     ·have:w5.iterPos b=pos + 1:=by have:=hw.at;simp [World.iterPos,this]
      rw [this,hpw];omega
    ·have:=Ztj (c:=(c:Int)) (by omega);omega
 ·rw [List.drop_eq_nil_of_le (by rw [Zak];omega)] at hprs
  have hw:=hw.drop;have ef:ZkA n g.sum lab=if row<1\/row>n\/last<0\/last >= g.sum then (0,2) else ((row - 1) * g.sum + last,0):=by
   unfold ZkA;rw [<-hprs];rfl
  rw [ef];refine Br.d (λ h=>⟨by rw [if_pos (.inl h)],hw.drop⟩) (λ h1=>?_);refine ⟨n,oA hw,Br.d (λ h=>⟨by rw [if_pos (.inr (.inl h))],hw.drop⟩) (λ h2=>?_)⟩;refine Br.d (λ h=>⟨by rw [if_pos (.inr (.inr (.inl h)))],hw.drop⟩) (λ h3=>?_);refine ⟨n,s,oA hw,?_⟩;refine (Zb2 hs (λ x hx=>by have:=l2 x hx;omega) (by omega) hw).use ?_;rintro _ w ⟨rfl,hw⟩;refine ⟨_,rfl,Br.d (λ h=>⟨by rw [if_pos (.inr (.inr (.inr h)))],hw.drop⟩) (λ h4=>?_)⟩;refine ⟨n,s,oA hw,?_⟩;refine (Zb2 hs (λ x hx=>by have:=l2 x hx;omega) (by omega) hw).use ?_;rintro _ w ⟨rfl,hw⟩;refine ⟨_,rfl,?_,hw.drop⟩;have hm:=Zv7 (a:=row - 1) (b:=g.sum) (by omega) (by omega) (by omega) (by omega);rw [if_neg (by omega),Zf (x:=row - 1),Zf (x:=(row - 1) * g.sum),Zf]
def ZhC:List Int->Int->Int × Int
 |[],_=>(0,0)
 |x::g,a=>if a<x then (a,x - 1 - a) else ZhC g (a - x)
theorem Zpn (x:Int) (g:List Int) (a:Int):ZhC (x::g) a=if a<x then (a,x - 1 - a) else ZhC g (a - x):=rfl
theorem Zpm {n k:Int} {s:Sl} {g:List Int} (hs:RoI R s g) (hg:∀ x∈g,1<=x/\x<=10) (hl:g.length<=4) (hl1:1<=g.length) (hk:0<=k) (hw:Sat R Hs w):
  Zm prog 251 #[.agg #[nI n,.slice s.a s.len s.cap],nI k] w λ v w'=>v=.tuple #[nI (ZhC g (k % g.sum)).1,nI (ZhC g (k % g.sum)).2]/\Sat R Hs w':=by
 have hlen:=hs.len;have hp:=ZjJ hg hl1;apply Zyp;refine Za hw λ p w hw=>?_;have hw:Sat R (pts p (Zfq n s)::Hs) w:=hw;refine ⟨n,s,oA hw,?_⟩;refine (Zb2 hs (λ x hx=>by have:=hg x hx;omega) hl hw).use ?_;rintro _ w ⟨rfl,hw⟩;refine ⟨_,rfl,Nz.mk (by omega) ⟨s,oA hw,?_⟩⟩;rw [Int.tmod_eq_emod_of_nonneg hk];have m0:=Int.emod_nonneg k (show g.sum≠0 by omega);have m1:=Int.emod_lt_of_pos k (show 0<g.sum by omega);have hsb:=Zk9 (g:=g) (λ x hx=>by have:=hg x hx;omega);generalize k % g.sum=a at *;refine ⟨λ at' i w=>∃ j:Nat,i=j/\j<=g.length/\0<=at'/\at'<=a/\ZhC (g.drop j) at'=ZhC g a/\Sat R (pts p (Zfq n s)::Hs) w,λ _ i _=>g.length - i.toNat,⟨0,rfl,by omega,by omega,by omega,rfl,hw⟩,?_⟩;clear hw;rintro _ at' _ w ⟨j,rfl,hj,h0,h1,hn,hw⟩;refine Br.d (λ h=>?_) (λ h=>?_)
 ·have hj2:j<g.length:=by omega
  have hx:=hg g[j] (List.getElem_mem _);rw [List.drop_eq_getElem_cons hj2,Zpn] at hn;refine hs.idx (eqS hw) hj2 ?_;refine Br.d (λ h2=>⟨?_,hw.drop⟩) (λ h2=>?_)
  ·rw [if_pos h2] at hn
   rw [Zf (x:=g[j] - 1),Zf];have:=hn.symm;rw [show ZhC g a=(at',g[j] - 1 - at') from this]
  ·rw [if_neg h2] at hn
   rw [Zf (x:=at' - g[j]),Zf];exact ⟨⟨j + 1,by omega,by omega,by omega,by omega,hn,hw⟩,by dsimp only;omega⟩
 ·rw [List.drop_eq_nil_of_le (by omega)] at hn
  refine ⟨?_,hw.drop⟩;rw [show ZhC g a=(0,0) from hn.symm]
end
section
open Go Go.VC Tryz
section
variable (u z:Nat->Bool)
def Zav:Nat->List Nat
 |0=>[]
 |j + 1=>Zav j++(if u j then [] else [j])
def Zgo:Nat->Nat
 |0=>0
 |j + 1=>if u j then 0 else (if z j then 0 else Zgo j) + 1
def ZkT (j many:Nat):List Nat:=(List.range many).map λ t=>j - many + t
def Ze3 (N many:Nat):List Nat × Int:=
 match (List.range N).find? λ j=>Zgo u z (j + 1)==many with
 |some j=>(ZkT (j + 1) many,0)
 |none=>if (Zav u N).length<many then ([],3) else ((Zav u N).take many,0)
variable {u z}
theorem ZeL (j:Nat):Zav u (j + 1)=Zav u j++(if u j then [] else [j]):=rfl
theorem Zkw {i j:Nat}:∀ {N:Nat},(Zav u N)[i]? =some j->j<N/\u j=false/\(Zav u j).length=i
 |0,h=>by simp [Zav] at h
 |N + 1,h=>by
  rw [ZeL] at h;by_cases hi:i<(Zav u N).length
  ·rw [List.getElem?_append_left hi] at h
   obtain ⟨h1,h2⟩:=Zkw h;exact ⟨by omega,h2⟩
  ·rw [List.getElem?_append_right (by omega)] at h
   split at h
   ·simp at h
   ·rename_i hu
    rcases hk:i - (Zav u N).length with _|k
    ·rw [hk] at h
     simp at h;subst h;exact ⟨by omega,by simpa using hu,by omega⟩
    ·rw [hk] at h;simp at h
theorem Zei (j:Nat):(Zav u (j + 1)).length=(Zav u j).length + (if u j then 0 else 1):=by
 rw [ZeL,List.length_append];split<;>rfl
theorem ZsU {j:Nat}:∀ t:Nat,(Zav u j).length<=(Zav u (j + t)).length
 |0=>by simp
 |t + 1=>by
  have:=ZsU (j:=j) t;rw [<-Nat.add_assoc,Zei];omega
theorem Zdu (j:Nat):Zgo u z (j + 1)=if u j then 0 else (if z j then 0 else Zgo u z j) + 1:=rfl
theorem Zrq:∀ {j m:Nat},m<=Zgo u z j↔m<=j/\∀ x,j - m<=x->x<j->u x=false/\(j - m<x->z x=false)
 |j,0=>⟨λ _=>⟨by omega,λ x h1 h2=>by omega⟩,λ _=>by omega⟩
 |0,m + 1=>⟨λ h=>by simp [Zgo] at h,λ h=>by omega⟩
 |j + 1,m + 1=>by
  rw [Zdu];cases hu:u j with
  |true=>
   refine ⟨λ h=>by simp at h,λ h=>?_⟩;have:=(h.2 j (by omega) (by omega)).1;rw [hu] at this;cases this
  |false=>
   simp only [Bool.false_eq_true,if_false];cases hz:z j with
   |true=>
    simp only [if_true];constructor
    ·intro h
     obtain rfl:m=0:=by omega
     exact ⟨by omega,λ x h1 h2=>by
      obtain rfl:x=j:=by omega
      exact ⟨hu,λ h=>by omega⟩⟩
    ·intro h
     by_cases hm:m=0
     ·omega
     ·have:=(h.2 j (by omega) (by omega)).2 (by omega)
      rw [hz] at this;cases this
   |false=>
    simp only [Bool.false_eq_true,if_false];have ih:=Zrq (j:=j) (m:=m);constructor
    ·intro h
     obtain ⟨h1,h2⟩:=ih.1 (by omega);refine ⟨by omega,λ x h3 h4=>?_⟩;by_cases hx:x=j
     ·subst hx;exact ⟨hu,λ _=>hz⟩
     ·obtain ⟨h5,h6⟩:=h2 x (by omega) (by omega)
      exact ⟨h5,λ h=>h6 (by omega)⟩
    ·rintro ⟨h1,h2⟩
     have:=ih.2 ⟨by omega,λ x h3 h4=>by
      obtain ⟨h5,h6⟩:=h2 x (by omega) (by omega);exact ⟨h5,λ h=>h6 (by omega)⟩⟩
     omega
variable {N many:Nat} {grp:Nat->Int}
theorem ZtL (hm:1<=many) (h:∀ j,j<N->¬ many<=Zgo u z (j + 1)):Ze3 u z N many=if (Zav u N).length<many then ([],3) else ((Zav u N).take many,0):=by
 unfold Ze3;have:((List.range N).find? λ j=>Zgo u z (j + 1)==many)=none:=by
  rw [List.find?_eq_none];intro j hj h2;have h2:=beq_iff_eq.1 h2;exact h j (List.mem_range.1 hj) (by omega)
 rw [this]
theorem ZtK (hm:1<=many) {j:Nat} (hj:j<N) (h:Zgo u z (j + 1)=many) (hn:∀ k,k<j->¬ many<=Zgo u z (k + 1)):Ze3 u z N many=(ZkT (j + 1) many,0):=by
 unfold Ze3;have:((List.range N).find? λ j=>Zgo u z (j + 1)==many)=some j:=by
  rw [List.find?_range_eq_some];exact ⟨by simpa using h,List.mem_range.2 hj,λ k hk=>by
   have:=hn k hk;simp only [Bool.not_eq_true',beq_eq_false_iff_ne];omega⟩
 rw [this]
end
def zF (g:List Int) (k:Nat):Bool:=(ZhC g ((k:Int) % g.sum)).1==0
end
end Go.Proofs.YtlplemdmegpoeaaGreatDoor
namespace Go.VC
section
variable {P:Program} {R:Cx} {Hs Rest:List HP} {w:World} {s:Sl} {T:TypeId}
theorem ZhV {t:TypeId} {bytes n:Nat} {kl kc:IntKind} {z:Value} {K:Sl->World->Prop} (ht:P.underlying t=some (.slice T)) (hi:elB P T bytes=true) (hv:∀ w,(zeroValue T).run P w=.ok z w) (h1:z.cells=#[z])
  (hn:bytes * n<=281474976710656) (h63:n<=9223372036854775807) (hw:Sat R Hs w) (k:∀ s' w',Sat R (Own s' T (List.replicate n z)::Hs) w'->K s' w'):
  ∃ w',∃ t':Sl,(Instr.makeSlice t (.int kl (n:Int)) (.int kc (n:Int))).run P w=.ok (.slice t'.a t'.len t'.cap) w'/\K t' w':=by
 obtain ⟨i,z',hi,hz,hs,hb,hc⟩:=ZnC hi;have hzz:z'=z:=by
  have:=hv w;simp [zeroValue,hi,hz,typeInfo] at this;exact this
 subst hzz;have hb':(i.bytes:Int) * (n:Int)<=281474976710656:=by
  rw [hb];have h:((bytes * n:Nat):Int)<=281474976710656:=by omega
  rwa [Int.natCast_mul] at h
 have hr:=run_make (P:=P) w t T i z' ht hi hz kl kc n n (by omega) (Int.le_refl _) hb' (by omega);simp only [Int.toNat_natCast,hs,Nat.mul_one,h1] at hr;refine ⟨_,⟨some ⟨w.heap.size,0,none⟩,n,n⟩,hr,k _ _ ?_⟩;have e:madeCells #[z'] n=(List.replicate n z').toArray:=by
  apply Array.ext
  ·simp [size_madeCells]
  ·intro j h1 h2
   simp [madeCells,Nat.mod_one]
 rw [e];exact ZbH (hw.alloc _) (by simp)
theorem Own.idxB {xs:List Bool} {S:World->Prop} {Hs':List HP} {i:Int} (hw:Sat R (Own s T (xs.map Value.bool)::Hs) w) (hS:∀ w,S w->Sat R (Own s T (xs.map Value.bool)::Hs') w) (k:Nat) (hi:i=k) (hk:k<xs.length) {F:Bool->Prop} (h:F xs[k]):
  Rng i s.len (Zc s.a λ a=>∃ t:Bool,(At S (a.add i.toNat) [.bool t])/\F t):=by
 subst hi;obtain ⟨b,ha,hat⟩:=Own.addr hw (k:=k) (by simpa using hk);have hl:=Own.len hw;rw [List.length_map] at hl;refine Rng.mk (by omega) (by omega) (Zc.mk ha ⟨xs[k],?_,h⟩);have:=hat hS;simpa using this
theorem Own.storeV {t:TypeId} {xs:List Value} {v:Value} {i:Int} (hsz:(P.info? t).map (·.size)=some 1) (hv:v.cells=#[v]) (h1:v.oneCell'=true) (hw:Sat R (Own s T xs::Hs) w) (k:Nat) (hi:i=k) (hk:k<xs.length) {K:World->Prop}
  (h:∀ w',Sat R (Own s T (xs.set k v)::Hs) w'->K w'):
  Rng i s.len (Zc s.a λ a=>∃ w',(Instr.storeAt t (.pointer (some (Addr.add a i.toNat))) v).run P w=.ok () w'/\K w'):=by
 subst hi;have hl:=Own.len hw;rcases Own.cases hw with ⟨_,h0,_⟩|⟨b,rest,fr,rfl,hfr,hp⟩
 ·subst h0;simp at hk
 ·refine Rng.mk (by omega) (by simp only at hl ⊢;omega) (Zc.mk rfl ?_)
  rw [Zy];refine ZZ hp (by rw [hsz,hv];rfl) (by rw [hv];simp [ZaE,h1]) (by rw [hv];simp;omega) λ w' h2=>h w' ?_;have e:ZeD (xs++rest) (0 + (k:Int).toNat) v.cells.toList=xs.set k v++rest:=by
   rw [hv];simp only [ZeD,Nat.zero_add,Int.toNat_natCast];rw [List.set_append_left _ _ hk]
  rw [e] at h2;have h3:=Own.of_pts h2 (hfr.le (by simp));simpa using h3
theorem Own.ix {kd:IntKind} {xs:List Int} {S:World->Prop} {Hs':List HP} {i:Int} (hw:Sat R (Own s T (xs.map (Value.int kd))::Hs) w) (hS:∀ w,S w->Sat R (Own s T (xs.map (Value.int kd))::Hs') w) (k:Nat) (hi:i=k) (hk:k<xs.length) {F:Int->Prop} (h:F xs[k]):
  Rng i s.len (Zc s.a λ a=>∃ t:Int,(At S (a.add i.toNat) [.int kd t])/\F t):=by
 subst hi;exact Own.idx hw hS hk h
end
end Go.VC
namespace Go.Proofs.YtlplemdmegpoeaaGreatDoor
section
open Go Go.VC Tryz
variable {R:Cx} {Hs Rest:List HP} {w:World}
theorem ZqF:El prog 30 30 3 8:=⟨underlying30,⟨_,underlying30⟩,by kernel_rfl⟩
abbrev ints (l:List Nat):List Value:=(l.map λ (j:Nat)=>(j:Int)).map (Value.int .i64)
def Zbf (taken:List Int) (j:Nat):Bool:=decide ((j:Int)∈taken)
def Zar (n:Int) (g:List Int) (taken:List Int) (many:Int):List Int × Int:=
 if many<1\/many>Za5 n g then ([],1)
 else ((Ze3 (Zbf taken) (zF g) (Za5 n g).toNat many.toNat).1.map λ (j:Nat)=>(j:Int),(Ze3 (Zbf taken) (zF g) (Za5 n g).toNat many.toNat).2)
theorem ZmW {u z:Nat->Bool}:∀ j,Zgo u z j<=j
 |0=>Nat.le_refl _
 |j + 1=>by
  have:=ZmW (u:=u) (z:=z) j;rw [Zdu];split
  ·omega
  ·split<;>omega
theorem ZqP {j m:Nat} (h:m<=j):ZkT (j + 1) (m + 1)=ZkT j m++[j]:=by
 unfold ZkT;rw [List.range_succ,List.map_append]
 congr 1
 ·refine List.map_congr_left λ t _=>by omega
 ·simp;omega
theorem Zha (j m:Nat):(ZkT j m).length=m:=by unfold ZkT;simp
theorem Zmh {u:Nat->Bool}:∀ j,(Zav u j).length<=j
 |0=>Nat.le_refl _
 |j + 1=>by
  have:=Zmh (u:=u) j;rw [Zei];split<;>omega
theorem Zkk (l:List Nat):(ints l).length=l.length:=by simp [ints]
theorem ZuL {s:Sl} {T:TypeId} {xs:List Value} {k:Nat} (hk:k<=xs.length) (hw:Sat R (Own s T xs::Hs) w):Sat R (Own ⟨s.a,k,s.cap⟩ T (xs.take k)::Hs) w:=by
 rcases Own.cases hw with ⟨rfl,rfl,hn⟩|⟨b,rest,fr,rfl,hfr,hp⟩
 ·obtain rfl:k=0:=by simpa using hk
  exact Own.nil hn
 ·have e:xs++rest=xs.take k++(xs.drop k++rest):=by rw [<-List.append_assoc,List.take_append_drop]
  rw [e] at hp hfr ⊢;have:=Own.of_pts hp hfr;rw [show (xs.take k).length=k by rw [List.length_take];omega] at this;exact this
theorem ZtJ {n many:Int} {s st:Sl} {g taken:List Int} (hs:RoI R s g) (ht:RoI R st taken) (hw:Sat R Hs w):
  Zm prog 179 #[.agg #[nI n,.slice s.a s.len s.cap],.slice st.a st.len st.cap,nI many] w λ v w'=>∃ t:Sl,v=.tuple #[.slice t.a t.len t.cap,nI (Zar n g taken many).2]/\Sat R (Zz t ((Zar n g taken many).1.map (Value.int .i64))::Hs) w':=by
 have hbd:=ZcS n g;have htl:=ht.len;have htb:=ht.bound;have bad:(many<1\/many>Za5 n g)->∀ w,Sat R (pts 0 (.cells #[] 0 (0,0))::Hs) w\/Sat R Hs w->∃ t:Sl,Value.tuple #[.slice none 0 0,nI 1]=.tuple #[.slice t.a t.len t.cap,nI (Zar n g taken many).2]/\Sat R (Zz t ((Zar n g taken many).1.map (Value.int .i64))::Hs) w:=λ h w hw=>by
  have e:Zar n g taken many=([],1):=by unfold Zar;rw [if_pos h]
  rw [e];exact ⟨⟨none,0,0⟩,rfl,Own.reads (T:=0) (Own.nil (by rcases hw with h|h;exact h.drop;exact h))⟩
 apply Zy4;refine Za hw λ p w hw=>?_;have hw:Sat R (pts p (Zfq n s)::Hs) w:=hw;refine ⟨λ w=>(1<=many/\many<=Za5 n g)/\Sat R (pts p (Zfq n s)::Hs) w,Br.d (λ h=>bad (.inl h) _ (.inr hw.drop)) (λ h1=>?_),?_⟩
 ·refine ⟨n,s,oA hw,?_⟩
  refine (ZdC hs hw).u λ w hw=>?_;exact ⟨_,rfl,Br.d (λ h=>bad (.inr h) _ (.inr hw.drop)) (λ h=>⟨⟨by omega,by omega⟩,hw⟩)⟩
 clear hw;rintro _ w ⟨⟨hm1,hm2⟩,hw⟩;have hok:ZdQ n g=true:=by
  by_cases hok:ZdQ n g=true
  ·exact hok
  ·unfold Za5 at hm2;rw [if_neg hok] at hm2;omega
 obtain ⟨l1,l2,l3⟩:=Zaa.1 hok;have eT:Zar n g taken many=((Ze3 (Zbf taken) (zF g) (Za5 n g).toNat many.toNat).1.map λ (j:Nat)=>(j:Int),(Ze3 (Zbf taken) (zF g) (Za5 n g).toNat many.toNat).2):=by
  unfold Zar;rw [if_neg (by omega)]
 rw [eT];obtain ⟨N,hN⟩:=Int.eq_ofNat_of_zero_le hbd.1;obtain ⟨m,rfl⟩:=Int.eq_ofNat_of_zero_le (show 0<=many by omega);rw [hN] at hbd hm2 ⊢;rw [Int.toNat_natCast,Int.toNat_natCast];clear bad eT;generalize hu:Zbf taken=u;generalize hz:zF g=z;refine ⟨n,s,oA hw,?_⟩;refine (ZdC hs hw).use ?_;rw [hN];rintro _ w ⟨rfl,hw⟩;refine ⟨_,rfl,?_⟩;refine ZhV (bytes:=1) (z:=.bool false) underlying291 (by kernel_rfl) zeroValue4 rfl (by omega) (by omega) hw λ su w hw=>?_
 -- which ones are taken
 refine ⟨λ i w=>∃ j:Nat,i=j/\j<=taken.length/\Sat R (Own su 4 (((List.range N).map (Zbf (taken.take j))).map Value.bool)::pts p (Zfq n s)::Hs) w,λ i _=>taken.length - i.toNat,⟨0,rfl,by omega,?_⟩,?_⟩
 ·have e:((List.range N).map (Zbf (taken.take 0))).map Value.bool=List.replicate N (.bool false):=by
   apply List.ext_getElem
   ·simp
   ·intro i h1 h2;simp [Zbf]
  rw [e];exact hw
 clear hw;rintro _ _ w ⟨j,rfl,hj,hw⟩;have hsl:=Own.len hw;simp only [List.length_map,List.length_range] at hsl;refine Br.d (λ h=>?_) (λ h=>?_)
 ·have hj2:j<taken.length:=by omega
  refine ht.idx (eqS hw) hj2 ?_;refine ⟨n,s,oA hw,?_⟩;refine (Zlk hs hw).use ?_;rw [hN];rintro _ w ⟨rfl,hw⟩;have hset:∀ k:Nat,Zbf (taken.take (j + 1)) k=(Zbf (taken.take j) k||decide ((k:Int)=taken[j])):=λ k=>by
   unfold Zbf;rw [List.take_add_one,List.getElem?_eq_getElem hj2];simp only [Option.toList_some,List.mem_append,List.mem_singleton];rw [Bool.decide_or]
  rw [Zf];refine ⟨_,rfl,Br.d (λ h2=>?_) (λ h2=>?_)⟩
  ·obtain ⟨k,hk⟩:=Int.eq_ofNat_of_zero_le h2.1
   refine Own.storeV (by kernel_rfl) rfl rfl hw k hk (by simp;omega) λ w hw=>?_;refine ⟨⟨j + 1,by omega,by omega,?_⟩,by dsimp only;omega⟩;have e:(((List.range N).map (Zbf (taken.take j))).map Value.bool).set k (.bool true)=((List.range N).map (Zbf (taken.take (j + 1)))).map Value.bool:=by
    rw [<-List.map_set]
    congr 1
    apply List.ext_getElem
    ·simp
    ·intro i h3 h4
     simp only [List.length_map,List.length_range,List.length_set] at h3 h4;rw [List.getElem_set];simp only [List.getElem_map,List.getElem_range];rw [hset];split
     ·rename_i h5;subst h5;rw [decide_eq_true hk.symm,Bool.or_true]
     ·rw [decide_eq_false (by omega),Bool.or_false]
   rw [e] at hw;exact hw
  ·refine ⟨⟨j + 1,by omega,by omega,?_⟩,by dsimp only;omega⟩
   have e:(List.range N).map (Zbf (taken.take j))=(List.range N).map (Zbf (taken.take (j + 1))):=by
    refine List.map_congr_left λ i hi=>?_;have hi:=List.mem_range.1 hi;rw [hset,decide_eq_false (by omega),Bool.or_false]
   rw [e] at hw;exact hw
 rw [List.take_of_length_le (show taken.length<=j by omega),hu] at hw
 -- the seats, one behind the other
 refine ⟨n,s,oA hw,?_⟩;refine (ZdC hs hw).use ?_;rw [hN];rintro _ w ⟨rfl,hw⟩;refine ⟨_,rfl,?_⟩;clear h hj hsl;refine ⟨λ sf sr i w=>∃ j:Nat,i=j/\j<=N/\(∀ k,k<j->¬ m<=Zgo u z (k + 1))/\Sat R (Own sf 3 (ints (Zav u j))::Own sr 3 (ints (ZkT j (Zgo u z j)))::Own su 4 (((List.range N).map u).map Value.bool)::pts p (Zfq n s)::Hs) w,
  λ _ _ i _=>N - i.toNat,⟨0,rfl,by omega,λ k h=>by omega,Own.nil (Own.nil hw)⟩,?_⟩
 clear hw;rintro _ sf sr _ w ⟨j,rfl,hj,hn,hw⟩;have hfl:=Zmh (u:=u) j;have hrl:=ZmW (u:=u) (z:=z) j;refine Br.d (λ h=>?_) (λ h=>?_)
 ·have hjN:j<N:=by omega
  have hused:((List.range N).map u)[j]? =some (u j):=by rw [List.getElem?_map,List.getElem?_range hjN];rfl
  have hgu:∀ (hh:j<((List.range N).map u).length),((List.range N).map u)[j]=u j:=λ hh=>by simp
  refine ⟨λ sr w=>Sat R (Own sf 3 (ints (Zav u j))::Own sr 3 (ints (if z j||u j then [] else ZkT j (Zgo u z j)))::Own su 4 (((List.range N).map u).map Value.bool)::pts p (Zfq n s)::Hs) w,?_,?_⟩
  ·refine ⟨n,s,oA hw,?_⟩
   refine (Zpm hs l2 (by omega) (by omega) (by omega) hw).u λ w hw=>?_;have hzj:z j=((ZhC g ((j:Int) % g.sum)).1==0):=by rw [<-hz];rfl
   refine ⟨_,_,rfl,?_⟩;rw [<-hzj];refine Br.mk (λ h2=>?_) (λ h2=>?_)
   ·rw [h2];exact Own.nil (hw.swap.drop)|>.swap
   ·refine Own.idxB (hw.take (Own su 4 (((List.range N).map u).map Value.bool))) (eqS (hw.take (Own su 4 (((List.range N).map u).map Value.bool)))) j rfl (by simp;omega) ?_
    rw [hgu];refine Br.mk (λ h3=>?_) (λ h3=>?_)
    ·rw [h2,h3];exact Own.nil (hw.swap.drop)|>.swap
    ·rw [h2,h3];exact hw
  clear hw;rintro _ sr w hw;refine Own.idxB (hw.take (Own su 4 (((List.range N).map u).map Value.bool))) (eqS (hw.take (Own su 4 (((List.range N).map u).map Value.bool)))) j rfl (by simp;omega) ?_;rw [hgu,Zf];refine Br.mk (λ h3=>?_) (λ h3=>?_)
  ·refine ⟨⟨j + 1,by omega,by omega,λ k hk=>?_,?_⟩,by dsimp only;omega⟩
   ·by_cases hkj:k=j
    ·rw [hkj,Zdu,h3];simp;omega
    ·exact hn k (by omega)
   ·rw [h3,Bool.or_true,if_pos rfl] at hw
    rw [ZeL,Zdu,h3];simp only [if_true,List.append_nil];exact hw
  ·refine ZbX ZqF hw (by rw [List.length_map];omega) λ sf' w hw=>?_
   have hrun:(if z j||u j then [] else ZkT j (Zgo u z j))++[j]=ZkT (j + 1) (Zgo u z (j + 1)):=by
    rw [Zdu,h3,Bool.or_false];simp only [Bool.false_eq_true,if_false];cases hzz:z j with
    |true=>simp [ZkT]
    |false=>
     simp only [Bool.false_eq_true,if_false];exact (ZqP hrl).symm
   have hrl2:=ZmW (u:=u) (z:=z) (j + 1);refine ZbX ZqF hw.swap (by rw [List.length_map];split<;>simp [Zha]<;>omega) λ sr' w hw=>?_;have hw:Sat R (Own sr' 3 (ints (ZkT (j + 1) (Zgo u z (j + 1))))::Own sf' 3 (ints (Zav u (j + 1)))::Own su 4 (((List.range N).map u).map Value.bool)::pts p (Zfq n s)::Hs) w:=by
    have e1:ints (Zav u (j + 1))=(((Zav u j).map λ (j:Nat)=>(j:Int))++[(j:Int)]).map (Value.int .i64):=by rw [ZeL,h3];simp [ints]
    have e2:ints (ZkT (j + 1) (Zgo u z (j + 1)))=(((if z j||u j then [] else ZkT j (Zgo u z j)).map λ (j:Nat)=>(j:Int))++[(j:Int)]).map (Value.int .i64):=by rw [<-hrun];simp only [ints,List.map_append,List.map_cons,List.map_nil]
    rw [e1,e2];exact hw
   have hrlen:=Own.len hw;rw [Zkk,Zha] at hrlen;refine Br.e (λ h4=>?_) (λ h4=>?_)
   ·have hbs:=ZtK (u:=u) (z:=z) (many:=m) (N:=N) (by omega) hjN (by omega) hn
    rw [hbs];refine ⟨sr',rfl,?_⟩;have:=Own.reads hw;rw [show Zgo u z (j + 1)=m by omega] at this;exact Sat.cons (λ R' h=>h.drop.drop.drop) this
   ·refine ⟨⟨j + 1,by omega,by omega,λ k hk hr=>?_,hw.swap⟩,by dsimp only;omega⟩
    by_cases hkj:k=j
    ·subst hkj
     have:Zgo u z (k + 1)<=Zgo u z k + 1:=by rw [Zdu];split<;>(try split)<;>omega
     have:Zgo u z k<m:=by
      by_cases hk0:k=0
      ·rw [hk0];simp only [Zgo];omega
      ·have:=hn (k - 1) (by omega)
       rw [show k - 1 + 1=k by omega] at this;omega
     omega
    ·exact hn k (by omega) hr
 ·obtain rfl:j=N:=by omega
  have hbn:=ZtL (u:=u) (z:=z) (many:=m) (N:=j) (by omega) hn;have hfl2:=Own.len hw;have hcap:=Own.cap hw;rw [Zkk] at hfl2;rw [hbn];refine Br.d (λ h4=>?_) (λ h4=>?_)
  ·rw [if_pos (by omega)]
   exact ⟨⟨none,0,0⟩,rfl,Own.reads (T:=0) (Own.nil hw.drop.drop.drop.drop)⟩
  ·rw [if_neg (by omega)]
   refine ⟨by omega,by omega,⟨sf.a,m,sf.cap⟩,rfl,?_⟩;have:=Own.reads (ZuL (k:=m) (by rw [Zkk];omega) hw);rw [show (ints (Zav u j)).take m=ints ((Zav u j).take m) by simp [ints,List.map_take]] at this;exact Sat.cons (λ R' h=>h.drop.drop.drop) this
theorem _root_.Go.VC.Sat.imp {A B:HP} (h:∀ m,A m->B m) (hw:Sat R (A::Hs) w):Sat R (B::Hs) w:=let ⟨m,a,b,c⟩:=hw;⟨m,h m a,b,c⟩
def inR (x:Int):Bool:=decide (0<=x/\x<=10000)
def Zfo (l:List Int):Bool:=decide (1<=l.length/\l.length<=8) && decide (∀ k,k<l.length->(0<=l.getD k 0/\l.getD k 0<=10000)/\(0<k->l.getD k 0<=l.getD (k - 1) 0))
def ZaN (sold:List Int) (k:Nat):Int:=(sold.drop k).sum
def Z8 (lim sold:List Int):Bool:=Zfo lim && (decide (sold.length=lim.length) && decide (∀ k,k<lim.length->(0<=sold.getD k 0/\sold.getD k 0<=10000)/\ZaN sold k<=lim.getD k 0))
def mnF (x:Nat->Int):Nat->Int
 |0=>10000
 |k + 1=>if x k<mnF x k then x k else mnF x k
def Zd8 (lim sold:List Int) (k:Nat):Int:=lim.getD k 0 - ZaN sold k
def ZbJ (lim sold:List Int) (c:Int):Int × Int:=if Z8 lim sold=true/\0<=c/\c<lim.length then (mnF (Zd8 lim sold) (c.toNat + 1),0) else (0,1)
def Zbc (lim sold:List Int) (c many:Int):List Int × Int:=
 if (ZbJ lim sold c).2≠0\/many<1\/many>10000 then ([],1) else if many>(ZbJ lim sold c).1 then ([],3)
 else (sold.set c.toNat (sold.getD c.toNat 0 + many),0)
def Zgh (lim sold:List Int) (c many:Int):List Int × Int:=
 if (ZbJ lim sold c).2≠0\/many<1\/many>sold.getD c.toNat 0 then ([],1) else (sold.set c.toNat (sold.getD c.toNat 0 - many),0)
def ZnU (x:Nat->Int) (a b:Nat) (L:Int):Prop:=L<=10000/\(∀ k,a<=k->k<b->L<=x k)/\(L=10000\/∃ k,a<=k/\k<b/\L=x k)
theorem Zos (x:Nat->Int):∀ k,ZnU x 0 k (mnF x k)
 |0=>⟨by simp [mnF],λ k h0 h1=>by omega,.inl rfl⟩
 |k + 1=>by
  obtain ⟨h1,h2,h3⟩:=Zos x k;unfold mnF;split
  ·exact ⟨by omega,λ j a b=>by
    by_cases hj:j=k
    ·rw [hj];exact Int.le_refl _
    ·have:=h2 j a (by omega);omega,.inr ⟨k,by omega,by omega,rfl⟩⟩
  ·refine ⟨h1,λ j a b=>?_,?_⟩
   ·by_cases hj:j=k
    ·rw [hj];omega
    ·exact h2 j a (by omega)
   ·rcases h3 with h3|⟨j,a,b,c⟩
    ·exact .inl h3
    ·exact .inr ⟨j,a,by omega,c⟩
theorem ZnU.eq {x:Nat->Int} {a b:Nat} {L L':Int} (h:ZnU x a b L) (h':ZnU x a b L'):L=L':=by
 obtain ⟨h1,h2,h3⟩:=h;obtain ⟨h1',h2',h3'⟩:=h';have a1:L<=L':=by
  rcases h3' with h|⟨k,k1,k2,k3⟩
  ·omega
  ·rw [k3];exact h2 k k1 k2
 have a2:L'<=L:=by
  rcases h3 with h|⟨k,k1,k2,k3⟩
  ·omega
  ·rw [k3];exact h2' k k1 k2
 omega
theorem ZnU.step {x:Nat->Int} {a b:Nat} {L:Int} (h:ZnU x (a + 1) b L) (hab:a<b):ZnU x a b (if x a<L then x a else L):=by
 obtain ⟨h1,h2,h3⟩:=h;split
 ·exact ⟨by omega,λ k k1 k2=>by
   by_cases hk:k=a
   ·rw [hk];exact Int.le_refl _
   ·have:=h2 k (by omega) k2;omega,.inr ⟨a,by omega,hab,rfl⟩⟩
 ·refine ⟨h1,λ k k1 k2=>?_,?_⟩
  ·by_cases hk:k=a
   ·rw [hk];omega
   ·exact h2 k (by omega) k2
  ·rcases h3 with h|⟨k,k1,k2,k3⟩
   ·exact .inl h
   ·exact .inr ⟨k,by omega,k2,k3⟩
theorem ZnU.skip {x:Nat->Int} {a b:Nat} {L:Int} (h:ZnU x (a + 1) b L) (hab:¬ a<b):ZnU x a b L:=by
 obtain ⟨h1,h2,h3⟩:=h;refine ⟨h1,λ k k1 k2=>by omega,?_⟩;rcases h3 with h|⟨k,k1,k2,k3⟩
 ·exact .inl h
 ·omega
theorem Za9 {sold:List Int} {k:Nat} (h:k<sold.length):ZaN sold k=sold[k] + ZaN sold (k + 1):=by
 unfold ZaN;rw [List.drop_eq_getElem_cons h,List.sum_cons]
theorem Zcj {sold:List Int} {k:Nat} (h:sold.length<=k):ZaN sold k=0:=by
 unfold ZaN;rw [List.drop_eq_nil_of_le h];rfl
theorem ZoG {sold:List Int} (h:∀ x∈sold,0<=x/\x<=10000):∀ k,0<=ZaN sold k/\ZaN sold k<=10000 * (sold.length - k:Nat):=by
 intro k;unfold ZaN;rw [<-List.length_drop];have:∀ x∈sold.drop k,0<=x/\x<=10000:=λ x hx=>h x (List.mem_of_mem_drop hx);generalize sold.drop k=l at *
 induction l with
 |nil=>simp
 |cons a l ih=>
  have:=ih λ x hx=>this x (List.mem_cons_of_mem _ hx);have:=‹∀ x∈a::l,0<=x/\x<=10000› a List.mem_cons_self;simp only [List.sum_cons,List.length_cons];omega
theorem Z0 {l:List Int} {k:Nat} (h:k<l.length):l.getD k 0=l[k]:=by rw [List.getD_eq_getElem?_getD,List.getElem?_eq_getElem h];rfl
theorem Zan {l:List Int}:Zfo l=true↔(1<=l.length/\l.length<=8)/\∀ k (h:k<l.length),(0<=l[k]/\l[k]<=10000)/\(0<k->l[k]<=l.getD (k - 1) 0):=by
 unfold Zfo;rw [Bool.and_eq_true,decide_eq_true_iff,decide_eq_true_iff];constructor
 ·rintro ⟨h1,h2⟩
  exact ⟨h1,λ k h=>by have:=h2 k h;rw [Z0 h] at this;exact this⟩
 ·rintro ⟨h1,h2⟩
  exact ⟨h1,λ k h=>by rw [Z0 h];exact h2 k h⟩
theorem ZT {lim sold:List Int}:Z8 lim sold=true↔Zfo lim=true/\sold.length=lim.length/\∀ k,k<lim.length->(0<=sold.getD k 0/\sold.getD k 0<=10000)/\ZaN sold k<=lim.getD k 0:=by
 unfold Z8;rw [Bool.and_eq_true,Bool.and_eq_true,decide_eq_true_iff,decide_eq_true_iff]
theorem Zed {lim sold:List Int} (h:¬ (Zfo lim=true/\sold.length=lim.length/\∀ k,k<lim.length->(0<=sold.getD k 0/\sold.getD k 0<=10000)/\ZaN sold k<=lim.getD k 0)):Z8 lim sold=false:=by
 rw [<-Bool.not_eq_true,ZT];exact h
theorem Zfc {x:Int} (hw:Sat R Hs w):Zm prog 234 #[nI x] w λ v w'=>v=.bool (inR x)/\Sat R Hs w':=by
 apply ZyE;unfold inR;refine Br.d (λ h=>⟨?_,hw⟩) (λ h=>⟨?_,hw⟩)
 ·congr 1;rw [decide_eq_decide];omega
 ·rw [decide_eq_false (by omega)]
theorem Zjf {sl ss:Sl} {lim sold:List Int} {ask:Value} {A:Nat->List HP} (hl:RoI R sl lim) (hs:RoI R ss sold)
  (hask:∀ j w,j<lim.length->Sat R (A (j + 1)) w->Zbq prog cl ask [nI j,nI (Zd8 lim sold j)] w λ e w'=>e=.returned (.tuple #[])/\Sat R (A j) w')
  (hw:Sat R (A lim.length) w):
  Zm prog 201 #[.slice sl.a sl.len sl.cap,.slice ss.a ss.len ss.cap,ask] w λ v w'=>v=.bool (Z8 lim sold)/\∃ j,Sat R (A j) w'/\(Z8 lim sold=true->j=0):=by
 have hll:=hl.len;have hsl:=hs.len;have hlb:=hl.bound;have hsb:=hs.bound;apply ZyU;have no:∀ j w,Sat R (A j) w->Z8 lim sold=false->Value.bool false=.bool (Z8 lim sold)/\∃ j,Sat R (A j) w/\(Z8 lim sold=true->j=0):=λ j w h e=>⟨by rw [e],j,h,λ h=>by rw [e] at h;cases h⟩;have nl:¬ (1<=lim.length/\lim.length<=8)->Z8 lim sold=false:=λ h=>Zed λ h2=>h (Zan.1 h2.1).1;refine ⟨λ w=>(1<=lim.length/\lim.length<=8/\sold.length=lim.length)/\Sat R (A lim.length) w,?_,?_⟩
 ·refine Br.d (λ h=>no _ _ hw (nl (by omega))) (λ h1=>Br.d (λ h=>no _ _ hw (nl (by omega))) (λ h2=>Br.ne (λ h=>no _ _ hw (Zed λ h3=>by omega)) (λ h3=>⟨⟨by omega,by omega,by omega⟩,hw⟩)))
 clear hw;rintro _ w ⟨⟨h1,h2,h3⟩,hw⟩;refine ⟨λ sum fine i w=>∃ j:Nat,i=(j:Int) - 1/\j<=lim.length/\sum=ZaN sold j/\(∀ x∈sold.drop j,0<=x/\x<=10000)/\
   (∀ k (h:k<lim.length),j<=k->(0<=lim[k]/\lim[k]<=10000)/\(0<k->lim[k]<=lim.getD (k - 1) 0))/\fine=decide (∀ k,k<lim.length->j<=k->ZaN sold k<=lim.getD k 0)/\Sat R (A j) w,
  λ _ _ i _=>(i + 1).toNat,⟨lim.length,?_,by omega,?_,?_,λ k h h'=>by omega,?_,hw⟩,?_⟩
 ·rw [hll,Zf]
 ·rw [Zcj (by omega)]
 ·rw [List.drop_eq_nil_of_le (by omega)];simp
 ·rw [decide_eq_true];intro k h h';omega
 clear hw;rintro _ _ fine _ w ⟨j,rfl,hj,rfl,hsm,hlm,rfl,hw⟩;refine Br.d (λ h=>?_) (λ h=>?_)
 ·obtain ⟨i,rfl⟩:∃ i,j=i + 1:=⟨j - 1,by omega⟩
  rw [show ((i + 1:Nat):Int) - 1=(i:Int) by omega];have hil:i<lim.length:=by omega
  have his:i<sold.length:=by omega
  have nlim:¬ ((0<=lim[i]/\lim[i]<=10000)/\(0<i->lim[i]<=lim.getD (i - 1) 0))->Z8 lim sold=false:=λ h=>Zed λ h2=>h ((Zan.1 h2.1).2 i hil);have nsold:¬ (0<=sold[i]/\sold[i]<=10000)->Z8 lim sold=false:=λ h=>Zed λ h2=>h (by have:=(h2.2.2 i hil).1;rw [Z0 his] at this;exact this);refine ⟨λ w=>(inR lim[i]=true/\inR sold[i]=true/\(0<i->lim[i]<=lim.getD (i - 1) 0))/\Sat R (A (i + 1)) w,?_,?_⟩
  ·refine Zo hw λ w hw=>?_
   refine Ro.ix hl Zbg i rfl hil ?_;refine (Zfc hw).u λ w hw=>?_;refine ⟨_,rfl,hw,Br.nb (λ h=>no _ _ hw (nlim λ h2=>by unfold inR at h;have:=of_decide_eq_false h;omega)) (λ h4=>?_)⟩;refine Ro.ix hs Zbg i rfl his ?_;refine (Zfc hw).u λ w hw=>?_;refine ⟨_,rfl,hw,Br.nb (λ h=>no _ _ hw (nsold λ h2=>by unfold inR at h;have:=of_decide_eq_false h;omega)) (λ h5=>?_)⟩;refine Br.d (λ h6=>?_) (λ h6=>⟨⟨h4,h5,λ h=>by omega⟩,hw⟩);refine Ro.ix hl Zbg i rfl hil ?_;refine Ro.ix hl Zbg (i - 1) (by rw [Zf];omega) (by omega) ?_;refine Br.d (λ h7=>no _ _ hw (nlim λ h8=>?_)) (λ h7=>⟨⟨h4,h5,λ _=>by rw [Z0 (by omega)];omega⟩,hw⟩);have:=h8.2 (by omega);rw [Z0 (by omega)] at this;omega
  clear hw;rintro _ w ⟨⟨h4,h5,h6⟩,hw⟩;have h4:=of_decide_eq_true h4;have h5:=of_decide_eq_true h5;have hsm':∀ x∈sold.drop i,0<=x/\x<=10000:=λ x hx=>by
   rw [List.drop_eq_getElem_cons his] at hx;rcases List.mem_cons.1 hx with rfl|hx
   ·exact h5
   ·exact hsm x hx
  have hfs:=Za9 his;have hfb:0<=ZaN sold (i + 1)/\ZaN sold (i + 1)<=80000:=by
   have:=ZoG (sold:=sold.drop (i + 1)) hsm 0;unfold ZaN at this ⊢;rw [List.drop_zero] at this;rw [List.length_drop] at this;omega
  have hroom:wI (lim[i] - ZaN sold i)=Zd8 lim sold i:=by
   rw [Zf];unfold Zd8;rw [Z0 hil]
  have hsum:wI (ZaN sold (i + 1) + sold[i])=ZaN sold i:=by rw [Zf];omega
  have hk:wI ((i:Int) - 1)=(i:Int) - 1:=Zf;have fin:∀ w,Sat R (A i) w->∀ b:Bool,b=(decide (∀ k,k<lim.length->i + 1<=k->ZaN sold k<=lim.getD k 0) && decide (ZaN sold i<=lim[i]))->
    (∃ j:Nat,(i:Int) - 1=(j:Int) - 1/\j<=lim.length/\ZaN sold i=ZaN sold j/\(∀ x∈sold.drop j,0<=x/\x<=10000)/\
     (∀ k (h:k<lim.length),j<=k->(0<=lim[k]/\lim[k]<=10000)/\(0<k->lim[k]<=lim.getD (k - 1) 0))/\b=decide (∀ k,k<lim.length->j<=k->ZaN sold k<=lim.getD k 0)/\Sat R (A j) w)/\((i:Int) - 1 + 1).toNat<((i:Int) + 1).toNat:=λ w hw b hb=>by
   refine ⟨⟨i,rfl,by omega,rfl,hsm',λ k h h'=>?_,?_,hw⟩,by omega⟩
   ·by_cases hki:k=i
    ·subst hki;exact ⟨h4,h6⟩
    ·exact hlm k h (by omega)
   ·rw [hb,<-Bool.decide_and,decide_eq_decide]
    constructor
    ·rintro ⟨a,b⟩ k c d
     by_cases hki:k=i
     ·subst hki;rw [Z0 hil];exact b
     ·exact a k c (by omega)
    ·intro a
     exact ⟨λ k c d=>a k c (by omega),by have:=a i hil (by omega);rw [Z0 hil] at this;exact this⟩
  refine Ro.ix hs (eqS hw) i rfl his ?_;rw [hsum,hk];refine Br.d (λ h7=>?_) (λ h7=>?_)
  ·refine Ro.ix hl (eqS hw) i rfl hil (Ro.ix hl (eqS hw) i rfl hil ?_)
   rw [hroom];refine (hask i w hil hw).mono ?_;rintro _ w ⟨rfl,hw⟩;exact ⟨rfl,fin w hw _ (by rw [decide_eq_true h7];rfl)⟩
  ·refine Ro.ix hl (eqS hw) i rfl hil ?_
   rw [hroom];refine (hask i w hil hw).mono ?_;rintro _ w ⟨rfl,hw⟩;exact ⟨rfl,fin w hw _ (by rw [decide_eq_false h7];rfl)⟩
 ·obtain rfl:j=0:=by omega
  have e:Z8 lim sold=decide (∀ k,k<lim.length->0<=k->ZaN sold k<=lim.getD k 0):=by
   rw [Bool.eq_iff_iff,ZT,decide_eq_true_iff];constructor
   ·intro h k h4 _;exact (h.2.2 k h4).2
   ·intro h
    refine ⟨Zan.2 ⟨⟨h1,h2⟩,λ k h4=>hlm k h4 (by omega)⟩,h3,λ k h4=>⟨?_,h k h4 (by omega)⟩⟩;rw [Z0 (by omega)];exact hsm _ (by rw [List.drop_zero];exact List.getElem_mem _)
  exact ⟨by rw [e],0,hw,λ _=>rfl⟩
end
end Go.Proofs.YtlplemdmegpoeaaGreatDoor
